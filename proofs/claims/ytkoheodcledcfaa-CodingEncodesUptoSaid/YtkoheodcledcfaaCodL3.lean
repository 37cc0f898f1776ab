/- The law CodingAlike; rows of numbers that came in, copied. -/
import Derived.Test.YtkoheodcledcfaaCodL1
import Derived.Test.YtkoheodcledcfaaLaw
import Derived.Deep.DeepCutAuto
import Derived.Deep.LoopGhost
import Derived.BigQuiet
namespace Go.Proofs.Ytkoheodcledcfaa
open Go.RowKit

/-- a row that came in, as an append's source -/
theorem Ints.src {w0 w : World} {v : Value} {xs : List Int} (h : Ints .i64 w0 v xs) (m : Mut [] w0 w) : Src Try.prog 1 23 v xs.length (xs.map (Value.int .i64)) w := by
  obtain ⟨ao, cap, rfl, h1, h2, h3, -⟩ := h
  cases ao with
  | none =>
    have : xs = [] := by
      cases xs with
      | nil => rfl
      | cons x r => obtain ⟨b, off, hb, _⟩ := h3 (by simp); simp at hb
    subst this
    exact Src.ofNil w Try.underlying23 cap
  | some a =>
    refine Src.ofSlice w Try.underlying23 a xs.length cap _ (by simp) (fun j u hu => ?_) (fun u hu => ?_)
    · by_cases hj : j < xs.length
      · obtain ⟨b, off, hb, hlt, hc⟩ := h3 (by omega)
        simp at hb
        subst hb
        rw [Addr.add_lit]
        refine m.cell (by rw [hc j hj]; simp [hj] at hu; simp [List.getD, hj, hu]) (by simp)
      · rw [List.getElem?_eq_none (by rw [List.length_map]; omega)] at hu
        simp at hu
    · obtain ⟨z, _, rfl⟩ := List.mem_map.1 hu
      rfl

/-- a row that came in, as the walk reads it -/
theorem Ints.read {w0 : World} {v : Value} {xs : List Int} (h : Ints .i64 w0 v xs) : ∃ p cap, v = .slice p xs.length cap ∧ ∀ w', Mut [] w0 w' → ∀ i, i < xs.length → ∃ a : Addr, p = some a ∧ w'.cell? (a.add i) = some (.int .i64 (xs.getD i 0)) := by
  obtain ⟨ao, cap, rfl, h1, h2, h3, -⟩ := h
  refine ⟨ao, cap, rfl, fun w' m i hi => ?_⟩
  obtain ⟨b, off, rfl, hlt, hc⟩ := h3 (by omega)
  refine ⟨_, rfl, ?_⟩
  rw [Addr.add_lit]
  exact m.cell (hc i hi) (by simp)

theorem IRow.empty (w : World) : IRow (w.alloc (.cells #[] 3)) (.slice (some ⟨w.heap.size, 0, none⟩) 0 0) [] :=
  ⟨rfl, .inr ⟨w.heap.size, 0, #[], rfl, Nat.zero_le _, heap_alloc_new w _, Nat.le_refl _, by decide, rfl, rfl⟩⟩

/-- what an append of a row has laid -/
theorem IRow.of_app {w' : World} {v' : Value} {L : List Int} (h : w'.ownsRow 0 3 1 v' (0 + L.length) ([] ++ L.map (Value.int .i64))) : IRow w' v' L := by
  unfold IRow
  rw [Nat.zero_add, List.nil_append] at h
  exact h

theorem begins_self (m t : List Nat) : begins (m ++ t) m = true := (begins_iff _ _).2 ⟨t, rfl⟩

theorem sniff_mark (c : Nat) (hc : 1 ≤ c ∧ c ≤ 3) (t : List Nat) : sniff (markB c ++ t) = c := by
  rcases (show c = 1 ∨ c = 2 ∨ c = 3 by omega) with rfl | rfl | rfl
  · unfold sniff; rw [if_pos (begins_self _ _)]
  · have h1 : begins (markB 2 ++ t) (markB 1) = false := by
      cases h : begins (markB 2 ++ t) (markB 1) with
      | false => rfl
      | true => obtain ⟨u, hu⟩ := (begins_iff _ _).1 h; simp [markB] at hu
    unfold sniff; rw [h1, if_neg (by decide), if_pos (begins_self _ _)]
  · have h1 : begins (markB 3 ++ t) (markB 1) = false := by
      cases h : begins (markB 3 ++ t) (markB 1) with
      | false => rfl
      | true => obtain ⟨u, hu⟩ := (begins_iff _ _).1 h; simp [markB] at hu
    have h2 : begins (markB 3 ++ t) (markB 2) = false := by
      cases h : begins (markB 3 ++ t) (markB 2) with
      | false => rfl
      | true => obtain ⟨u, hu⟩ := (begins_iff _ _).1 h; simp [markB] at hu
    unfold sniff; rw [h1, h2, if_neg (by decide), if_neg (by decide), if_pos (begins_self _ _)]

/-- a text that begins with its mark is told as it was laid -/
theorem told_marked (c : Nat) (hc : 1 ≤ c ∧ c ≤ 4) (rs : List Int) (h : ∀ r ∈ rs, okRune r c) : runesOf (told c (markB c ++ encAll rs c)) = rs ∧ badOf (told c (markB c ++ encAll rs c)) = 0 := by
  have hst : startOf c (markB c ++ encAll rs c) = (markB c).length := by unfold startOf; rw [begins_self, if_pos rfl]
  obtain ⟨P, h1, h2⟩ := dec_encAll c hc rs h (markB c).length []
  rw [List.append_nil, decAll_nil, List.append_nil] at h2
  have e : told c (markB c ++ encAll rs c) = P := by
    unfold told
    rw [hst, List.drop_left, h2]
  rw [e]
  exact runes_of_ok P rs h1 (fun r hr => (h r hr).1)

theorem bytes_marked (c : Nat) (rs : List Int) (h : ∀ r ∈ rs, okRune r c) : bytesOf (strOf (markB c ++ encAll rs c)) = markB c ++ encAll rs c :=
  bytesOf_strOf _ (fun x hx => by
    rcases List.mem_append.1 hx with hx | hx
    · exact markB_lt c x hx
    · exact encAll_lt rs c h x hx)

set_option maxHeartbeats 1600000 in
set_option maxRecDepth 1000000 in
theorem lawCodingAlike {w : World} (v : Value) (xs : List Int) (hx : Ints .i64 w v xs) (hs : xs.length ≤ 1048576) : Calls Try.prog 6 #[v] w fun e w' => e = .returned (.bool true) ∧ Below w.heap.size w w' := by
  obtain ⟨p0, c0, rfl, k0⟩ := hx.read
  have HX := Lib.hid hx
  have K0 := Lib.hid k0
  clear hx k0
  obtain ⟨i0, hi, hz0, hz1, hz2⟩ := info_parts info_int
  go_enter Try.func6, Try.ntmps6
  go_wp2_with fail
  refine (speaks_any w).mono ?_
  rintro e w1 ⟨rfl, m1⟩
  have M1 := Lib.hid m1
  clear m1
  go_wp2_with fail
  go_loopw [3] (fun x wx => ∃ c : Nat, x = .int .i64 (c : Int) ∧ 1 ≤ c ∧ c ≤ 4 ∧ Hid (Mut [] w wx)) (fun x _ => 4 - (intOf x).toNat)
  case atStart => exact ⟨1, rfl, by omega, by omega, M1⟩
  case round =>
    obtain ⟨c, rfl, hc1, hc4, MW⟩ := hrel
    clear M1
    by_cases hend : c ≤ 3
    · have hendI : (c : Int) ≤ 3 := by omega
      go_wp2_with (at_builtin; (refine wp_app rfl (.tmp 15) (.tmp 16) 23 23 rfl 3 i0 (.int .i64 0) 1 8 Try.underlying23 hi hz0 hz1 hz2 rfl (IRow.empty _) rfl (HX.out.src (MW.out.alloc _)) rfl (by rw [List.length_nil]; unfold maxLen; omega) (by rw [List.length_nil]; omega) ?_))
      intro v1 w2 g1 g2 g3
      have hv1 : IRow w2 v1 xs := g1
      have M2 := Lib.hid ((MW.out.alloc (.cells #[] 3)).grown g2 (fun k hk => .inr (by simp [Value.ownBlock] at hk; have := MW.out.size; omega)))
      clear g1 g2 g3
      have HC0 : Hid (c ≤ 3 ∧ 1 ≤ c) := Lib.hid ⟨hend, hc1⟩
      go_wp2_with fail
      refine (encode_go xs c true ⟨hc1, by omega⟩ (by omega) v1 w2 hv1).mono ?_
      rintro e w3 ⟨rfl, m3⟩
      have M3 := Lib.hid (M2.out.trans m3 (by simp))
      clear m3 hv1 M2
      by_cases hok : ∀ r ∈ xs, okRune r c
      · have HOK := Lib.hid hok
        rw [encRes_ok hok, if_pos rfl]
        obtain ⟨sz, hsz⟩ : ∃ sz, (strOf (markB c ++ encAll xs c)) = sz := ⟨_, rfl⟩
        have HS := Lib.hid hsz
        rw [hsz]
        have hb : bytesOf sz = markB c ++ encAll xs c := by rw [← hsz]; exact bytes_marked c xs hok
        have hlen : sz.size ≤ 16777216 := by
          rw [← bytesOf_length, hb, List.length_append]
          have := markB_len c
          have := encAll_len xs c
          omega
        have HB := Lib.hid hb
        have hco : codingOf 0 (bytesOf sz) = c := by
          rw [hb]
          unfold codingOf
          rw [if_pos rfl, sniff_mark c ⟨hc1, hend⟩]
        have HCO := Lib.hid hco
        obtain ⟨t1, t2⟩ := told_marked c ⟨hc1, hc4⟩ xs hok
        rw [← hb] at t1 t2
        have T1 := Lib.hid t1
        have T2 := Lib.hid t2
        have hdec := decode_go sz 0 true (by decide) hlen w3
        rw [hco] at hdec
        have HDEC := Lib.hid hdec
        clear hdec hok hsz hb hco t1 t2
        go_wp2_with fail
        refine HDEC.out.mono ?_
        rintro e w4 ⟨x, rfl, hp, m4⟩
        obtain ⟨vr, vp, rfl, hr, hq⟩ := hp.whole T2.out
        rw [T1.out] at hr
        obtain ⟨p1, c1, rfl, k1⟩ := hr.read
        obtain ⟨p2, c2, rfl, -⟩ := hq.read
        have K1 := Lib.hid k1
        have M4 := Lib.hid (M3.out.trans m4 (by simp))
        have hcc : ((c : Int) == (c : Int)) = true := by simp
        clear hr hp hq k1 m4
        go_wp2_with fail
        refine (ints_any _ _ p1 p0 c1 c0 xs xs (by omega) _ rfl rfl (fun i hi => K1.out _ (((Mut.refl [] w4).alloc _).alloc _) i hi) (fun i hi => K0.out _ ((M4.out.alloc _).alloc _) i hi)).mono ?_
        rintro e w5 ⟨rfl, n, rfl⟩
        rw [decide_eq_true (rfl : xs = xs)]
        go_wp2_with fail
        refine ⟨⟨c + 1, by rw [Int.natCast_add]; rfl, by omega, by omega, Lib.hid (((M4.out.alloc _).alloc _).drewN n)⟩, by simp only [intOf]; omega⟩
      · rw [show encRes xs c true = .tuple #[.string ByteArray.empty, .int .i64 17] from by unfold encRes; rw [if_neg hok]]
        go_wp2_with fail
        exact bodyPost_ret (results_tmp rfl _ _ _) rfl ⟨rfl, M3.out.nil (by simp)⟩
    · have hendI : ¬ (c : Int) ≤ 3 := by omega
      go_wp2_with fail
      exact bodyPost_ret (results_tmp rfl _ _ _) rfl ⟨rfl, MW.out.nil (by simp)⟩

end Go.Proofs.Ytkoheodcledcfaa
