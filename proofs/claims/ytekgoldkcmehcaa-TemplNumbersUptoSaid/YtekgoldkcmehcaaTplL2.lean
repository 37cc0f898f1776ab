/- The laws of templates: TemplPlain. -/
import Derived.Test.YtekgoldkcmehcaaTplL1
import Derived.Test.YtekgoldkcmehcaaTplQ
namespace Go.Proofs.Ytekgoldkcmehcaa
open Go.RowKit Go.Shelf
set_option linter.unusedVariables false

/-- a row of bytes that grows, new in this call -/
structure BkG (w0 : World) (v : Value) (M : List Nat) (w : World) : Prop where
  row : w.ownsRow 0 5 1 v M.length (u8L M)
  fresh : ∀ g, v.ownBlock = some g → w0.heap.size ≤ g
  kept : Mut [] w0 w

theorem BkG.form {w0 w : World} {v : Value} {M : List Nat} (h : BkG w0 v M w) : ∃ p c, v = .slice p M.length c := by
  rcases h.row.2 with ⟨h, h'⟩ | ⟨g, cap, _, h, _⟩
  · exact ⟨none, 0, by rw [h, h']⟩
  · exact ⟨_, cap, h⟩
theorem BkG.mut {w0 w w' : World} {v : Value} {M : List Nat} (h : BkG w0 v M w) (m : Mut [] w w') : BkG w0 v M w' := ⟨m.row h.row (by simp), h.fresh, h.kept.trans' m⟩
theorem BkG.app {w0 w w' : World} {v v' : Value} {M N : List Nat} {n : Nat} (h : BkG w0 v M w) (hn : N.length = n) (r1 : w'.ownsRow 0 5 1 v' (M.length + n) (u8L M ++ u8L N)) (r2 : w.grownBy w' v.ownBlock) (r3 : ∀ g, v'.ownBlock = some g → v.ownBlock = some g ∨ w.heap.size ≤ g) : BkG w0 v' (M ++ N) w' := by
  subst hn
  refine ⟨by rw [List.length_append, u8L, List.map_append]; exact r1, fun g hg => ?_, h.kept.grown r2 (fun k hk => .inr (h.fresh k hk))⟩
  rcases r3 g hg with h1 | h1
  · exact h.fresh g h1
  · have := h.kept.size
    omega
theorem BkG.nil {w0 w : World} (m : Mut [] w0 w) : BkG w0 (.slice none 0 0) [] w := ⟨World.ownsRow_nil _ _ _ _, by simp [Value.ownBlock], m⟩
theorem BkG.conv {w0 w : World} {v : Value} {M : List Nat} (h : BkG w0 v M w) : (convert 23 9 v).run Try.prog w = .ok (.string (strOf M)) w := by
  have h : w.ownsRow 0 5 1 v M.length ((M.map fun n : Nat => (n : Int)).map (Value.int .u8)) := by rw [List.map_map]; exact h.row
  rw [conv_row Try.underlying23 Try.underlying5 Try.underlying9 h]
  simp only [List.map_map]
  rfl

set_option maxHeartbeats 800000 in
set_option maxRecDepth 100000 in
theorem parse_long (s : ByteArray) (np : Value) (hs : 1024 < s.size) (w : World) :
    Calls Try.prog 6 #[.string s, np] w fun e w' => e = .returned (.tuple #[.slice none 0 0, .agg #[.int .i64 2, .int .i64 0]]) ∧ Mut [] w w' := by
  have hsI : (1024 : Int) < (s.size : Int) := by omega
  go_enter Try.func6, Try.ntmps6
  go_wp2_with fail
  exact bodyPost_ret (results_parse (heap_alloc_new' w _) rfl rfl) rfl ⟨rfl, (Mut.refl [] w).alloc _⟩

theorem mut_below {w w' : World} (h : Mut [] w w') : Below w.heap.size w w' := h.nil (by simp)

theorem byte36 (s : ByteArray) (i : Nat) (h : i < s.size) : ((s[i]'h) == 36) = decide ((bytesOf s).getD i 0 = 36) := by
  rw [← bytesOf_getD s i h]
  by_cases e : (s[i]'h).toNat = 36
  · rw [decide_eq_true e, beq_iff_eq]
    exact UInt8.toNat_inj.1 e
  · rw [decide_eq_false e, beq_eq_false_iff_ne]
    exact fun h => e (by rw [h]; rfl)

set_option maxHeartbeats 3200000 in
set_option maxRecDepth 100000 in
theorem lawTemplPlain {w : World} (s : ByteArray) (wd : s.size ≤ maxLen) (zd : s.size ≤ 1048576) :
    Calls Try.prog 3 #[.string s] w fun e w' => e = .returned (.bool true) ∧ Below w.heap.size w w' := by
  clear wd
  obtain ⟨D, hD⟩ : ∃ D, bytesOf s = D := ⟨_, rfl⟩
  have hDl : D.length = s.size := by rw [← hD, bytesOf_length]
  have HD := Lib.hid hD
  have HB : Hid (∀ i, (dbl (D.take i)).length ≤ 2097152) := Lib.hid fun i => by
    have h1 := dbl_len (D.take i)
    rw [List.length_take] at h1
    omega
  clear hD
  go_enter Try.func3, Try.ntmps3
  go_wp2_with fail
  refine (speaks_any _).mono ?_
  rintro e w1 ⟨rfl, hm1⟩
  have HG0 : Hid (BkG w (.slice none 0 0) [] w1) := Lib.hid (BkG.nil hm1)
  clear hm1
  go_wp2_with fail
  go_loopw [3, 4] (fun a b wx => ∃ (i : Nat) (M : List Nat) (p' : Option Addr) (c' : Nat), a = .slice p' M.length c' ∧ b = .int .i64 (i : Int) ∧ i ≤ s.size ∧ M.length ≤ 2097152 ∧ Hid (M = dbl (D.take i)) ∧ Hid (BkG w (.slice p' M.length c') M wx)) (fun a b _ => s.size - (intOf b).toNat)
  case atStart => exact ⟨0, [], none, 0, rfl, rfl, Nat.zero_le _, by simp, Lib.hid rfl, HG0⟩
  case round =>
    obtain ⟨i, M, p', c', rfl, rfl, hi, hMl, HM, HG⟩ := hrel
    clear HG0
    obtain ⟨i0, hi0, hz0, hz1, hz2⟩ := info_parts info_u8b
    by_cases hlt : i < s.size
    case pos =>
      have hI : (i : Int) < (s.size : Int) := by omega
      have hb := byte36 s i hlt
      have hx1 := bytesOf_getD s i hlt
      rw [HD.out] at hb hx1
      have HNX : Hid (dbl (D.take (i + 1)) = M ++ (if D.getD i 0 = 36 then [36, 36] else [D.getD i 0])) := Lib.hid (by
        have hil : i < D.length := by omega
        rw [List.take_succ_eq_append_getElem hil, dbl_app, ← HM.out]
        simp [dbl, List.getD, hil])
      have HB1 := Lib.hid (HB.out (i + 1))
      generalize D.getD i 0 = c at *
      generalize hv : Value.slice p' M.length c' = v at *
      have HV := Lib.hid hv
      clear hv HM
      go_wp2_with (at_builtin; refine wp_app rfl (.tmp 15) (.tmp 19) 23 23 rfl 5 i0 (.int .u8 0) 1 1 Try.underlying23 hi0 hz0 hz1 hz2 rfl (HG.out.mut ((Mut.refl [] wr).alloc _)).row rfl (src1 Try.underlying23 (heap_alloc_new wr _) rfl (one1 rfl)) rfl ?b1 ?b2 ?_)
      case b1 => unfold maxLen; omega
      case b2 => omega
      intro v' w2 r1 r2 r3
      have hg1 := (HG.out.mut ((Mut.refl [] wr).alloc (.cells #[.int .u8 (c : Int)] 5))).app (N := [c]) rfl r1 r2 (by simpa using r3)
      obtain ⟨p2, c2, e⟩ := hg1.form
      subst e
      have HG1 := Lib.hid hg1
      clear r1 r2 r3 hg1 HG HV
      have hM1 : (M ++ [c]).length ≤ 2097153 := by rw [List.length_append]; simp; omega
      by_cases h36 : c = 36
      · subst h36
        have hb' : (((s[i]'hlt).toNat : Int) == 36) = true := by rw [hx1]; rfl
        have HNX' : Hid (M ++ [36] ++ [36] = dbl (D.take (i + 1))) := Lib.hid (by rw [HNX.out, if_pos rfl, List.append_assoc]; rfl)
        clear hb HNX hx1
        generalize M ++ [36] = M1 at *
        generalize hv : Value.slice p2 M1.length c2 = v2 at *
        have HV := Lib.hid hv
        clear hv
        go_wp2_with (at_builtin; refine wp_app rfl (.tmp 25) (.tmp 26) 23 23 rfl 5 i0 (.int .u8 0) 1 1 Try.underlying23 hi0 hz0 hz1 hz2 rfl (HG1.out.mut ((Mut.refl [] w2).alloc _)).row rfl (src1 Try.underlying23 (heap_alloc_new w2 _) rfl (one1 rfl)) rfl ?b1 ?b2 ?_)
        case b1 => unfold maxLen; omega
        case b2 => omega
        intro v' w3 r1 r2 r3
        have hg2 := (HG1.out.mut ((Mut.refl [] w2).alloc (.cells #[.int .u8 36] 5))).app (N := [36]) rfl r1 r2 (by simpa using r3)
        obtain ⟨p3, c3, e⟩ := hg2.form
        subst e
        have HG2 := Lib.hid hg2
        clear r1 r2 r3 hg2 HG1 HV hi0 hz0 hz1 hz2
        have hM2 : (M1 ++ [36]).length ≤ 2097152 := by rw [HNX'.out]; exact HB1.out
        generalize M1 ++ [36] = M2 at *
        go_wp2_with fail
        exact ⟨⟨i + 1, M2, p3, c3, rfl, by rw [Int.natCast_add]; rfl, hlt, hM2, HNX', HG2⟩, by simp only [intOf]; omega⟩
      · have hb' : ((s[i]'hlt) == 36) = false := by rw [hb]; simp [h36]
        have HNX' : Hid (M ++ [c] = dbl (D.take (i + 1))) := Lib.hid (by rw [HNX.out, if_neg h36])
        have hM2 : (M ++ [c]).length ≤ 2097152 := by rw [HNX'.out]; exact HB1.out
        clear hb HNX hi0 hz0 hz1 hz2
        generalize M ++ [c] = M1 at *
        go_wp2_with fail
        exact ⟨⟨i + 1, M1, p2, c2, rfl, by rw [Int.natCast_add]; rfl, hlt, hM2, HNX', HG1⟩, by simp only [intOf]; omega⟩
    case neg =>
      obtain rfl : i = s.size := by omega
      have hI : ¬ (s.size : Int) < (s.size : Int) := by omega
      have hM : M = dbl D := by
        have := HM.out
        rwa [List.take_of_length_le (by omega)] at this
      have hcv := HG.out.conv
      have hMs : (strOf M).size = M.length := strOf_size M
      have HR : Hid (Runs 0 (strOf M).size (strOf M) [] (some (oneP s)) 0) := Lib.hid (by
        rw [hM, ← HD.out]
        exact plain_runs0 s _)
      have HGM := Lib.hid HG.out.kept
      clear hM HM HG hi0 hz0 hz1 hz2
      generalize strOf M = T at *
      by_cases hlong : 1024 < M.length
      · have HP := Lib.hid (parse_long T (.slice none 0 0) (by omega) wr)
        have hlI : (1024 : Int) < (M.length : Int) := by omega
        clear hMs HR
        go_wp2_with fail
        refine HP.out.mono ?_
        rintro e w2 ⟨rfl, hm⟩
        have hF := heap_alloc_new' w2 (.cells #[.int .i64 2, .int .i64 0] 27)
        have c0 := cellOf hF 0 (x := .int .i64 2) rfl
        have HE := Lib.hid (mut_below ((HGM.out.trans' hm).alloc (.cells #[.int .i64 2, .int .i64 0] 27)))
        clear hF HP hm
        go_wp2_with fail
        exact bodyPost_ret (results_tmp rfl _ _ _) rfl ⟨rfl, HE.out⟩
      · have HP := Lib.hid (parse_any T _ _ 0 none 0 (by omega) HR.out (by omega) wr)
        have hlI : ¬ (1024 : Int) < (M.length : Int) := by omega
        have hsT : (oneP s).length ≤ 1 := by unfold oneP; split <;> simp
        clear hMs HR
        go_wp2_with fail
        refine HP.out.mono ?_
        rintro e w2 ⟨v2, rfl, ⟨p4, c4, rfl, hrow, -⟩, hm⟩
        have hF := heap_alloc_new' w2 (.cells #[.int .i64 0, .int .i64 0] 27)
        have c0 := cellOf hF 0 (x := .int .i64 0) rfl
        have c1 := cellOf hF 1 (x := .int .i64 0) rfl
        have hM3 := (HGM.out.trans' hm).alloc (.cells #[.int .i64 0, .int .i64 0] 27)
        have hM4 := (Mut.refl [] w2).alloc (.cells #[.int .i64 0, .int .i64 0] 27)
        have HX : Hid (Calls Try.prog 7 #[.slice p4 (oneP s).length c4, .string .empty, .slice none 0 0] (w2.alloc (.cells #[.int .i64 0, .int .i64 0] 27)) fun e w' => e = .returned (.string s) ∧ Mut [] (w2.alloc (.cells #[.int .i64 0, .int .i64 0] 27)) w') := Lib.hid (by
          refine expand_any (oneP s) (fun p => p.1) p4 c4 .empty s (.slice none 0 0) ?_ (by omega) (by omega) _ (hM4.row hrow (by simp)) (fun x hx w' hm' => ?_)
          · unfold oneP
            split
            · rename_i h; subst h; rfl
            · rw [outOf_one]
          · unfold oneP at hx
            split at hx
            · simp at hx
            · simp at hx
              subst hx
              exact part_text _ _ _ w')
        have HM3 := Lib.hid hM3
        obtain ⟨k, hk⟩ : ∃ k, (oneP s).length = k := ⟨_, rfl⟩
        rw [hk] at HX hsT
        have hkI : (k : Int) ≤ 1 := by omega
        clear hF HP hm hrow hM3 hM4 HGM
        go_wp2_with fail
        refine HX.out.mono ?_
        rintro e w3 ⟨rfl, hm⟩
        have HE := Lib.hid (mut_below (HM3.out.trans' hm))
        clear hm HM3 HX c0 c1
        go_wp2_with fail
        exact bodyPost_ret (results_tmp rfl _ _ _) rfl ⟨by simp, HE.out⟩

end Go.Proofs.Ytekgoldkcmehcaa
