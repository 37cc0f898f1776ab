/- Walk over the law GzBounds. -/
import Derived.Test.YtgjcnembeebjfaaGzBq
import Derived.Test.YtgjcnembeebjfaaGzK
import Derived.Test.YtgjcnembeebjfaaStrsI
import Derived.Deep.RegionWith
import Derived.BigQuiet
import Derived.Deep.LoopGhost
import Derived.Deep.DeepCutAuto
namespace Go.Proofs.Ytgjcnembeebjfaa
open Go.RowKit
set_option linter.unusedVariables false

set_option maxRecDepth 100000 in
/-- no part, or too many of them -/
theorem gz_write_none (pp : Option Addr) (n cc : Nat) (hn : n = 0 ∨ 1024 < n) (v : Value) (w : World) :
    Calls Try.prog 16 #[.slice pp n cc, v] w fun e w' => e = .returned (.tuple #[.string .empty, .int .i64 1]) ∧ Mut [] w w' := by
  go_enter Try.func16, Try.ntmps16
  rcases hn with rfl | hn
  · go_wp2_with fail
    exact bodyPost_ret (results_tmp2 rfl _ _ _) rfl ⟨rfl, Mut.refl _ _⟩
  · have hn0 : ((n : Int) == 0) = false := by rw [beq_eq_false_iff_ne]; omega
    have hn1 : (1024 : Int) < (n : Int) := by omega
    go_wp2_with fail
    exact bodyPost_ret (results_tmp2 rfl _ _ _) rfl ⟨rfl, Mut.refl _ _⟩

/-- where the loop over the texts is -/
structure BdS (w0 wx : World) (v : Value) (T : List ByteArray) : Prop where
  row : wx.ownsRow 0 37 9 v T.length (gpL (dataP T))
  fr : ∀ g, v.ownBlock = some g → w0.heap.size ≤ g
  mu : Mut [] w0 wx

theorem dataP_snoc (T : List ByteArray) (d : ByteArray) : dataP (T ++ [d]) = dataP T ++ [{ data := d }] := by simp [dataP]
theorem dataP_len (T : List ByteArray) : (dataP T).length = T.length := by simp [dataP]
theorem BdS.app {w0 wx w1 : World} {v v' : Value} {T : List ByteArray} {d : ByteArray} {o : Obj} (h : BdS w0 wx v T)
    (hr1 : w1.ownsRow 0 37 9 v' (T.length + 1) (gpL (dataP T) ++ gpC { data := d })) (hg1 : (wx.alloc o).grownBy w1 v.ownBlock) (hf1 : ∀ g, v'.ownBlock = some g → v.ownBlock = some g ∨ wx.heap.size + 1 ≤ g) : BdS w0 w1 v' (T ++ [d]) := by
  have hm : Mut v.ownBlock.toList wx w1 := ((Mut.refl _ wx).alloc o).grown hg1 (fun k hk => .inl (by simp [hk]))
  refine ⟨?_, fun g hg => (hf1 g hg).elim (fun h' => h.fr g h') (fun h' => by have := h.mu.size; omega), h.mu.trans hm (fun y hy => .inr (h.fr y (by simpa using hy)))⟩
  rw [List.length_append, dataP_snoc, gpL_snoc]
  exact hr1

/-- what the law asks of the file -/
theorem bounds_ans (T : List ByteArray) (hne : T ≠ []) (hl : T.length ≤ 20) (hz : (T.map ByteArray.size).sum ≤ 1048576) :
    ∃ s : ByteArray, bytesOf s = fileL (dataP T) [] ∧ s.size ≤ 200000000 ∧ RdAns s (T.map ByteArray.size).sum T.length 0 0 (dataP T) ∧ ∀ k, k < (T.map ByteArray.size).sum → ∃ f, RdAns s k 0 2 f [] := by
  obtain ⟨h1, fu, h2, ⟨e, h3⟩, h4⟩ := bounds_plain T hne hl hz
  refine ⟨fileS (dataP T) [], fileS_bytes _ _, h1, ?_, ?_⟩
  · have := ans_of fu _ h2 _ (by omega) (by omega) _ h3
    simp only [RL, RC, RF, dataP_len] at this
    exact this
  · intro k hk
    obtain ⟨f, hf⟩ := h4 k hk
    have := ans_of fu _ h2 _ (by omega) (by omega) _ hf
    exact ⟨f, this⟩

set_option maxHeartbeats 3200000 in
set_option maxRecDepth 100000 in
theorem lawGzBounds {w : World} (v : Value) (ss : List ByteArray) (hs : Strs w v ss) (hsz : (ss.map ByteArray.size).sum ≤ 1048576) :
    Calls Try.prog 7 #[v] w fun e w' => e = .returned (.bool true) ∧ Below w.heap.size w w' := by
  obtain ⟨ao, cap, rfl, hmax, hcell⟩ := hs
  have HCELL := Lib.hid hcell
  have HSZ := Lib.hid hsz
  have hmax' : ss.length ≤ 9223372036854775807 := by unfold maxLen at hmax; omega
  have HS := Lib.hid (speaks5_any w)
  clear hcell hmax hsz
  go_enter Try.func7, Try.ntmps7
  go_wp2_with fail
  refine HS.out.mono ?_
  rintro e w1 ⟨rfl, hm⟩
  have HS0 : Hid (BdS w w1 (.slice none 0 0) (ss.take 0)) := Lib.hid ⟨World.ownsRow_nil _ _ _ _, by simp [Value.ownBlock], hm⟩
  clear hm HS
  go_wp2_with fail
  go_loopg [3, 4, 5] 20 (fun g l z c wr => ∃ (i S : Nat) (p : Option Addr) (q : Nat), g = 20 - i ∧ l = .slice p i q ∧ z = .int .i64 (S : Int) ∧ c = .int .i64 (i : Int) ∧ i ≤ ss.length ∧ i ≤ 20 ∧ S ≤ 1048576 ∧ Hid (((ss.take i).map ByteArray.size).sum = S) ∧ Hid (BdS w wr (.slice p i q) (ss.take i)))
  case atStart => exact ⟨0, 0, none, 0, rfl, rfl, rfl, rfl, Nat.zero_le _, by omega, by omega, Lib.hid rfl, HS0⟩
  case round =>
    obtain ⟨i, S, p, q, rfl, rfl, rfl, rfl, hi, hi20, hS, HSUM, HR⟩ := hrel
    clear HS0
    by_cases hgo : i < ss.length ∧ i < 20
    case pos =>
      obtain ⟨h1, h2⟩ := hgo
      have h1I : (i : Int) < (ss.length : Int) := by omega
      have h2I : (i : Int) < 20 := by omega
      have hi0 : (0 : Int) ≤ (i : Int) := by omega
      obtain ⟨a, rfl, hc⟩ := HCELL.out i h1
      have hc0 := hc
      have hc := HR.out.mu.cell hc (by simp)
      have htk : ss.take (i + 1) = ss.take i ++ [ss.getD i ByteArray.empty] := by rw [List.take_succ_eq_append_getElem h1]; simp [List.getD, h1]
      have hlen : (ss.take i).length = i := by rw [List.length_take]; omega
      generalize ss.getD i ByteArray.empty = d at *
      have HTK := Lib.hid (And.intro htk hlen)
      have hS2 : S + d.size ≤ 1048576 := by
        have h3 : ((ss.take (i + 1)).map ByteArray.size).sum ≤ (ss.map ByteArray.size).sum := by
          have e : (ss.map ByteArray.size).sum = ((ss.take (i + 1)).map ByteArray.size).sum + ((ss.drop (i + 1)).map ByteArray.size).sum := by
            rw [← List.sum_append, ← List.map_append, List.take_append_drop]
          omega
        rw [htk, List.map_append, List.sum_append, HSUM.out] at h3
        have := HSZ.out
        simp at h3
        omega
      have HSUM2 : Hid (((ss.take (i + 1)).map ByteArray.size).sum = S + d.size) := Lib.hid (by rw [htk, List.map_append, List.sum_append, HSUM.out]; simp)
      obtain ⟨i0, hi0', hz0, hz1, hz2⟩ := info_parts info_gp
      have hrow := HR.out.row.mut' ((Mut.refl [] wr).alloc (.cells (gpC { data := d }).toArray 37)) (by simp)
      rw [hlen] at hrow
      clear htk hlen
      go_upto_region 8 with fail
      go_wp2_with (at_builtin; refine wp_app rfl (.tmp 24) (.tmp 30) 23 23 rfl 37 i0 (gpV {}) 9 96 Try.underlying23 hi0' hz0 hz1 hz2 rfl hrow rfl (src1 Try.underlying23 (heap_alloc_new wr _) rfl (gp_one { data := d })) rfl ?b1 ?b2 ?_)
      case b1 => unfold maxLen; omega
      case b2 => omega
      intro v' w5 hr5 hg5 hf5
      have hS5 : BdS w w5 v' (ss.take i ++ [d]) := HR.out.app (by rw [HTK.out.2]; exact hr5) hg5 hf5
      rw [← HTK.out.1] at hS5
      obtain ⟨G5, c5, e5, -, -⟩ := row_some hr5 (by omega)
      subst e5
      have HS5 := Lib.hid hS5
      have hc := hS5.mu.cell hc0 (by simp)
      clear hS5 hr5 hg5 hf5 hrow hi0' hz0 hz1 hz2 HR
      go_wp2_with fail
      go_roundg (20 - (i + 1))
      case measure => omega
      case rel => exact ⟨i + 1, S + d.size, _, _, rfl, rfl, by rw [Int.natCast_add], by rw [Int.natCast_add]; rfl, h1, h2, hS2, HSUM2, HS5⟩
    case neg =>
      obtain ⟨T, hT⟩ : ∃ T, ss.take i = T := ⟨_, rfl⟩
      have hTl : T.length = i := by rw [← hT, List.length_take]; omega
      rw [hT] at HR HSUM
      have hexit : ¬ (i : Int) < (ss.length : Int) ∨ ((i : Int) < (ss.length : Int) ∧ ¬ (i : Int) < 20) := by omega
      clear hgo hT
      have HTL := Lib.hid hTl
      clear hTl
      go_upto_region 6 with fail
      go_cut [21] (fun x wx => x = .bool false ∧ wx = wr)
      case first =>
        rcases hexit with h | ⟨h, h'⟩
        · go_wp2_with fail
          go_meet
          exact ⟨rfl, rfl⟩
        · go_wp2_with fail
          go_meet
          exact ⟨rfl, rfl⟩
      case rest =>
        obtain ⟨rfl, hw⟩ := hcut
        obtain rfl := hw.symm
        clear hexit HCELL HSZ hmax' hi hw
        by_cases h0 : i = 0
        · subst h0
          have HW := Lib.hid (gz_write_none p 0 q (.inl rfl) (.slice none 0 0) wr)
          have hse : ByteArray.empty.toList.isEmpty = true := by simp
          have HM := Lib.hid HR.out.mu
          clear HR
          go_wp2_with fail
          refine HW.out.mono ?_
          rintro e w2 ⟨rfl, hm⟩
          have HM2 := Lib.hid (HM.out.trans' hm)
          clear hm HW HM
          go_wp2_with fail
          go_ret
          exact ⟨rfl, HM2.out.nil (by simp)⟩
        · have hTne : T ≠ [] := fun h => h0 (by rw [← HTL.out, h]; rfl)
          obtain ⟨s, hs, hsl, hA1, hA2⟩ := bounds_ans T hTne (by rw [HTL.out]; exact hi20) (by rw [HSUM.out]; exact hS)
          rw [HSUM.out, HTL.out] at hA1
          rw [HSUM.out] at hA2
          have HA1 := Lib.hid hA1
          have HA2 := Lib.hid hA2
          have HW : Hid (Calls Try.prog 16 #[.slice p i q, .slice none 0 0] wr fun e w' => e = .returned (.tuple #[.string s, .int .i64 0]) ∧ Mut [] wr w') := Lib.hid (by
            have hr := HR.out.row
            have hl : (dataP T).length = i := by rw [dataP_len]; exact HTL.out
            have h := gz_write_ok (dataP T) (fun h => by rw [h] at hl; exact h0 hl.symm) (by omega) (by
              intro p hp
              unfold dataP at hp
              rw [List.mem_map] at hp
              obtain ⟨d, hd, rfl⟩ := hp
              refine ⟨rfl, ?_⟩
              have hle : ∀ (l : List ByteArray) d, d ∈ l → d.size ≤ (l.map ByteArray.size).sum := by
                intro l
                induction l with
                | nil => simp
                | cons x r ih =>
                  intro d hd
                  rw [List.map_cons, List.sum_cons]
                  rcases List.mem_cons.1 hd with rfl | h
                  · omega
                  · have := ih d h
                    omega
              have := hle T d hd
              rw [HSUM.out] at this
              change d.size ≤ 1048576
              omega) p q [] (by decide) (by simp) (.slice none 0 0) s hs (by omega) wr (by rw [hl]; rw [HTL.out] at hr; exact hr) (CRow.nil _ _)
            rw [hl] at h
            exact h)
          have HM := Lib.hid HR.out.mu
          have hi0' : ((i : Int) == 0) = false := by rw [beq_eq_false_iff_ne]; omega
          have hii : ((i : Int) == (i : Int)) = true := by simp
          clear HR hA1 hA2 hs hTne
          go_wp2_with fail
          refine HW.out.mono ?_
          rintro e w2 ⟨rfl, hm⟩
          have HM2 := Lib.hid (HM.out.trans' hm)
          clear hm HW HM
          go_wp2_with fail
          refine (HA1.out.2 _).mono ?_
          rintro e w3 ⟨p', c', rfl, -, hm⟩
          have HM3 := Lib.hid ((HM2.out.trans' hm).alloc (.cells #[.int .i64 0, .int .i64 0] 26))
          obtain ⟨c0, c1, -, -⟩ := cells2 (heap_alloc_new w3 (.cells #[.int .i64 0, .int .i64 0] 26))
          clear hm HM2 HA1
          go_upto_region 14 with fail
          generalize w3.alloc (.cells #[.int .i64 0, .int .i64 0] 26) = w4 at *
          generalize w3.heap.size = g4 at *
          go_cut [72] (fun x wx => x = .bool false ∧ wx = w4)
          case first =>
            go_wp2_with fail
            go_meet
            exact ⟨rfl, rfl⟩
          case rest =>
            obtain ⟨rfl, hw⟩ := hcut
            obtain rfl := hw.symm
            clear c0 c1 hw hi0' hii
            by_cases hS0 : S = 0
            · subst hS0
              clear HA2
              go_wp2_with fail
              go_ret
              exact ⟨rfl, HM3.out.nil (by simp)⟩
            · obtain ⟨k, hk⟩ : ∃ k, S = k + 1 := ⟨S - 1, by omega⟩
              have hkI : (S : Int) - 1 = (k : Int) := by omega
              obtain ⟨f, hA⟩ := HA2.out k (by omega)
              have HA := Lib.hid hA
              have hk2 : k ≤ 1048576 := by omega
              have hS0' : ((S : Int) == 0) = false := by rw [beq_eq_false_iff_ne]; omega
              clear HA2 hA hk
              go_wp2_with fail
              refine (HA.out.2 _).mono ?_
              rintro e w5 ⟨p5, c5, rfl, -, hm⟩
              have HM5 := Lib.hid ((HM3.out.trans' hm).alloc (.cells #[.int .i64 2, .int .i64 (f : Int)] 26))
              obtain ⟨c0, c1, -, -⟩ := cells2 (heap_alloc_new w5 (.cells #[.int .i64 2, .int .i64 (f : Int)] 26))
              clear hm HM3 HA
              go_upto_region 19 with fail
              generalize w5.alloc (.cells #[.int .i64 2, .int .i64 (f : Int)] 26) = w6 at *
              generalize w5.heap.size = g6 at *
              go_wp2_with fail
              go_ret
              exact ⟨rfl, HM5.out.nil (by simp)⟩

end Go.Proofs.Ytgjcnembeebjfaa
