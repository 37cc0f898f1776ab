/- Walks over package huff: lay. -/
import Derived.Test.YtgjcnembeebjfaaGFc
import Derived.Deep.RegionLaw
import Derived.Deep.RegionWith
import Derived.Deep.DrawnRows
namespace Go.Proofs.Ytgjcnembeebjfaa
open Go.RowKit

set_option maxHeartbeats 1600000 in
set_option maxRecDepth 1000000 in
theorem lay_short_any (b : Nat) (cv : Value) (g cap : Nat) (E : List Ent) (long s n bits : Nat) (w : World) (h : TabAt w b cv g cap E long) (hE : 512 ≤ E.length) (hE2 : E.length ≤ 100000) (hn1 : 1 ≤ n) (hn : n ≤ 9) (hb : bits < 2 ^ n) :
    Calls Try.prog 110 #[.pointer (some ⟨b, 0, none⟩), .int .i64 (s : Nat), .int .i64 (n : Nat), .int .i64 (bits : Nat)] w fun e w' => e = .returned (.tuple #[]) ∧ TabAt w' b cv g cap (fillR E 0 bits (2 ^ n) 512 (s, n, 0)) long ∧ Mut [g] w w' := by
  have hnI : (n : Int) ≤ 9 := by omega
  have hp : 2 ^ n ≤ 512 := Nat.pow_le_pow_right (n := 2) (by decide) hn
  have HT := Lib.hid h
  have HN := Lib.hid h.ne
  clear h
  have hpI : ((2 : Int) ^ n) = ((2 ^ n : Nat) : Int) := by simp
  have hp0 : 0 < 2 ^ n := Nat.pow_pos (by decide)
  have w1 : wrap64 ((2 : Int) ^ n) = ((2 ^ n : Nat) : Int) := by rw [hpI, IntWalk.wrap64_in _ (by omega)]
  have HP := Lib.hid hp
  have W1 := Lib.hid w1
  clear hpI w1
  go_enter Try.func110, Try.ntmps110
  go_wp2_with fail
  go_loopw [8] (fun x wx => ∃ i : Nat, x = .int .i64 (i : Int) ∧ bits ≤ i ∧ i < 512 + 2 ^ n ∧ (i - bits) % 2 ^ n = 0 ∧ Hid (TabAt wx b cv g cap (fillR E 0 bits (2 ^ n) i (s, n, 0)) long ∧ Mut [g] w wx)) (fun x _ => 1024 - (intOf x).toNat)
  case atStart => exact ⟨bits, rfl, Nat.le_refl _, by omega, by simp, Lib.hid ⟨by rw [fillR_none _ _ _ _ _ _ (Nat.le_refl _)]; exact HT.out, Mut.refl _ _⟩⟩
  case round =>
    obtain ⟨i, rfl, hi1, hi2, him, HS⟩ := hrel
    have HIM := Lib.hid him
    clear him
    by_cases hlt : i < 512
    · have hltI : (i : Int) < 512 := by omega
      obtain ⟨c0, c1, c2, f0, f1, f2⟩ := cells3 HS.out.1.1
      obtain ⟨d0, d1, d2, e0, e1, e2⟩ := HS.out.1.2.cells i (by rw [fillR_length]; omega)
      rw [fillR_length] at c1
      have hil : (i : Int) < (E.length : Int) := by omega
      go_wp2_with fail
      have e1 : wrap64 ((i : Int) + wrap64 (2 ^ n)) = ((i + 2 ^ n : Nat) : Int) := by
        rw [W1.out, Int.natCast_add]
        have := HP.out
        generalize (2 : Nat) ^ n = P at *
        exact IntWalk.wrap64_in _ (by omega)
      rw [e1]
      refine ⟨⟨i + 2 ^ n, rfl, by omega, by omega, ?_, Lib.hid ⟨⟨?_, ?_⟩, ?_⟩⟩, ?_⟩
      · rw [show i + 2 ^ n - bits = (i - bits) + 2 ^ n by omega, Nat.add_mod_right]; exact HIM.out
      · rw [fillR_length]
        have h1 := HS.out.1.1
        rw [fillR_length] at h1
        rw [heap_set_ne HN.out, heap_set_ne HN.out, heap_set_ne HN.out]
        exact h1
      · rw [← fillR_step E 0 bits (2 ^ n) i (s, n, 0) hp0 hi1 HIM.out, Nat.zero_add]
        exact HS.out.1.2.set i (s, n, 0)
      · exact ((HS.out.2.setCell (.inl (by simp)) _).setCell (.inl (by simp)) _).setCell (.inl (by simp)) _
      · simp only [intOf]; omega
    · have hltI : ¬ (i : Int) < 512 := by omega
      go_wp2_with fail
      refine bodyPost_ret (results_none rfl _ _ _) rfl ⟨rfl, ?_, HS.out.2⟩
      rw [← fillR_lim E 0 bits (2 ^ n) 512 i (s, n, 0) hi1 HIM.out (by omega) hi2]
      exact HS.out.1

theorem lay_app {b : Nat} {cv : Value} {g cap : Nat} {E : List Ent} {long : Nat} {W : World} (h : TabAt W b cv g cap E long) (K : Nat) (h0 : 0 < K) (hK : K ≤ 64) (hE : E.length ≤ 100000) (ty : TypeId) :
    ∃ g' cap' W', (Builtin.append_ #[173, 3] ty #[.slice (some ⟨g, 0, none⟩) E.length cap, .int .i64 (K : Int)]).run Try.prog W = .ok (.slice (some ⟨g', 0, none⟩) (E.length + K) cap') W' ∧
      W'.heap[b]? = W.heap[b]? ∧ LkIs W' g' cap' (E ++ List.replicate K (0, 0, 0)) ∧ Mut [g] W W' ∧ (g' = g ∨ W.heap.size ≤ g') := by
  obtain ⟨i0, hi, hz0, hz1, hz2⟩ := info_parts info_entry
  obtain ⟨v', W', hrun, r1, r2, r3⟩ := run_app_zeros (P := Try.prog) W 173 3 ty 182 i0 _ 3 24 .i64 .i64 K Try.underlying173 Try.underlying3 hi hz0 hz1 hz2 rfl (by
    intro u hu
    rw [zeroCells_entry, entCells_zeros] at hu
    rw [List.eq_of_mem_replicate hu]
    rfl) _ _ _ h.2 h0 (by decide) (by unfold maxLen; omega) (by omega)
  rw [zeroCells_entry] at r1
  obtain ⟨g', cap', rfl, _, _⟩ := row_some r1 (by omega)
  have hm : Mut [g] W W' := (Mut.refl _ W).grown r2 (fun k hk => .inl (by simp [Value.ownBlock] at hk; simp [hk]))
  refine ⟨g', cap', W', hrun, ?_, ?_, hm, ?_⟩
  · exact hm.block b (lt_of_heap h.1) (by simpa using h.ne)
  · unfold LkIs
    rw [List.length_append, List.length_replicate, show entCells (E ++ List.replicate K (0, 0, 0)) = entCells E ++ entCells (List.replicate K (0, 0, 0)) by simp [entCells]]
    exact r1
  · rcases r3 g' rfl with h1 | h1
    · simp [Value.ownBlock] at h1; exact .inl h1.symm
    · exact .inr h1

/-- the same, as a step of a region that draws -/
theorem step_zeros {ops : Array Oper} {o : Oper} {a : Act} {w : World} {K : Act → World → Prop} {Q' : Exit → Act → World → Prop} {F : Prop} (hw : Region.wanted o (yielded ops a.tmps) = true) (s x : Operand)
    (ho : o.op = .call { callee := .builtin .append, args := #[s, x], argTypes := #[173, 3] }) {b : Nat} {cv : Value} {g cap : Nat} {E : List Ent} {long : Nat} (h : TabAt w b cv g cap E long) (k : Nat) (h0 : 0 < k) (hk : k ≤ 64) (hE : E.length ≤ 100000)
    (hs : a.eval s = .slice (some ⟨g, 0, none⟩) E.length cap) (hx : a.eval x = .int .i64 (k : Int))
    (hK : ∀ g' cap' w', w'.heap[b]? = some (.cells #[cv, .slice (some ⟨g, 0, none⟩) E.length cap, .int .i64 (long : Nat)] 175 (0, 0)) → LkIs w' g' cap' (E ++ List.replicate k (0, 0, 0)) → Mut [g] w w' → (g' = g ∨ w.heap.size ≤ g') → K (a.put o.dst (.slice (some ⟨g', 0, none⟩) (E.length + k) cap')) w') :
    if Region.wanted o (yielded ops a.tmps) = true then Oper.wp Try.prog o a w K Q' else F := by
  rw [if_pos hw]
  obtain ⟨g', cap', w', hrun, r1, r2, r3, r4⟩ := lay_app h k h0 hk hE o.type
  unfold Oper.wp
  simp [execOp, ho, resolve, invoke, builtin, hs, hx, hrun, Result.andThen]
  exact hK g' cap' w' (r1.trans h.1) r2 r3 r4

theorem lay_fresh_end {w W3 w' : World} {b : Nat} {cv : Value} {g cap g' cap' : Nat} {E : List Ent} {hd long d K : Nat} (hm : (entAt E hd).2.2 = 0) (hd9 : long = d + 9) (hK : 2 ^ d = K) (m : Mut [b, g] w W3)
    (q1 : w'.heap[b]? = some (.cells #[cv, .slice (some ⟨g, 0, none⟩) E.length cap, .int .i64 (long : Nat)] 175 (0, 0)))
    (q2 : LkIs w' g' cap' (E.set hd (E.length, 0, d) ++ List.replicate K (0, 0, 0))) (q3 : Mut [g] W3.drew w') (q4 : g' = g ∨ W3.drew.heap.size ≤ g') :
    TabAt (w'.setCell ⟨b, 1, none⟩ (.slice (some ⟨g', 0, none⟩) (E.length + K) cap')) b cv g' cap' (if (entAt E hd).2.2 = 0 then freshE E hd long else E) long ∧
    Mut [b, g] w (w'.setCell ⟨b, 1, none⟩ (.slice (some ⟨g', 0, none⟩) (E.length + K) cap')) ∧ (g' = g ∨ w.heap.size ≤ g') := by
  have hf : freshE E hd long = E.set hd (E.length, 0, d) ++ List.replicate K (0, 0, 0) := by
    unfold freshE
    rw [show long - 9 = d by omega, hK]
  have hbg := row_ne q2 q1 (by decide)
  rw [if_pos hm, hf]
  refine ⟨⟨?_, ?_⟩, (m.drew.trans q3 (by simp)).setCell (.inl (by simp)) _, ?_⟩
  · rw [heap_set q1, List.length_append, List.length_set, List.length_replicate]; rfl
  · exact row_set_ne q2 (fun k hk e => hbg (by rw [hk, e])) _
  · rcases q4 with h | h
    · exact .inl h
    · exact .inr (Nat.le_trans m.size h)

theorem layE_long {E : List Ent} {hd long d K s n bt : Nat} (hn : 9 < n) (hhd : bt % 512 = hd) (hh : hd < E.length) (hd9 : long = d + 9) (hK : 2 ^ d = K) (hKb : K ≤ 64) (hE2 : E.length ≤ 100000)
    (hmo : 0 < (entAt E hd).2.2 → 9 < long ∧ (entAt E hd).2.2 = long - 9 ∧ 512 ≤ (entAt E hd).1 ∧ (entAt E hd).1 + 2 ^ (long - 9) ≤ E.length ∧ (entAt E hd).2.1 = 0 ∧ ∃ u, u < 2 ^ (long - 9) ∧ 0 < (entAt E ((entAt E hd).1 + u)).2.1) :
    ∃ E1, (if (entAt E hd).2.2 = 0 then freshE E hd long else E) = E1 ∧ (entAt E1 hd).2.2 = d ∧ (entAt E1 hd).1 + K ≤ E1.length ∧ E1.length ≤ 100064 ∧ hd < E1.length ∧ layE E long s n bt = fillR E1 (entAt E1 hd).1 (bt / 512) (2 ^ (n - 9)) K (s, n, 0) := by
  refine ⟨_, rfl, ?_⟩
  unfold layE
  rw [if_neg (show ¬ n ≤ 9 by omega)]
  simp only [hhd]
  by_cases hz : (entAt E hd).2.2 = 0
  · simp only [if_pos hz]
    have hfl : (freshE E hd long).length = E.length + K := by
      simp only [freshE, List.length_append, List.length_set, List.length_replicate]
      rw [show long - 9 = d by omega, hK]
    rw [entAt_fresh _ _ _ _ hh, if_pos rfl, hfl]
    simp only
    rw [show long - 9 = d by omega, hK]
    exact ⟨rfl, Nat.le_refl _, by omega, by omega, rfl⟩
  · simp only [if_neg hz]
    obtain ⟨q1, q2, q3, q4, _⟩ := hmo (by omega)
    rw [show long - 9 = d by omega] at q2 q4
    rw [hK] at q4
    exact ⟨q2, q4, by omega, hh, by rw [q2, hK]⟩

theorem bits511 (n : Nat) : Go.bits .and .i64 (n : Int) 511 = ((n % 512 : Nat) : Int) := by
  rw [and_mask_i64 n 9 (by decide) 511 (by decide)]; simp

attribute [local go_sem ↓] Go.wp_at_zero Go.wp_at_succ in
set_option maxHeartbeats 6400000 in
set_option maxRecDepth 1000000 in
theorem lay_long_any (b : Nat) (cv : Value) (g cap : Nat) (E : List Ent) (long s n bt : Nat) (w : World) (h : TabAt w b cv g cap E long) (hwf : WFT E long) (hl : long ≤ 15) (hE2 : E.length ≤ 100000) (hn1 : 9 < n) (hn : n ≤ long) (hb : bt < 2 ^ n) :
    Calls Try.prog 110 #[.pointer (some ⟨b, 0, none⟩), .int .i64 (s : Nat), .int .i64 (n : Nat), .int .i64 (bt : Nat)] w fun e w' => e = .returned (.tuple #[]) ∧ ∃ g' cap', TabAt w' b cv g' cap' (layE E long s n bt) long ∧ Mut [b, g] w w' ∧ (g' = g ∨ w.heap.size ≤ g') := by
  have hnI : ¬ (n : Int) ≤ 9 := by omega
  have hand := bits511 bt
  have hlen := hwf.len
  have hil : ((bt % 512 : Nat) : Int) < (E.length : Int) := by omega
  have hh : bt % 512 < E.length := by omega
  have hmo := hwf.more (bt % 512) (by omega)
  obtain ⟨hd, hhd⟩ : ∃ hd, bt % 512 = hd := ⟨_, rfl⟩
  rw [hhd] at hand hil hh hmo
  obtain ⟨c0, c1, c2, f0, f1, f2⟩ := cells3 h.1
  obtain ⟨d0, d1, d2, e0, e1, e2⟩ := h.2.cells hd hh
  have HT := Lib.hid h
  have HN := Lib.hid h.ne
  have HHD := Lib.hid hhd
  have HW := Lib.hid hwf
  clear h hhd hwf
  obtain ⟨d, hd9⟩ : ∃ d, long = d + 9 := ⟨long - 9, by omega⟩
  have hdI : (long : Int) - 9 = (d : Int) := by omega
  have hwd : IntKind.i64.wrap ((long : Int) - 9) = (d : Int) := by rw [hdI]; exact IntWalk.i64_in _ (by omega)
  obtain ⟨K, hK⟩ : ∃ K, 2 ^ d = K := ⟨_, rfl⟩
  have hKb : K ≤ 64 := by rw [← hK]; exact Nat.pow_le_pow_right (n := 2) (by decide) (show d ≤ 6 by omega)
  have hK0 : 0 < K := by rw [← hK]; exact Nat.pow_pos (by decide)
  have hwK : IntKind.i64.wrap ((2 : Int) ^ d) = (K : Int) := by
    have : ((2 : Int) ^ d) = ((2 ^ d : Nat) : Int) := by simp
    rw [this, hK]; exact IntWalk.i64_in _ (by omega)
  have hwK2 : wrap64 ((2 : Int) ^ d) = (K : Int) := by
    have : ((2 : Int) ^ d) = ((2 ^ d : Nat) : Int) := by simp
    rw [this, hK]; exact IntWalk.wrap64_in _ (by omega)
  have hwd2 : IntKind.i64.wrap (d : Int) = (d : Int) := IntWalk.i64_in _ (by omega)
  have hd0 : (0 : Int) ≤ (d : Int) := by omega
  have hd64 : (d : Int) < 64 := by omega
  have hdn : ¬ (d : Int) < 0 := by omega
  have HD9 := Lib.hid hd9
  have HK := Lib.hid hK
  clear hd9 hK
  go_enter Try.func110, Try.ntmps110
  go_upto_if 41 with fail
  go_cut [9] (fun s9 wx => s9 = .int .i64 (hd : Nat) ∧ ∃ g' cap', TabAt wx b cv g' cap' (if (entAt E hd).2.2 = 0 then freshE E hd long else E) long ∧ Mut [b, g] w wx ∧ (g' = g ∨ w.heap.size ≤ g'))
  case first =>
    by_cases hm : (entAt E hd).2.2 = 0
    · have hmI : ((((entAt E hd).2.2 : Nat) : Int) == 0) = true := by rw [hm]; rfl
      have HM := Lib.hid hm
      clear hm hmo
      go_upto_region 7 with fail
      go_still_tail 17, (by kernel_rfl)
      change wpList _ _ _ _ _ w.drew
      go_upto_region 8 with fail
      have hT3 : TabAt (((w.setCell ⟨g, hd * 3, none⟩ (.int .i64 E.length)).setCell ⟨g, hd * 3 + 1, none⟩ (.int .i64 0)).setCell ⟨g, hd * 3 + 2, none⟩ (.int .i64 d)).drew b cv g cap (E.set hd (E.length, 0, d)) long := by
        refine ⟨?_, HT.out.2.set hd (E.length, 0, d)⟩
        show (((w.setCell _ _).setCell _ _).setCell _ _).heap[b]? = _
        rw [heap_set_ne HN.out, heap_set_ne HN.out, heap_set_ne HN.out, List.length_set]
        exact HT.out.1
      have hM3 : Mut [b, g] w (((w.setCell ⟨g, hd * 3, none⟩ (.int .i64 E.length)).setCell ⟨g, hd * 3 + 1, none⟩ (.int .i64 0)).setCell ⟨g, hd * 3 + 2, none⟩ (.int .i64 d)).drew :=
        ((((Mut.refl _ w).setCell (.inl (by simp)) _).setCell (.inl (by simp)) _).setCell (.inl (by simp)) _).drew
      generalize (((w.setCell ⟨g, hd * 3, none⟩ (.int .i64 E.length)).setCell ⟨g, hd * 3 + 1, none⟩ (.int .i64 0)).setCell ⟨g, hd * 3 + 2, none⟩ (.int .i64 d)).drew = W3 at *
      clear c0 c1 c2 f0 f1 f2 d0 d1 d2 e0 e1 e2
      obtain ⟨c0, c1, c2, f0, f1, f2⟩ := cells3 hT3.1
      rw [List.length_set] at c1
      have HT3 := Lib.hid hT3
      have HM3 := Lib.hid hM3
      clear hT3 hM3
      have HDL : Hid (E.length = (E.set hd (E.length, 0, d)).length) := Lib.hid (by simp)
      clear hand hil hh hnI hn1 hb hlen
      go_region_law ((refine step_zeros (by rfl) (.tmp 63) (.tmp 69) (by rfl) HT3.out.drew K hK0 hKb (by simpa using hE2) (by simp only [List.length_set]; rfl) (by rfl) ?_; intro g' cap' w' q1 q2 q3 q4; rw [List.length_set] at q1; obtain ⟨j0, j1, j2, j3, j4, j5⟩ := cells3 q1; have Q1 := Lib.hid q1; have Q2 := Lib.hid q2; have Q3 := Lib.hid q3; have Q4 := Lib.hid q4; clear q1 q2 q3 q4))
      all_goals go_wp2_with fail
      all_goals go_meet
      all_goals exact ⟨rfl, g', cap', lay_fresh_end HM.out HD9.out HK.out HM3.out Q1.out Q2.out Q3.out Q4.out⟩
    · have hmI : ((((entAt E hd).2.2 : Nat) : Int) == 0) = false := by simpa using hm
      have HM := Lib.hid hm
      have HMO := Lib.hid (hmo (by omega))
      clear hm hmo
      go_wp2_with fail
      go_meet
      exact ⟨rfl, g, cap, by rw [if_neg HM.out]; exact HT.out, Mut.refl _ _, .inl rfl⟩
  case rest =>
    obtain ⟨rfl, g2, cap2, hT2, hM2, hg2⟩ := hcut
    have HWK := Lib.hid hwK
    have HWK2 := Lib.hid hwK2
    have HWD2 := Lib.hid hwd2
    clear hwK hwK2 hwd2 hwd
    have HLF := layE_long (s := s) hn1 HHD.out hh HD9.out HK.out hKb hE2 hmo
    obtain ⟨E1, hE1, hmd, hbk, hE1l, hhl, hlay⟩ := HLF
    have HLAY := Lib.hid hlay
    rw [hE1] at hT2
    clear hE1 hlay hmo c0 c1 c2 f0 f1 f2 d0 d1 d2 e0 e1 e2 HT HN HW hlen
    obtain ⟨bs, hbs⟩ : ∃ bs, (entAt E1 hd).1 = bs := ⟨_, rfl⟩
    have HLAY2 : Hid (layE E long s n bt = fillR E1 bs (bt / 512) (2 ^ (n - 9)) K (s, n, 0)) := Lib.hid (by rw [← hbs]; exact HLAY.out)
    clear HLAY
    have HNE := Lib.hid hT2.ne
    have HT2 := Lib.hid hT2
    have HM2 := Lib.hid hM2
    have HG2 := Lib.hid hg2
    obtain ⟨c0, c1, c2, f0, f1, f2⟩ := cells3 hT2.1
    obtain ⟨d0, d1, d2, e0, e1, e2⟩ := hT2.2.cells hd hhl
    rw [hmd] at d2
    rw [hbs] at d0 hbk
    clear hbs hmd hT2 hM2 hg2
    have hbt : bt < 32768 := Nat.lt_of_lt_of_le hb (Nat.pow_le_pow_right (n := 2) (by decide) (show n ≤ 15 by omega))
    clear hand hil hh HHD
    have hil : (hd : Int) < (E1.length : Int) := by omega
    obtain ⟨m, hm9⟩ : ∃ m, n = m + 9 := ⟨n - 9, by omega⟩
    have hmI : (n : Int) - 9 = (m : Int) := by omega
    have hwm : IntKind.i64.wrap ((n : Int) - 9) = (m : Int) := by rw [hmI]; exact IntWalk.i64_in _ (by omega)
    obtain ⟨P, hP⟩ : ∃ P, 2 ^ m = P := ⟨_, rfl⟩
    have hPb : P ≤ 64 := by rw [← hP]; exact Nat.pow_le_pow_right (n := 2) (by decide) (show m ≤ 6 by omega)
    have hP0 : 0 < P := by rw [← hP]; exact Nat.pow_pos (by decide)
    have hwP : IntKind.i64.wrap ((2 : Int) ^ m) = (P : Int) := by
      have : ((2 : Int) ^ m) = ((2 ^ m : Nat) : Int) := by simp
      rw [this, hP]; exact IntWalk.i64_in _ (by omega)
    have hwP2 : wrap64 ((2 : Int) ^ m) = (P : Int) := by
      have : ((2 : Int) ^ m) = ((2 ^ m : Nat) : Int) := by simp
      rw [this, hP]; exact IntWalk.wrap64_in _ (by omega)
    have hwm2 : IntKind.i64.wrap (m : Int) = (m : Int) := IntWalk.i64_in _ (by omega)
    have hm0 : (0 : Int) ≤ (m : Int) := by omega
    have hm64 : (m : Int) < 64 := by omega
    have hmn : ¬ (m : Int) < 0 := by omega
    have hN9 : n - 9 = m := by omega
    have hbP : bt / 512 < P := by
      rw [Nat.div_lt_iff_lt_mul (by decide), ← hP, Nat.mul_comm, show (512 : Nat) = 2 ^ 9 from rfl, ← Nat.pow_add, Nat.add_comm 9 m, ← hm9]
      exact hb
    have HLAY3 : Hid (layE E long s n bt = fillR E1 bs (bt / 512) P K (s, n, 0)) := Lib.hid (by rw [HLAY2.out, hN9, hP])
    have HM9 := Lib.hid hm9
    have HWP := Lib.hid hwP
    have HWP2 := Lib.hid hwP2
    have HWM := Lib.hid hwm
    have HWM2 := Lib.hid hwm2
    clear hP hm9 hb hN9 HLAY2 hwP hwP2 hwm hwm2
    have hbt2 : bt / 512 < 64 := by omega
    obtain ⟨F, hF⟩ : ∃ F, bt / 512 = F := ⟨_, rfl⟩
    have hFI : (bt : Int) / 512 = (F : Int) := by omega
    rw [hF] at hbP hbt2 HLAY3
    clear hF
    have hbs2 : bs ≤ 100064 := by omega
    go_upto_region 9 with fail
    go_quiet (fail)
    go_wp2_with fail
    clear c0 c1 c2 f0 f1 f2 d0 d1 d2 e0 e1 e2
    have HW0 : Hid (TabAt (wc.drewN nq) b cv g2 cap2 E1 long ∧ Mut [b, g] w (wc.drewN nq)) := Lib.hid ⟨HT2.out, HM2.out.drewN nq⟩
    generalize wc.drewN nq = W0 at *
    go_loopw [12] (fun x wx => ∃ i : Nat, x = .int .i64 (i : Int) ∧ F ≤ i ∧ i < K + P ∧ (i - F) % P = 0 ∧ Hid (TabAt wx b cv g2 cap2 (fillR E1 bs F P i (s, n, 0)) long ∧ Mut [g2] W0 wx)) (fun x _ => 1024 - (intOf x).toNat)
    case atStart => exact ⟨F, by first | rfl | rw [hFI], Nat.le_refl _, by omega, by simp, Lib.hid ⟨by rw [fillR_none _ _ _ _ _ _ (Nat.le_refl _)]; exact HW0.out.1, Mut.refl _ _⟩⟩
    case round =>
      obtain ⟨i, rfl, hi1, hi2, him, HS⟩ := hrel
      have HIM := Lib.hid him
      clear him
      by_cases hlt : i < K
      · have hltI : (i : Int) < (K : Int) := by omega
        obtain ⟨c0, c1, c2, f0, f1, f2⟩ := cells3 HS.out.1.1
        obtain ⟨d0, d1, d2, e0, e1, e2⟩ := HS.out.1.2.cells (bs + i) (by rw [fillR_length]; omega)
        rw [fillR_length] at c1
        have hil2 : (bs : Int) + (i : Int) < (E1.length : Int) := by omega
        have htn : ((bs : Int) + (i : Int)).toNat = bs + i := by omega
        have hnn : (0 : Int) ≤ (bs : Int) + (i : Int) := by omega
        have hwK := HWK.out
        have hwK2 := HWK2.out
        have hwd2 := HWD2.out
        have hwP := HWP.out
        have hwP2 := HWP2.out
        have hwm := HWM.out
        have hwm2 := HWM2.out
        go_wp2_with fail
        clear hwK hwK2 hwd2 hwP hwP2 hwm hwm2
        have e1 : wrap64 ((i : Int) + (P : Int)) = ((i + P : Nat) : Int) := by
          rw [Int.natCast_add]
          exact IntWalk.wrap64_in _ (by omega)
        rw [e1]
        clear e1
        refine ⟨⟨i + P, rfl, by omega, by omega, ?_, Lib.hid ⟨⟨?_, ?_⟩, ?_⟩⟩, ?_⟩
        · rw [show i + P - F = (i - F) + P by omega, Nat.add_mod_right]; exact HIM.out
        · rw [fillR_length]
          have h1 := HS.out.1.1
          rw [fillR_length] at h1
          rw [heap_set_ne HNE.out, heap_set_ne HNE.out, heap_set_ne HNE.out]
          exact h1
        · rw [← fillR_step E1 bs F P i (s, n, 0) hP0 hi1 HIM.out]
          exact HS.out.1.2.set (bs + i) (s, n, 0)
        · exact ((HS.out.2.setCell (.inl (by simp)) _).setCell (.inl (by simp)) _).setCell (.inl (by simp)) _
        · simp only [intOf]; omega
      · have hltI : ¬ (i : Int) < (K : Int) := by omega
        have hwK := HWK.out
        have hwK2 := HWK2.out
        have hwd2 := HWD2.out
        go_wp2_with fail
        clear hwK hwK2 hwd2
        go_end0
        refine ⟨rfl, g2, ⟨cap2, ?_⟩, ?_, HG2.out⟩
        · rw [HLAY3.out, ← fillR_lim E1 bs F P K i (s, n, 0) hi1 HIM.out (by omega) hi2]
          exact HS.out.1
        · refine HW0.out.2.trans HS.out.2 (fun x hx => ?_)
          have hx2 : x = g2 := by simpa using hx
          rcases HG2.out with h | h
          · exact .inl (by simp [hx2, h])
          · exact .inr (by rw [hx2]; exact h)

end Go.Proofs.Ytgjcnembeebjfaa
