/- Walks over package huff: Codes, begins, Next. -/
import Derived.Test.YtgjcnembeebjfaaGFc
import Derived.Test.YtgjcnembeebjfaaGBr
import Derived.Deep.LoopGhost
import Derived.WalkMore
import Derived.ScopeJumps

namespace Go.Proofs.Ytgjcnembeebjfaa
open Go.RowKit

/-- are fifteen bits, of which some are there, the beginning of a code? -/
def begOf (long there : Nat) : Bool := if long = 0 then false else if long ≤ there then false else if long = 1 then decide (there = 0) else true

set_option maxRecDepth 100000 in
theorem begins_any (b long th : Nat) (v : Int) (w : World) (hc : w.cell? ⟨b, 2, none⟩ = some (.int .i64 (long : Nat))) :
    Calls Try.prog 115 #[.pointer (some ⟨b, 0, none⟩), .int .i64 v, .int .i64 (th : Nat)] w fun e w' => e = .returned (.bool (begOf long th)) ∧ w = w' := by
  by_cases h0 : long = 0
  · subst h0
    have hr : begOf 0 th = false := by simp [begOf]
    have HR := Lib.hid hr
    clear hr
    go_enter Try.func115, Try.ntmps115
    go_wp2_with fail
    exact bodyPost_ret (results_tmp rfl _ _ _) rfl ⟨by rw [HR.out]; rfl, rfl⟩
  · have h0I : ((long : Int) == 0) = false := by simpa using h0
    by_cases h1 : long ≤ th
    · have hr : begOf long th = false := by simp [begOf, h1]
      have HR := Lib.hid hr
      clear hr
      have h1I : (long : Int) ≤ (th : Int) := by omega
      go_enter Try.func115, Try.ntmps115
      go_wp2_with fail
      exact bodyPost_ret (results_tmp rfl _ _ _) rfl ⟨by rw [HR.out]; rfl, rfl⟩
    · have h1I : ¬ (long : Int) ≤ (th : Int) := by omega
      by_cases h2 : long = 1
      · subst h2
        have e0 : th = 0 := by omega
        subst e0
        have hr : begOf 1 0 = true := rfl
        have HR := Lib.hid hr
        clear hr
        go_enter Try.func115, Try.ntmps115
        go_wp2_with fail
        exact bodyPost_ret (results_tmp rfl _ _ _) rfl ⟨by rw [HR.out]; rfl, rfl⟩
      · have h2I : ((long : Int) == 1) = false := by simpa using (show ¬ (long : Int) = 1 by omega)
        have hr : begOf long th = true := by simp [begOf, h0, h1, h2]
        have HR := Lib.hid hr
        clear hr
        go_enter Try.func115, Try.ntmps115
        go_wp2_with fail
        exact bodyPost_ret (results_tmp rfl _ _ _) rfl ⟨by rw [HR.out]; rfl, rfl⟩

theorem next_nilt (v : Value) (w : World) : Calls Try.prog 108 #[.pointer none, v] w fun e w' => e = .returned (.tuple #[.int .i64 0, .int .i64 1]) ∧ w = w' := by
  go_enter Try.func108, Try.ntmps108
  go_wp2_with fail
  go_step3
  go_wp2_with fail
  rw [Exit.noGoto_ret]
  exact bodyPost_ret (results_tmp2 rfl _ _ _) rfl ⟨rfl, rfl⟩

theorem next_nilr (a : Addr) (w : World) : Calls Try.prog 108 #[.pointer (some a), .pointer none] w fun e w' => e = .returned (.tuple #[.int .i64 0, .int .i64 1]) ∧ w = w' := by
  go_enter Try.func108, Try.ntmps108
  go_wp2_with fail
  go_step3
  go_wp2_with fail
  rw [Exit.noGoto_ret]
  exact bodyPost_ret (results_tmp2 rfl _ _ _) rfl ⟨rfl, rfl⟩

/-- what Next tells of fifteen bits, of which some are there: the symbol, how many bits it took, the error -/
def nextRes (ls : List Nat) (v there : Nat) : Nat × Nat × Nat :=
  let f := found ls ls.length v
  if 0 < f.2 ∧ f.2 ≤ there then (f.1, f.2, 0) else if begOf (longOf ls) there = true then (0, 0, 3) else (0, 0, 5)

theorem bits511' (n : Nat) : Go.bits .and .i64 (n : Int) 511 = ((n % 512 : Nat) : Int) := by
  rw [and_mask_i64 n 9 (by decide) 511 (by decide)]; simp

theorem jump_ret (l : Nat) (J : Act → World → Prop) (Q : Exit → Act → World → Prop) (a : Act) (w : World) : Exit.jump l J Q .ret a w = Q .ret a w := rfl

theorem TabAt.mut' {w : World} {b : Nat} {cv : Value} {g cap : Nat} {E : List Ent} {long : Nat} (h : TabAt w b cv g cap E long) (o : Obj) (n : Nat) : TabAt ((w.alloc o).drewN n) b cv g cap E long :=
  ⟨(((Mut.refl [] w).alloc o).drewN n).get h.1 (by simp), (((Mut.refl [] w).alloc o).drewN n).row h.2 (by simp)⟩

/-- what holds at the jump back -/
def NextJ (b rb v th : Nat) (E : List Ent) (C : World → Prop) (a' : Act) (w' : World) : Prop :=
  ∃ (i : Nat) (u10 u11 u12 u13 u14 u15 u16 u17 u18 u19 u20 u21 u22 u23 u24 u25 u26 u27 u28 u29 u30 u31 u32 u33 u34 u35 u36 u37 u38 u39 u40 u41 u42 u43 u44 u45 u46 u47 u48 u49 u50 u51 u52 u53 u54 u55 u56 u57 u58 u59 u60 u61 u62 u63 u64 u65 : Value), a' = { tmps := #[Value.pointer (some ⟨b, 0, none⟩), Value.pointer (some ⟨rb, 0, none⟩), undef, undef, .int .i64 0, .int .i64 0, .int .i64 (v : Int), .int .i64 (th : Int), .int .i64 (i : Int), .int .i64 9, u10, u11, u12, u13, u14, u15, u16, u17, u18, u19, u20, u21, u22, u23, u24, u25, u26, u27, u28, u29, u30, u31, u32, u33, u34, u35, u36, u37, u38, u39, u40, u41, u42, u43, u44, u45, u46, u47, u48, u49, u50, u51, u52, u53, u54, u55, u56, u57, u58, u59, u60, u61, u62, u63, u64, u65], defers := [] } ∧ (512 ≤ i ∧ i < E.length ∧ find E v = ((entAt E i).1, (entAt E i).2.1)) ∧ C w'

theorem nextRes_of (ls : List Nat) (v th S0 N0 : Nat) (h : found ls ls.length v = (S0, N0)) :
    nextRes ls v th = if 0 < N0 ∧ N0 ≤ th then (S0, N0, 0) else if begOf (longOf ls) th = true then (0, 0, 3) else (0, 0, 5) := by
  unfold nextRes
  rw [h]

set_option maxHeartbeats 3200000 in
set_option maxRecDepth 1000000 in
theorem next_any (lo hi b : Nat) (ls : List Nat) (rb : Nat) (s : ByteArray) (t : Nat) (w : World) (hT : TableIs w lo hi b ls) (hR : RdIs w rb s t) (hs : s.size ≤ 140737488355328) (ht : t ≤ 8 * s.size) (h15 : longOf ls ≤ 15) (hls : ls.length ≤ 1024) :
    Calls Try.prog 108 #[.pointer (some ⟨b, 0, none⟩), .pointer (some ⟨rb, 0, none⟩)] w fun e w' =>
      e = .returned (.tuple #[.int .i64 ((nextRes ls (peekNum s t 15) (min 15 (8 * s.size - t))).1 : Nat), .int .i64 ((nextRes ls (peekNum s t 15) (min 15 (8 * s.size - t))).2.2 : Nat)]) ∧
      RdIs w' rb s (t + (nextRes ls (peekNum s t 15) (min 15 (8 * s.size - t))).2.1) ∧ Mut [rb] w w' := by
  obtain ⟨cv, g, cap, E, h1, h2, h3, _⟩ := hT
  have hv := peek_lt s t 15
  have HP : Hid (Calls Try.prog 107 #[.pointer (some ⟨rb, 0, none⟩), .int .i64 15] w fun e w' => e = .returned (.tuple #[.int .i64 (peekNum s t 15 : Nat), .int .i64 ((min 15 (8 * s.size - t) : Nat) : Int)]) ∧ Hid (TabAt w' b cv g cap E (longOf ls) ∧ RdIs w' rb s t ∧ Mut [] w w')) :=
    Lib.hid ((peek_at rb s t 15 15 (min 15 (8 * s.size - t)) w hR hs ht rfl (by decide) rfl).mono fun e w' ⟨he, n, hw⟩ => ⟨he, Lib.hid (by rw [hw]; exact ⟨h1, hR, (Mut.refl _ _).drewN n⟩)⟩)
  obtain ⟨v, hv'⟩ : ∃ v, peekNum s t 15 = v := ⟨_, rfl⟩
  obtain ⟨th, hth'⟩ : ∃ th, min 15 (8 * s.size - t) = th := ⟨_, rfl⟩
  have hth : th ≤ 15 := by omega
  rw [hv', hth'] at HP
  rw [hv'] at hv
  rw [hv', hth']
  have hv32 : v < 32768 := hv
  have hthl : th ≤ 8 * s.size - t := by omega
  clear hv hv' hth'
  have hl := h3.len
  have h512 := h3.wf.len
  have HR := Lib.hid hR
  have HT := Lib.hid h1
  have H3 := Lib.hid h3
  clear h1 h2 h3 hR
  have hand := bits511' v
  go_enter Try.func108, Try.ntmps108
  go_wp2_with fail
  refine wp_scope_jumps 0 (NextJ b rb v th E fun w' => Hid (TabAt w' b cv g cap E (longOf ls) ∧ RdIs w' rb s t ∧ Mut [] w w')) (fun a' _ => if 512 ≤ (intOf (a'.tmps.getD 8 undef)).toNat then 0 else 1) rfl ?_ ?_
  · go_upto_region 4 with (first | go_step3 | (go_at_call 107; refine HP.out.mono ?_; rintro e w1 ⟨rfl, HW1⟩))
    have HT1 : Hid (TabAt w1 b cv g cap E (longOf ls)) := Lib.hid HW1.out.1
    obtain ⟨c0, c1, c2, _, _, _⟩ := cells3 HT1.out.1
    obtain ⟨d0, d1, d2, _, _, _⟩ := HT1.out.2.cells (v % 512) (by omega)
    have hil : ((v % 512 : Nat) : Int) < (E.length : Int) := by omega
    obtain ⟨hd, hhd⟩ : ∃ hd, v % 512 = hd := ⟨_, rfl⟩
    rw [hhd] at hand hil d0 d1 d2
    have HHD := Lib.hid hhd
    clear hhd
    have hwf := H3.out.wf
    have HF : Hid (found ls ls.length v = find E v) := Lib.hid (H3.out.finds v hv32).symm
    have hmore := hwf.more hd (by have := HHD.out; omega)
    obtain ⟨S0, hS0⟩ : ∃ x, (entAt E hd).1 = x := ⟨_, rfl⟩
    obtain ⟨N0, hN0⟩ : ∃ x, (entAt E hd).2.1 = x := ⟨_, rfl⟩
    obtain ⟨M0, hM0⟩ : ∃ x, (entAt E hd).2.2 = x := ⟨_, rfl⟩
    rw [hS0] at d0
    rw [hN0] at d1
    rw [hM0] at d2
    rw [hS0, hN0, hM0] at hmore
    have HE0 : Hid (entAt E hd = (S0, N0, M0)) := Lib.hid (by rw [← hS0, ← hN0, ← hM0])
    clear hwf hS0 hN0 hM0
    by_cases hm : 0 < M0
    · have hmI : (0 : Int) < (M0 : Int) := by omega
      obtain ⟨q1, q2, q3, q4, q5, q6⟩ := hmore hm
      have HQ := Lib.hid q6
      have hm6 : M0 ≤ 6 := by omega
      have hS : S0 ≤ E.length := by omega
      have HSE : Hid (S0 ≤ 70000 ∧ S0 + 2 ^ M0 ≤ E.length) := Lib.hid ⟨by omega, by rw [q2]; exact q4⟩
      clear q6 hmore q1 q2
      go_upto_region 7 with (first | go_step3 | fail)
      go_quiet (fail)
      go_wp2_with (first | go_step3 | fail)
      have hp6 : 2 ^ M0 ≤ 64 := Nat.pow_le_pow_right (n := 2) (by decide) hm6
      have e8 : wrap64 ((S0 : Int) + Go.bits .and .i64 ((v : Int) / 512) (wrap64 (wrap64 (2 ^ M0) - 1))) = ((S0 + v / 512 % 2 ^ M0 : Nat) : Int) := by
        have h1 : ((v : Int) / 512) = ((v / 512 : Nat) : Int) := by omega
        rw [mask_i64 M0 (by omega), and_mask_i64 _ M0 (by omega) _ rfl, h1]
        have h2 : (((v / 512 : Nat) : Int) % 2 ^ M0) = ((v / 512 % 2 ^ M0 : Nat) : Int) := by simp
        rw [h2]
        have h3 : v / 512 % 2 ^ M0 ≤ v / 512 := Nat.mod_le _ _
        have h4 := HSE.out
        generalize v / 512 % 2 ^ M0 = z at *
        rw [IntWalk.wrap64_in _ (by omega)]
        omega
      rw [e8]
      refine ⟨rfl, S0 + v / 512 % 2 ^ M0, ?_⟩
      (repeat apply Exists.intro)
      refine ⟨rfl, ⟨by omega, ?_, ?_⟩, Lib.hid ⟨HW1.out.1.mut' _ nq, HW1.out.2.1.mut (((Mut.refl [] w1).alloc _).drewN nq) (by simp), (HW1.out.2.2.alloc _).drewN nq⟩⟩
      · have := HSE.out.2
        have := Nat.mod_lt (v / 512) (show 0 < 2 ^ M0 by omega)
        omega
      · unfold find
        simp only [HHD.out, HE0.out]
        rw [if_pos hm]
    · have hmI : ¬ (0 : Int) < (M0 : Int) := by omega
      have HR0 : Hid (nextRes ls v th = if 0 < N0 ∧ N0 ≤ th then (S0, N0, 0) else if begOf (longOf ls) th = true then (0, 0, 3) else (0, 0, 5)) := Lib.hid (nextRes_of ls v th S0 N0 (by
        rw [HF.out]
        unfold find
        simp only [HHD.out, HE0.out]
        rw [if_neg hm]))
      have HC := HW1
      clear HP hmore
      by_cases hn : 0 < N0 ∧ N0 ≤ th
      · have HX : Hid (nextRes ls v th = (S0, N0, 0)) := Lib.hid (by rw [HR0.out, if_pos hn])
        have hn1 := hn.1
        have hn2 := hn.2
        have hn1I : (0 : Int) < (N0 : Int) := by omega
        have hn2I : (N0 : Int) ≤ (th : Int) := by omega
        have hrb : rb < w1.heap.size := lt_of_heap HC.out.2.1
        have HTK : Hid (Calls Try.prog 88 #[.pointer (some ⟨rb, 0, none⟩), .int .i64 (N0 : Int)] (w1.alloc (.cells #[.int .i64 S0, .int .i64 N0, .int .i64 M0] 182)) fun e w' => e = .returned (.tuple #[.int .i64 (peekNum s t N0 : Nat), .int .i64 0]) ∧ Hid (RdIs w' rb s (t + N0) ∧ Mut [rb] w w') ∧ w'.cell? ⟨w1.heap.size, 0, none⟩ = some (.int .i64 S0)) := Lib.hid (
          (take_ok_at rb s t N0 (N0 : Int) (w1.alloc (.cells #[.int .i64 S0, .int .i64 N0, .int .i64 M0] 182)) (HC.out.2.1.mut ((Mut.refl [] w1).alloc _) (by simp)) hs rfl (by omega) (by omega)).mono fun e w' ⟨he, hr, hm⟩ =>
            ⟨he, Lib.hid ⟨hr, ((HC.out.2.2.mono (by simp)).alloc _).trans' hm⟩, hm.cell (cellOf (heap_alloc_new w1 _) 0 rfl) (by simp; omega)⟩)
        clear hn
        go_wp2_with (first | go_step3 | (go_at_call 88; refine HTK.out.mono ?_; rintro e w2 ⟨rfl, R2, k0⟩))
        rw [jump_ret]
        refine bodyPost_ret (results_tmp2 rfl _ _ _) rfl ?_
        rw [HX.out]
        exact ⟨rfl, R2.out⟩
      · have HBG : Hid (∀ o, Calls Try.prog 115 #[.pointer (some ⟨b, 0, none⟩), .int .i64 (v : Int), .int .i64 (th : Int)] (w1.alloc o) fun e w' => e = .returned (.bool (begOf (longOf ls) th)) ∧ w1.alloc o = w') := Lib.hid fun o =>
          begins_any b (longOf ls) th v (w1.alloc o) (Mut.cell ((Mut.refl [] w1).alloc o) c2 (by simp))
        have hnn : (0 : Int) < (N0 : Int) → ¬ (N0 : Int) ≤ (th : Int) := by omega
        have HC2 : Hid (∀ o, RdIs (w1.alloc o) rb s t ∧ Mut [rb] w (w1.alloc o)) := Lib.hid fun o => ⟨HC.out.2.1.mut ((Mut.refl [] w1).alloc o) (by simp), (HC.out.2.2.alloc o).mono (by simp)⟩
        rcases hb : begOf (longOf ls) th with _ | _
        · have HX : Hid (nextRes ls v th = (0, 0, 5)) := Lib.hid (by rw [HR0.out, if_neg hn, hb]; rfl)
          rw [hb] at HBG
          clear hb hn
          by_cases hp : 0 < N0
          · have hpI : (0 : Int) < (N0 : Int) := by omega
            have hqI : ¬ (N0 : Int) ≤ (th : Int) := hnn hpI
            clear hnn
            go_wp2_with (first | go_step3 | (go_at_call 115; refine (HBG.out _).mono ?_; rintro e w2 ⟨rfl, rfl⟩))
            rw [jump_ret]
            refine bodyPost_ret (results_tmp2 rfl _ _ _) rfl ?_
            rw [HX.out]
            exact ⟨rfl, HC2.out _⟩
          · have hpI : ¬ (0 : Int) < (N0 : Int) := by omega
            clear hnn
            go_wp2_with (first | go_step3 | (go_at_call 115; refine (HBG.out _).mono ?_; rintro e w2 ⟨rfl, rfl⟩))
            rw [jump_ret]
            refine bodyPost_ret (results_tmp2 rfl _ _ _) rfl ?_
            rw [HX.out]
            exact ⟨rfl, HC2.out _⟩
        · have HX : Hid (nextRes ls v th = (0, 0, 3)) := Lib.hid (by rw [HR0.out, if_neg hn, hb]; rfl)
          rw [hb] at HBG
          clear hb hn
          by_cases hp : 0 < N0
          · have hpI : (0 : Int) < (N0 : Int) := by omega
            have hqI : ¬ (N0 : Int) ≤ (th : Int) := hnn hpI
            clear hnn
            go_wp2_with (first | go_step3 | (go_at_call 115; refine (HBG.out _).mono ?_; rintro e w2 ⟨rfl, rfl⟩))
            rw [jump_ret]
            refine bodyPost_ret (results_tmp2 rfl _ _ _) rfl ?_
            rw [HX.out]
            exact ⟨rfl, HC2.out _⟩
          · have hpI : ¬ (0 : Int) < (N0 : Int) := by omega
            clear hnn
            go_wp2_with (first | go_step3 | (go_at_call 115; refine (HBG.out _).mono ?_; rintro e w2 ⟨rfl, rfl⟩))
            rw [jump_ret]
            refine bodyPost_ret (results_tmp2 rfl _ _ _) rfl ?_
            rw [HX.out]
            exact ⟨rfl, HC2.out _⟩
  · intro a1 W hJ
    obtain ⟨i, u10, u11, u12, u13, u14, u15, u16, u17, u18, u19, u20, u21, u22, u23, u24, u25, u26, u27, u28, u29, u30, u31, u32, u33, u34, u35, u36, u37, u38, u39, u40, u41, u42, u43, u44, u45, u46, u47, u48, u49, u50, u51, u52, u53, u54, u55, u56, u57, u58, u59, u60, u61, u62, u63, u64, u65, rfl, ⟨hi1, hi2, hfi⟩, HC⟩ := hJ
    obtain ⟨c0, c1, c2, _, _, _⟩ := cells3 HC.out.1.1
    obtain ⟨d0, d1, d2, _, _, _⟩ := HC.out.1.2.cells i hi2
    have hil : (i : Int) < (E.length : Int) := by omega
    have hdp := H3.out.wf.deep i hi1
    rw [hdp] at d2
    obtain ⟨S0, hS0⟩ : ∃ x, (entAt E i).1 = x := ⟨_, rfl⟩
    obtain ⟨N0, hN0⟩ : ∃ x, (entAt E i).2.1 = x := ⟨_, rfl⟩
    rw [hS0] at d0
    rw [hN0] at d1
    have HR0 : Hid (nextRes ls v th = if 0 < N0 ∧ N0 ≤ th then (S0, N0, 0) else if begOf (longOf ls) th = true then (0, 0, 3) else (0, 0, 5)) := Lib.hid (nextRes_of ls v th S0 N0 (by
      rw [← H3.out.finds v hv32, hfi, hS0, hN0]))
    clear hdp hS0 hN0 hfi HP hand
    by_cases hn : 0 < N0 ∧ N0 ≤ th
    · have HX : Hid (nextRes ls v th = (S0, N0, 0)) := Lib.hid (by rw [HR0.out, if_pos hn])
      have hn1 := hn.1
      have hn2 := hn.2
      have hn1I : (0 : Int) < (N0 : Int) := by omega
      have hn2I : (N0 : Int) ≤ (th : Int) := by omega
      have hrb : rb < W.heap.size := lt_of_heap HC.out.2.1
      have HTK : Hid (Calls Try.prog 88 #[.pointer (some ⟨rb, 0, none⟩), .int .i64 (N0 : Int)] (W.alloc (.cells #[.int .i64 S0, .int .i64 N0, .int .i64 0] 182)) fun e w' => e = .returned (.tuple #[.int .i64 (peekNum s t N0 : Nat), .int .i64 0]) ∧ Hid (RdIs w' rb s (t + N0) ∧ Mut [rb] w w') ∧ w'.cell? ⟨W.heap.size, 0, none⟩ = some (.int .i64 S0)) := Lib.hid (
        (take_ok_at rb s t N0 (N0 : Int) (W.alloc (.cells #[.int .i64 S0, .int .i64 N0, .int .i64 0] 182)) (HC.out.2.1.mut ((Mut.refl [] W).alloc _) (by simp)) hs rfl (by omega) (by omega)).mono fun e w' ⟨he, hr, hm⟩ =>
          ⟨he, Lib.hid ⟨hr, ((HC.out.2.2.mono (by simp)).alloc _).trans' hm⟩, hm.cell (cellOf (heap_alloc_new W _) 0 rfl) (by simp; omega)⟩)
      clear hn
      go_wp2_with (first | go_step3 | (go_at_call 88; refine HTK.out.mono ?_; rintro e w2 ⟨rfl, R2, k0⟩))
      rw [jump_ret]
      refine bodyPost_ret (results_tmp2 rfl _ _ _) rfl ?_
      rw [HX.out]
      exact ⟨rfl, R2.out⟩
    · have HBG : Hid (∀ o, Calls Try.prog 115 #[.pointer (some ⟨b, 0, none⟩), .int .i64 (v : Int), .int .i64 (th : Int)] (W.alloc o) fun e w' => e = .returned (.bool (begOf (longOf ls) th)) ∧ W.alloc o = w') := Lib.hid fun o =>
        begins_any b (longOf ls) th v (W.alloc o) (Mut.cell ((Mut.refl [] W).alloc o) c2 (by simp))
      have hnn : (0 : Int) < (N0 : Int) → ¬ (N0 : Int) ≤ (th : Int) := by omega
      have HC2 : Hid (∀ o, RdIs (W.alloc o) rb s t ∧ Mut [rb] w (W.alloc o)) := Lib.hid fun o => ⟨HC.out.2.1.mut ((Mut.refl [] W).alloc o) (by simp), (HC.out.2.2.alloc o).mono (by simp)⟩
      rcases hb : begOf (longOf ls) th with _ | _
      · have HX : Hid (nextRes ls v th = (0, 0, 5)) := Lib.hid (by rw [HR0.out, if_neg hn, hb]; rfl)
        rw [hb] at HBG
        clear hb hn
        by_cases hp : 0 < N0
        · have hpI : (0 : Int) < (N0 : Int) := by omega
          have hqI : ¬ (N0 : Int) ≤ (th : Int) := hnn hpI
          clear hnn
          go_wp2_with (first | go_step3 | (go_at_call 115; refine (HBG.out _).mono ?_; rintro e w2 ⟨rfl, rfl⟩))
          rw [jump_ret]
          refine bodyPost_ret (results_tmp2 rfl _ _ _) rfl ?_
          rw [HX.out]
          exact ⟨rfl, HC2.out _⟩
        · have hpI : ¬ (0 : Int) < (N0 : Int) := by omega
          clear hnn
          go_wp2_with (first | go_step3 | (go_at_call 115; refine (HBG.out _).mono ?_; rintro e w2 ⟨rfl, rfl⟩))
          rw [jump_ret]
          refine bodyPost_ret (results_tmp2 rfl _ _ _) rfl ?_
          rw [HX.out]
          exact ⟨rfl, HC2.out _⟩
      · have HX : Hid (nextRes ls v th = (0, 0, 3)) := Lib.hid (by rw [HR0.out, if_neg hn, hb]; rfl)
        rw [hb] at HBG
        clear hb hn
        by_cases hp : 0 < N0
        · have hpI : (0 : Int) < (N0 : Int) := by omega
          have hqI : ¬ (N0 : Int) ≤ (th : Int) := hnn hpI
          clear hnn
          go_wp2_with (first | go_step3 | (go_at_call 115; refine (HBG.out _).mono ?_; rintro e w2 ⟨rfl, rfl⟩))
          rw [jump_ret]
          refine bodyPost_ret (results_tmp2 rfl _ _ _) rfl ?_
          rw [HX.out]
          exact ⟨rfl, HC2.out _⟩
        · have hpI : ¬ (0 : Int) < (N0 : Int) := by omega
          clear hnn
          go_wp2_with (first | go_step3 | (go_at_call 115; refine (HBG.out _).mono ?_; rintro e w2 ⟨rfl, rfl⟩))
          rw [jump_ret]
          refine bodyPost_ret (results_tmp2 rfl _ _ _) rfl ?_
          rw [HX.out]
          exact ⟨rfl, HC2.out _⟩

end Go.Proofs.Ytgjcnembeebjfaa
