/- Walks over package gz: Read. -/
import Derived.Test.YtgjcnembeebjfaaGzW6
import Derived.Deep.LoopGhost
import Derived.Deep.DeepCutAuto
namespace Go.Proofs.Ytgjcnembeebjfaa
open Go.RowKit
set_option linter.unusedVariables false

def readN (fu : Nat) (D : ByteArray) : Nat → Nat → Nat → List GPart → RR (List GPart)
  | 0, _, a, l => .ok l a
  | n + 1, most, a, l =>
    if l.length = 0 ∨ a < D.size then
      if l.length = 1024 then .bad 16 a
      else (partN fu D most a).bind fun p a' => readN fu D n (most - p.data.size) a' (l ++ [p])
    else .ok l a

theorem partN_in (fu : Nat) (D : ByteArray) (most a : Nat) : (partN fu D most a).In (a + 18) D.size := by
  cases e : headM D a with
  | bad c f =>
    rw [partN_bad e]
    have := headM_in D a
    rw [e] at this
    exact RR.In.of_bad this
  | ok p a1 =>
    rw [partN_ok e]
    have h1 := headM_in D a
    rw [e] at h1
    have h2 := (RR.In.of_ok h1).1
    generalize unpN fu D a1 most = st
    unfold tailN
    by_cases her : st.er ≠ 0
    · rw [if_pos her]
      exact her
    · rw [if_neg her]
      cases ht : takeM D 8 (a1 + (st.t + 7) / 8) with
      | bad c f =>
        have := takeM_in D 8 (a1 + (st.t + 7) / 8)
        rw [ht] at this
        exact this
      | ok t a2 =>
        obtain ⟨h3, rfl, -, -⟩ := takeM_ok ht
        simp only [RR.bind]
        generalize (numL (bytesOf (t.extract 0 4)) : Int) = x1
        generalize sumOf (bytesOf (strOf st.out)) = x2
        generalize numL (bytesOf (t.extract 4 t.size)) = x3
        by_cases e1 : x1 = x2
        · rw [if_pos e1]
          by_cases e2 : x3 = (strOf st.out).size
          · rw [if_pos e2]
            exact ⟨by omega, by omega⟩
          · rw [if_neg e2]
            exact (by decide : (11 : Nat) ≠ 0)
        · rw [if_neg e1]
          exact (by decide : (10 : Nat) ≠ 0)
theorem partN_data {fu : Nat} {D : ByteArray} {most a a' : Nat} {p : GPart} (h : partN fu D most a = .ok p a') : p.data.size ≤ most := by
  cases e : headM D a with
  | bad c f => rw [partN_bad e] at h; cases h
  | ok p1 a1 =>
    rw [partN_ok e] at h
    have h1 := headM_in D a
    rw [e] at h1
    have h2 := (RR.In.of_ok h1).2
    obtain ⟨-, hom⟩ := unpN_in fu D a1 most h2
    generalize unpN fu D a1 most = st at *
    unfold tailN at h
    by_cases her : st.er ≠ 0
    · rw [if_pos her] at h
      cases h
    · rw [if_neg her] at h
      cases ht : takeM D 8 (a1 + (st.t + 7) / 8) with
      | bad c f => rw [ht] at h; cases h
      | ok t a2 =>
        rw [ht] at h
        simp only [RR.bind] at h
        generalize (numL (bytesOf (t.extract 0 4)) : Int) = x1 at h
        generalize sumOf (bytesOf (strOf st.out)) = x2 at h
        generalize numL (bytesOf (t.extract 4 t.size)) = x3 at h
        by_cases e1 : x1 = x2
        · rw [if_pos e1] at h
          by_cases e2 : x3 = (strOf st.out).size
          · rw [if_pos e2] at h
            cases h
            show (strOf st.out).size ≤ most
            rw [strOf_size]
            exact hom
          · rw [if_neg e2] at h
            cases h
        · rw [if_neg e1] at h
          cases h

def gpL (l : List GPart) : List Value := l.flatMap gpC
theorem gpL_snoc (l : List GPart) (p : GPart) : gpL (l ++ [p]) = gpL l ++ gpC p := by simp [gpL]
theorem info_gp : (Try.prog.info? 37).map (fun i => (i.zero, i.size, i.bytes)) = some (some (gpV {}), 9, 96) := by kernel_rfl
theorem gp_one (x : GPart) : ∀ u ∈ gpC x, u.oneCell' = true := by
  intro u hu
  simp [gpC] at hu
  rcases hu with rfl | rfl | rfl | rfl | rfl | rfl | rfl | rfl | rfl <;> rfl

theorem _root_.Go.World.ownsRow.mut' {w w' : World} {base : Nat} {e : TypeId} {size : Nat} {v : Value} {n : Nat} {xs : List Value} {S : List Nat} (h : w.ownsRow base e size v n xs) (m : Mut S w w') (hn : ∀ g, v.ownBlock = some g → g ∉ S) : w'.ownsRow base e size v n xs := m.row h hn

/-- between two parts -/
structure Rs (W : World) (b : Nat) (D : ByteArray) (a : Nat) (v : Value) (l : List GPart) (w : World) : Prop where
  rx : RX b D a 0 0 w
  row : w.ownsRow 0 37 9 v l.length (gpL l)
  fresh : ∀ g, v.ownBlock = some g → W.heap.size ≤ g
  low : W.heap.size ≤ b
  kept : Mut [] W w

/-- what Read answers -/
def readRes (w : World) (R : RR (List GPart)) (v : Value) (w' : World) : Prop :=
  match R with
  | .ok l _ => ∃ p c, v = .tuple #[.slice p l.length c, .agg #[.int .i64 0, .int .i64 0]] ∧ w'.ownsRow 0 37 9 (.slice p l.length c) l.length (gpL l) ∧ (∀ g, (Value.slice p l.length c).ownBlock = some g → w.heap.size ≤ g)
  | .bad c f => v = .tuple #[.slice none 0 0, .agg #[.int .i64 (c : Int), .int .i64 (f : Int)]]

theorem results_read {tmps : Array Value} {w : World} {g : Nat} {v b0 b1 : Value} (h : w.heap[g]? = some (.cells #[b0, b1] 26 (0, 0)))
    (p1 : tmps.getD 4 undef = v) (p2 : tmps.getD 5 undef = .pointer (some ⟨g, 0, none⟩)) :
    (results Try.f10 tmps).run Try.prog w = .ok (.tuple #[v, .agg #[b0, b1]]) w := by
  have q1 : tmps[4]?.getD undef = v := by simpa using p1
  have q2 : tmps[5]?.getD undef = .pointer (some ⟨g, 0, none⟩) := by simpa using p2
  have e2 := run_loadVar_row (P := Try.prog) w g 26 26 #[b0, b1] (0, 0) _ h Try.underlying26 rfl (by kernel_rfl)
  simp [results, q1, q2, asAddr, e2]

/-- the end: the fault's two cells are written -/
theorem read_end {w W w2 : World} {F : Nat} (hF : W.heap[F]? = some (.cells #[.int .i64 0, .int .i64 0] 26 (0, 0))) (hFw : F = w.heap.size) (hm : Mut [] w W) (k : Mut [] W w2) (x y : Value) :
    ((w2.setCell ⟨F, 0, none⟩ x).setCell ⟨F, 1, none⟩ y).heap[F]? = some (.cells #[x, y] 26 (0, 0)) ∧ Mut [] w ((w2.setCell ⟨F, 0, none⟩ x).setCell ⟨F, 1, none⟩ y) ∧
      (∀ {v : Value} {n : Nat} {xs : List Value}, w2.ownsRow 0 37 9 v n xs → (∀ g, v.ownBlock = some g → W.heap.size ≤ g) → ((w2.setCell ⟨F, 0, none⟩ x).setCell ⟨F, 1, none⟩ y).ownsRow 0 37 9 v n xs) ∧
      w2.cell? ⟨F, 0, none⟩ = some (.int .i64 0) ∧ w2.cell? ⟨F, 1, none⟩ = some (.int .i64 0) ∧ w2.frozen? ⟨F, 0, none⟩ = false ∧ w2.frozen? ⟨F, 1, none⟩ = false := by
  have h := k.get hF (by simp)
  have hl := lt_of_heap hF
  have h1 := heap_set h 0 x
  have h2 := heap_set h1 1 y
  refine ⟨by simpa using h2, ((hm.trans k (by simp)).setCell (.inr (by simp [hFw])) _).setCell (.inr (by simp [hFw])) _, fun hr hg => row_set_ne (row_set_ne hr (fun g e => ?_) _) (fun g e => ?_) _, (cells2 h).1, (cells2 h).2.1, (cells2 h).2.2.1, (cells2 h).2.2.2⟩
  · have := hg g e; omega
  · have := hg g e; omega

set_option maxHeartbeats 3200000 in
set_option maxRecDepth 100000 in
theorem gz_read_wide (fu : Nat) (D : ByteArray) (hfu : 8 * D.size < fu) (most : Nat) (hmost : most ≤ 9223372036854775807) (hB : ∀ m a1, m ≤ most → a1 ≤ D.size → (unpN fu D a1 m).out.length ≤ 1099511627776) (hD : D.size ≤ 1099511627776) (R : RR (List GPart)) (hR : readN fu D 1026 most 0 [] = R) (w : World) :
    Calls Try.prog 10 #[.string D, .int .i64 (most : Int)] w fun e w' => ∃ v, e = .returned v ∧ readRes w R v w' ∧ Mut [] w w' := by
  have HR := Lib.hid hR
  have hm0 : ¬ (most : Int) < 0 := by omega
  have HFU := Lib.hid hfu
  clear hR hfu
  go_enter Try.func10, Try.ntmps10
  go_upto_region 3 with fail
  have hF := heap_alloc_new' w (.cells #[.int .i64 0, .int .i64 0] 26)
  have hM0 := (Mut.refl [] w).alloc (.cells #[.int .i64 0, .int .i64 0] 26)
  generalize w.alloc (.cells #[.int .i64 0, .int .i64 0] 26) = W at *
  have HF := Lib.hid (And.intro hF hM0)
  have H0 : Hid (Rs W W.heap.size D 0 (.slice none 0 0) [] (W.alloc (.cells #[.string D, .int .i64 0, .int .i64 0, .int .i64 0] 59))) :=
    Lib.hid ⟨heap_alloc_new' _ _, World.ownsRow_nil _ _ _ _, by simp [Value.ownBlock], Nat.le_refl _, (Mut.refl [] W).alloc _⟩
  clear hF hM0
  go_upto_region 5 with fail
  generalize W.alloc (.cells #[.string D, .int .i64 0, .int .i64 0, .int .i64 0] 59) = W1 at *
  generalize W.heap.size = b at *
  go_loopg [1, 7] 1026 (fun g mo out wr => ∃ (m a n : Nat) (l : List GPart) (pp : Option Addr) (cc : Nat), mo = .int .i64 (m : Int) ∧ out = .slice pp n cc ∧ Hid (l.length = n ∧ g + n = 1026) ∧ m ≤ most ∧ a ≤ D.size ∧ n ≤ 1024 ∧ Hid (readN fu D g m a l = R) ∧ Hid (Rs W b D a (.slice pp n cc) l wr))
  case atStart => exact ⟨most, 0, 0, [], none, 0, rfl, rfl, Lib.hid ⟨rfl, rfl⟩, Nat.le_refl _, Nat.zero_le _, Nat.zero_le _, HR, H0⟩
  case round =>
    obtain ⟨m, a, n, l, pp, cc, rfl, rfl, HL, hm, ha, hn, HRN, HS⟩ := hrel
    clear H0 HR hm0
    obtain ⟨g', hg'⟩ : ∃ g', gk = g' + 1 := ⟨gk - 1, by have := HL.out.2; omega⟩
    obtain ⟨c0, c1, c2, c3, d1, d2, d3⟩ := HS.out.rx.cells
    by_cases hgo : n = 0 ∨ a < D.size
    case neg =>
      have hn0 : ((n : Int) == 0) = false := by rw [beq_eq_false_iff_ne]; omega
      have haI : ¬ (a : Int) < (D.size : Int) := by omega
      have HE : Hid (RR.ok l a = R) := Lib.hid (by
        have := HRN.out
        rw [hg', readN, if_neg (by rw [HL.out.1]; exact hgo)] at this
        exact this)
      obtain ⟨k1, k2, k3, k4, k5, k6, k7⟩ := read_end HF.out.1 rfl HF.out.2 HS.out.kept (.int .i64 0) (.int .i64 0)
      have K1 := Lib.hid k1
      have K2 := Lib.hid k2
      have K3 := Lib.hid (k3 HS.out.row HS.out.fresh)
      have K4 := Lib.hid (And.intro HS.out.fresh HF.out.2.size)
      clear k1 k2 k3 hgo hg' HRN HS
      go_wp2_with fail
      rw [← HE.out]
      have hl := HL.out.1
      subst hl
      exact bodyPost_ret (results_read K1.out rfl rfl) rfl ⟨_, rfl, ⟨pp, cc, rfl, K3.out, fun g hg => Nat.le_trans K4.out.2 (K4.out.1 g hg)⟩, K2.out⟩
    case pos =>
      have hgo' : ((n : Int) == 0) = true ∨ ((n : Int) == 0) = false ∧ (a : Int) < (D.size : Int) := by
        by_cases h : n = 0
        · left; rw [h]; rfl
        · right; exact ⟨by rw [beq_eq_false_iff_ne]; omega, by omega⟩
      have HRN2 : Hid ((if l.length = 1024 then RR.bad 16 a else (partN fu D m a).bind fun p a' => readN fu D g' (m - p.data.size) a' (l ++ [p])) = R) := Lib.hid (by
        have := HRN.out
        rw [hg', readN, if_pos (by rw [HL.out.1]; exact hgo)] at this
        exact this)
      have HG := Lib.hid hg'
      clear HRN hgo hg'
      go_upto_region 5 with fail
      go_cut [26] (fun t wx => t = .bool true ∧ wx = wr)
      case first =>
        rcases hgo' with h | ⟨h, h2⟩
        · go_wp2_with fail
          go_meet
          exact ⟨rfl, rfl⟩
        · go_wp2_with fail
          go_meet
          exact ⟨rfl, rfl⟩
      case rest =>
      obtain ⟨rfl, rfl⟩ := hcut
      clear hgo'
      by_cases hmany : n = 1024
      case pos =>
        have hb : ((n : Int) == 1024) = true := by rw [hmany]; rfl
        have HE : Hid (RR.bad 16 a = R) := Lib.hid (by rw [← HRN2.out, if_pos (by rw [HL.out.1]; exact hmany)])
        have HFL : Hid (Calls Try.prog 18 #[.pointer (some ⟨b, 0, none⟩), .bool true, .int .i64 16, .int .i64 (a : Int)] wc fun e w' => e = .returned (.bool true) ∧ RX b D a 16 a w' ∧ Mut [b] wc w') := Lib.hid (gz_fail_new b D a 0 16 a (by decide) wc HS.out.rx)
        clear hmany HRN2
        go_wp2_with fail
        refine HFL.out.mono ?_
        rintro e w2 ⟨rfl, hr, hm⟩
        have hk : Mut [] W w2 := HS.out.kept.trans hm (fun x hx => .inr (by simp at hx; subst hx; exact HS.out.low))
        obtain ⟨k1, k2, -, k4, k5, k6, k7⟩ := read_end HF.out.1 rfl HF.out.2 hk (.int .i64 16) (.int .i64 (a : Int))
        have K1 := Lib.hid k1
        have K2 := Lib.hid k2
        clear c0 c1 c2 c3 d1 d2 d3 k1 k2 hk
        obtain ⟨c0, c1, c2, c3, d1, d2, d3⟩ := hr.cells
        clear hr hm HS HFL
        go_upto_region 7 with fail
        go_region
        all_goals (go_wp2_with fail)
        all_goals rw [← HE.out]
        all_goals exact bodyPost_ret (results_read (show (World.drew _).heap[_]? = _ from K1.out) rfl rfl) rfl ⟨_, rfl, rfl, K2.out.drew⟩
      case neg =>
        have hb : ((n : Int) == 1024) = false := by rw [beq_eq_false_iff_ne]; omega
        have hn3 : n + 1 ≤ 1024 := by omega
        have HRN3 : Hid (((partN fu D m a).bind fun p a' => readN fu D g' (m - p.data.size) a' (l ++ [p])) = R) := Lib.hid (by rw [← HRN2.out, if_neg (by rw [HL.out.1]; exact hmany)])
        have HNO : Hid (∀ k p, Calls Try.prog 18 #[.pointer (some ⟨b, 0, none⟩), .bool false, .int .i64 k, .int .i64 p] wc fun e w' => e = .returned (.bool false) ∧ w' = wc) := Lib.hid fun k p => gz_fail_no b D a 0 k p wc HS.out.rx
        have HPT := Lib.hid (gz_part_any fu b D HFU.out a m (by omega) (fun a1 h1 => hB m a1 hm h1) ha hD wc HS.out.rx)
        clear hmany HRN2
        go_wp2_with fail
        refine (HNO.out _ _).mono ?_
        rintro e w2 ⟨rfl, rfl⟩
        go_wp2_with fail
        refine HPT.out.mono ?_
        rintro e w3 ⟨hm, hr⟩
        cases hp : partN fu D m a with
        | bad c f =>
          rw [hp] at hr
          obtain ⟨⟨p, rfl⟩, a1, ha1, hr⟩ := hr
          have hc : c ≠ 0 := by
            have := partN_in fu D m a
            rw [hp] at this
            exact RR.In.of_bad this
          have HE : Hid (RR.bad c f = R) := Lib.hid (by rw [← HRN3.out, hp, RR.bind])
          have hk : Mut [] W (w3.alloc (.cells #[.string p.name, .string p.comment, .string p.extra, .bool p.text, .bool p.headSum, .int .i64 p.time, .int .i64 p.more, .int .i64 p.system, .string p.data] 37)) := (HS.out.kept.trans hm (fun x hx => .inr (by simp at hx; subst hx; exact HS.out.low))).alloc _
          have hr4 := hr.mut ((Mut.refl [] w3).alloc (.cells #[.string p.name, .string p.comment, .string p.extra, .bool p.text, .bool p.headSum, .int .i64 p.time, .int .i64 p.more, .int .i64 p.system, .string p.data] 37)) (by simp)
          have hc' : ((c : Int) == 0) = false := by rw [beq_eq_false_iff_ne]; omega
          obtain ⟨k1, k2, -, k4, k5, k6, k7⟩ := read_end HF.out.1 rfl HF.out.2 hk (.int .i64 (c : Int)) (.int .i64 (f : Int))
          have K1 := Lib.hid k1
          have K2 := Lib.hid k2
          clear c0 c1 c2 c3 d1 d2 d3 k1 k2 hk
          obtain ⟨c0, c1, c2, c3, d1, d2, d3⟩ := hr4.cells
          clear hr hr4 hm HS HPT HNO HRN3 hp hc
          rw [show gpV p = .agg #[.string p.name, .string p.comment, .string p.extra, .bool p.text, .bool p.headSum, .int .i64 p.time, .int .i64 p.more, .int .i64 p.system, .string p.data] from rfl]
          go_upto_region 9 with fail
          generalize w3.alloc (.cells #[.string p.name, .string p.comment, .string p.extra, .bool p.text, .bool p.headSum, .int .i64 p.time, .int .i64 p.more, .int .i64 p.system, .string p.data] 37) = w4 at *
          go_upto_region 10 with fail
          go_region
          all_goals (go_wp2_with fail)
          all_goals rw [← HE.out]
          all_goals exact bodyPost_ret (results_read (show (World.drew _).heap[_]? = _ from K1.out) rfl rfl) rfl ⟨_, rfl, rfl, K2.out.drew⟩
        | ok p a1 =>
          rw [hp] at hr
          obtain ⟨rfl, hr⟩ := hr
          have ha1 : a1 ≤ D.size := by
            have := partN_in fu D m a
            rw [hp] at this
            exact (RR.In.of_ok this).2
          have hpd := partN_data hp
          have HE : Hid (readN fu D g' (m - p.data.size) a1 (l ++ [p]) = R) := Lib.hid (by rw [← HRN3.out, hp, RR.bind])
          have hbn : ∀ g, (Value.slice pp n cc).ownBlock = some g → g ∉ [b] := fun g hg h => by
            simp at h
            subst h
            exact row_ne HS.out.row HS.out.rx (by decide) hg
          have hk : Mut [] W (w3.alloc (.cells #[.string p.name, .string p.comment, .string p.extra, .bool p.text, .bool p.headSum, .int .i64 p.time, .int .i64 p.more, .int .i64 p.system, .string p.data] 37)) := (HS.out.kept.trans hm (fun x hx => .inr (by simp at hx; subst hx; exact HS.out.low))).alloc _
          have hrow := (HS.out.row.mut' hm hbn).mut' ((Mut.refl [] w3).alloc (.cells #[.string p.name, .string p.comment, .string p.extra, .bool p.text, .bool p.headSum, .int .i64 p.time, .int .i64 p.more, .int .i64 p.system, .string p.data] 37)) (by simp)
          have hrx := hr.mut ((Mut.refl [] w3).alloc (.cells #[.string p.name, .string p.comment, .string p.extra, .bool p.text, .bool p.headSum, .int .i64 p.time, .int .i64 p.more, .int .i64 p.system, .string p.data] 37)) (by simp)
          have hpx := heap_alloc_new' w3 (.cells #[.string p.name, .string p.comment, .string p.extra, .bool p.text, .bool p.headSum, .int .i64 p.time, .int .i64 p.more, .int .i64 p.system, .string p.data] 37)
          have HS4 : Hid (Rs W b D a1 (.slice pp n cc) l (w3.alloc (.cells #[.string p.name, .string p.comment, .string p.extra, .bool p.text, .bool p.headSum, .int .i64 p.time, .int .i64 p.more, .int .i64 p.system, .string p.data] 37))) := Lib.hid ⟨hrx, hrow, HS.out.fresh, HS.out.low, hk⟩
          clear c0 c1 c2 c3 d1 d2 d3 hbn hk hrow hr hm HS HPT HNO HRN3 hp
          rw [show gpV p = .agg #[.string p.name, .string p.comment, .string p.extra, .bool p.text, .bool p.headSum, .int .i64 p.time, .int .i64 p.more, .int .i64 p.system, .string p.data] from rfl]
          go_upto_region 9 with fail
          generalize w3.alloc (.cells #[.string p.name, .string p.comment, .string p.extra, .bool p.text, .bool p.headSum, .int .i64 p.time, .int .i64 p.more, .int .i64 p.system, .string p.data] 37) = w4 at *
          generalize w3.heap.size = gp at *
          obtain ⟨c0, c1, c2, c3, d1, d2, d3⟩ := hrx.cells
          have e0 := cellOf hpx 0 (x := .string p.name) rfl
          have e1 := cellOf hpx 1 (x := .string p.comment) rfl
          have e2 := cellOf hpx 2 (x := .string p.extra) rfl
          have e3 := cellOf hpx 3 (x := .bool p.text) rfl
          have e4 := cellOf hpx 4 (x := .bool p.headSum) rfl
          have e5 := cellOf hpx 5 (x := .int .i64 p.time) rfl
          have e6 := cellOf hpx 6 (x := .int .i64 p.more) rfl
          have e7 := cellOf hpx 7 (x := .int .i64 p.system) rfl
          have e8 := cellOf hpx 8 (x := .string p.data) rfl
          have hmI : (p.data.size : Int) ≤ (m : Int) := by omega
          obtain ⟨i0, hi, hz0, hz1, hz2⟩ := info_parts info_gp
          obtain ⟨v, hv⟩ : ∃ v, Value.slice pp n cc = v := ⟨_, rfl⟩
          have HV := Lib.hid hv
          have hrow := HS4.out.row
          rw [hv] at hrow
          clear hrx hpx
          go_upto_region 12 with fail
          rw [hv]
          clear hv
          go_wp2_with (at_builtin; refine wp_app rfl (.tmp 58) (.tmp 60) 23 23 rfl 37 i0 (gpV {}) 9 96 Try.underlying23 hi hz0 hz1 hz2 rfl (hrow.alloc _) rfl (src1 Try.underlying23 (heap_alloc_new w4 _) rfl (gp_one p)) rfl ?b1 ?b2 ?_)
          case b1 => have := HL.out.1; unfold maxLen; omega
          case b2 => have := HL.out.1; omega
          intro v2 w5 r1 r2 r3
          have hl := HL.out.1
          obtain ⟨G2, cp2, rfl, -, -⟩ := row_some r1 (by omega)
          have hm5 : Mut v.ownBlock.toList w4 w5 := ((Mut.refl _ w4).alloc (.cells (gpC p).toArray 37)).grown r2 (by intro g hg; simp [hg])
          have hvb : v.ownBlock ≠ some b := row_ne hrow HS4.out.rx (by decide)
          have hfr : ∀ g, v.ownBlock = some g → W.heap.size ≤ g := by rw [← HV.out]; exact HS4.out.fresh
          have hrow5 : w5.ownsRow 0 37 9 (.slice (some ⟨G2, 0, none⟩) (n + 1) cp2) (l ++ [p]).length (gpL (l ++ [p])) := by
            rw [List.length_append, gpL_snoc]
            rw [hl] at r1 ⊢
            exact r1
          have hfr5 : ∀ g, (Value.slice (some ⟨G2, 0, none⟩) (n + 1) cp2).ownBlock = some g → W.heap.size ≤ g := fun g hg => by
            rcases r3 g hg with h | h
            · exact hfr g h
            · have := HS4.out.kept.size
              omega
          have HS5 : Hid (Rs W b D a1 (.slice (some ⟨G2, 0, none⟩) (n + 1) cp2) (l ++ [p]) w5) := Lib.hid
            ⟨HS4.out.rx.mut hm5 (by simpa using hvb), hrow5, hfr5, HS4.out.low, HS4.out.kept.trans hm5 (fun x hx => .inr (hfr x (by simpa using hx)))⟩
          rw [hl]
          clear r1 r2 r3 hm5 hvb hfr hrow5 hfr5 hrow hi hz0 hz1 hz2 e0 e1 e2 e3 e4 e5 e6 e7 e8 c0 c1 c2 c3 d1 d2 d3 HS4 hl
          go_wp2_with fail
          have hms : (m : Int) - (p.data.size : Int) = ((m - p.data.size : Nat) : Int) := by omega
          rw [hms]
          go_roundg g'
          case measure => rw [HG.out]; exact Nat.lt_succ_self _
          case rel => exact ⟨m - p.data.size, a1, n + 1, l ++ [p], _, _, rfl, rfl, Lib.hid ⟨by rw [List.length_append, HL.out.1]; rfl, by have := HL.out.2; have := HG.out; omega⟩, by omega, ha1, hn3, HE, HS5⟩

theorem gz_read_any (fu : Nat) (D : ByteArray) (hfu : 8 * D.size < fu) (most : Nat) (hmost : most ≤ 1073741824) (hD : D.size ≤ 1099511627776) (R : RR (List GPart)) (hR : readN fu D 1026 most 0 [] = R) (w : World) :
    Calls Try.prog 10 #[.string D, .int .i64 (most : Int)] w fun e w' => ∃ v, e = .returned v ∧ readRes w R v w' ∧ Mut [] w w' :=
  gz_read_wide fu D hfu most (by omega) (fun m a1 h1 h2 => by have := (unpN_in fu D a1 m h2).2; omega) hD R hR w

end Go.Proofs.Ytgjcnembeebjfaa
