/- Walk over package squeeze: Pack, by any choices. -/
import Derived.Test.YtgjcnembeebjfaaGSzb
import Derived.Test.YtgjcnembeebjfaaSqzW6
import Derived.Test.YtgjcnembeebjfaaGSzc
import Derived.Test.YtgjcnembeebjfaaGTok
import Derived.Test.YtgjcnembeebjfaaReg
import Derived.BigQuiet
import Derived.Deep.DeepCutAuto
import Derived.Deep.CutBlock
import Derived.Deep.LoopGhost
namespace Go.Proofs.Ytgjcnembeebjfaa
open Go.RowKit
set_option linter.unusedVariables false

/-- the writer of the call's own, and the row of choices -/
structure PkW (W wx : World) (gW : Nat) (B : List Bool) (v : Value) (C : List Ch) : Prop where
  wr : WrTo W gW none B wx
  row : CRow 46 wx v C

theorem CRow.wr {e : TypeId} {w w' : World} {b : Nat} {r : Option Nat} {l l0 : List Bool} {v : Value} {T : List Ch} (h1 : e ≠ 114) (h2 : e ≠ 5) (h0 : WrIs w b r l0) (h : WrTo w b r l w') (hv : CRow e w v T) : CRow e w' v T := by
  refine ⟨hv.1, ?_⟩
  rcases hv.2 with h3 | ⟨g, cap, cur, rfl, hg, hh, q⟩
  · exact .inl h3
  · exact .inr ⟨g, cap, cur, rfl, hg, h.blk h0 hh h1 h2, q⟩

theorem PkW.mut {W wx wy : World} {gW : Nat} {B : List Bool} {v : Value} {C : List Ch} (h : PkW W wx gW B v C) (m : Mut [] wx wy) : PkW W wy gW B v C :=
  ⟨h.wr.after m, h.row.mut m (by simp)⟩

theorem PkW.size {W wx : World} {gW : Nat} {B : List Bool} {v : Value} {C : List Ch} (h : PkW W wx gW B v C) : W.heap.size ≤ wx.heap.size := by
  obtain ⟨_, _, _, hm⟩ := h.wr
  exact hm.size

/-- a call on the writer -/
theorem PkW.call {W wx : World} {gW : Nat} {B B' : List Bool} {v : Value} {C : List Ch} (h : PkW W wx gW B v C) {f : FuncId} {args : Array Value} {E : Ending → World → Prop} {K : World → Prop}
    (hc : ∀ r, WrIs wx gW r B → Calls Try.prog f args wx fun e w' => E e w' ∧ WrTo wx gW r B' w') (hK : ∀ r w', WrIs wx gW r B → WrTo wx gW r B' w' → K w') :
    Calls Try.prog f args wx fun e w' => E e w' ∧ PkW W w' gW B' v C ∧ K w' := by
  obtain ⟨⟨r, h4, h5, h6⟩, h7⟩ := h
  exact (hc r h4).mono fun e w' ⟨he, k⟩ => ⟨he, ⟨WrTo.then h4 h5 h6 k, h7.wr (by decide) (by decide) h4 k⟩, hK r w' h4 k⟩

/-- the box of a choice beside it -/
structure PkX (W wx : World) (gW : Nat) (B : List Bool) (v : Value) (C : List Ch) (g : Nat) (k s r : Int) : Prop where
  p : PkW W wx gW B v C
  box : wx.heap[g]? = some (.cells #[.int .i64 k, .int .i64 s, .int .i64 r] 46 (0, 0))
  gl : W.heap.size ≤ g

theorem PkX.start {W wx : World} {gW : Nat} {B : List Bool} {v : Value} {C : List Ch} (h : PkW W wx gW B v C) (k s r : Int) : PkX W (wx.alloc (.cells #[.int .i64 k, .int .i64 s, .int .i64 r] 46)) gW B v C wx.heap.size k s r :=
  ⟨h.mut ((Mut.refl [] wx).alloc _), heap_alloc_new wx _, h.size⟩

theorem PkX.mut {W wx wy : World} {gW : Nat} {B : List Bool} {v : Value} {C : List Ch} {g : Nat} {k s r : Int} (h : PkX W wx gW B v C g k s r) (m : Mut [] wx wy) : PkX W wy gW B v C g k s r :=
  ⟨h.p.mut m, m.get h.box (by simp), h.gl⟩

theorem PkX.call {W wx : World} {gW : Nat} {B B' : List Bool} {v : Value} {C : List Ch} {g : Nat} {k s r : Int} (h : PkX W wx gW B v C g k s r) {f : FuncId} {args : Array Value} {E : Ending → World → Prop} {K : World → Prop}
    (hc : ∀ r, WrIs wx gW r B → Calls Try.prog f args wx fun e w' => E e w' ∧ WrTo wx gW r B' w') (hK : ∀ r w', WrIs wx gW r B → WrTo wx gW r B' w' → K w') :
    Calls Try.prog f args wx fun e w' => E e w' ∧ PkX W w' gW B' v C g k s r ∧ K w' :=
  (h.p.call (K := fun w' => w'.heap[g]? = some (.cells #[.int .i64 k, .int .i64 s, .int .i64 r] 46 (0, 0)) ∧ K w') hc (fun r w' h0 kk => ⟨kk.blk h0 h.box (by decide) (by decide), hK r w' h0 kk⟩)).mono fun e w' ⟨h1, h2, h3, h4⟩ => ⟨h1, ⟨h2, h3, h.gl⟩, h4⟩

/-- the box is stored anew -/
theorem PkX.set {W wx : World} {gW : Nat} {B : List Bool} {v : Value} {C : List Ch} {g : Nat} {k s r : Int} (h : PkX W wx gW B v C g k s r) (hv : ∀ g', v.ownBlock = some g' → g' < W.heap.size) (i : Nat) (x : Int) {c : Array Value}
    (hc : (#[.int .i64 k, .int .i64 s, .int .i64 r] : Array Value).setIfInBounds i (.int .i64 x) = c) :
    PkW W (wx.setCell ⟨g, i, none⟩ (.int .i64 x)) gW B v C ∧ (wx.setCell ⟨g, i, none⟩ (.int .i64 x)).heap[g]? = some (.cells c 46 (0, 0)) := by
  subst hc
  obtain ⟨⟨⟨r1, h4, h5, h6⟩, h7⟩, h8, h9⟩ := h
  have hm : Mut [g] wx (wx.setCell ⟨g, i, none⟩ (.int .i64 x)) := (Mut.refl _ wx).setCell (by simp) _
  have hgW : gW ∉ [g] := fun e => by
    obtain ⟨c, hc⟩ := h4.heap
    have e' : gW = g := by simpa using e
    rw [e', h8] at hc
    simp at hc
  have hr1 : ∀ q, r1 = some q → q ∉ [g] := fun q hq e => by
    have e' : q = g := by simpa using e
    exact h4.row_ne h8 (by decide) q hq e'
  refine ⟨⟨⟨r1, h4.mut hm hgW hr1, h5, h6.trans hm (fun y hy => .inr ?_)⟩, h7.mut hm (fun q hq e => ?_)⟩, heap_set h8 i _⟩
  · have : y = g := by simpa using hy
    omega
  · have := hv q hq
    have : q = g := by simpa using e
    omega

theorem PkX.set0 {W wx : World} {gW : Nat} {B : List Bool} {v : Value} {C : List Ch} {g : Nat} {k s r : Int} (h : PkX W wx gW B v C g k s r) (hv : ∀ g', v.ownBlock = some g' → g' < W.heap.size) (x : Int) : PkX W (wx.setCell ⟨g, 0, none⟩ (.int .i64 x)) gW B v C g x s r :=
  ⟨(h.set hv 0 x rfl).1, (h.set hv 0 x rfl).2, h.gl⟩
theorem PkX.set3 {W wx : World} {gW : Nat} {B : List Bool} {v : Value} {C : List Ch} {g : Nat} {k s r : Int} (h : PkX W wx gW B v C g k s r) (hv : ∀ g', v.ownBlock = some g' → g' < W.heap.size) (x y z : Int) :
    PkX W (((wx.setCell ⟨g, 0, none⟩ (.int .i64 x)).setCell ⟨g, 1, none⟩ (.int .i64 y)).setCell ⟨g, 2, none⟩ (.int .i64 z)) gW B v C g x y z := by
  have h1 := h.set hv 0 x rfl
  have h2 := (PkX.mk h1.1 h1.2 h.gl).set hv 1 y rfl
  have h3 := (PkX.mk h2.1 h2.2 h.gl).set hv 2 z rfl
  exact ⟨h3.1, h3.2, h.gl⟩
theorem PkX.cells {W wx : World} {gW : Nat} {B : List Bool} {v : Value} {C : List Ch} {g : Nat} {k s r : Int} (h : PkX W wx gW B v C g k s r) : wx.cell? ⟨g, 0, none⟩ = some (.int .i64 k) ∧ wx.cell? ⟨g, 1, none⟩ = some (.int .i64 s) ∧ wx.cell? ⟨g, 2, none⟩ = some (.int .i64 r) ∧ wx.frozen? ⟨g, 0, none⟩ = false ∧ wx.frozen? ⟨g, 1, none⟩ = false ∧ wx.frozen? ⟨g, 2, none⟩ = false := cells3 h.box

theorem PkX.put {W wx : World} {gW : Nat} {B : List Bool} {v : Value} {C : List Ch} {g : Nat} {k s r : Int} (h : PkX W wx gW B v C g k s r) (x m : Int) (n : Nat) (hm : m = n) (hn : n ≤ 32) (hl : B.length ≤ 1125899906841000) :
    Calls Try.prog 57 #[.pointer (some ⟨gW, 0, none⟩), .int .i64 x, .int .i64 m] wx fun e w' => e = .returned (.tuple #[]) ∧ PkX W w' gW (B ++ lowBits x n) v C g k s r ∧ True :=
  h.call (E := fun e _ => e = .returned (.tuple #[])) (fun r hr => put_to (WrTo.refl hr) x m n hm hl hn) (fun _ _ _ _ => trivial)
theorem PkX.bytes {W wx : World} {gW : Nat} {B : List Bool} {v : Value} {C : List Ch} {g : Nat} {k s r : Int} (h : PkX W wx gW B v C g k s r) (x : ByteArray) (hl : (B.length + 7) / 8 + x.size ≤ 140737488355328) :
    Calls Try.prog 58 #[.pointer (some ⟨gW, 0, none⟩), .string x] wx fun e w' => e = .returned (.tuple #[]) ∧ PkX W w' gW (pad8 B ++ strBits x) v C g k s r ∧ True :=
  h.call (E := fun e _ => e = .returned (.tuple #[])) (fun r hr => wbytes_to (WrTo.refl hr) x hl) (fun _ _ _ _ => trivial)
/-- the boxes that a region reads -/
def CT (g gA gB : Nat) (k s r : Int) (x1 x2 y1 y2 : Value) (w' : World) : Prop := w'.heap[g]? = some (.cells #[.int .i64 k, .int .i64 s, .int .i64 r] 46 (0, 0)) ∧ w'.heap[gA]? = some (.cells #[x1, x2] 118 (0, 0)) ∧ w'.heap[gB]? = some (.cells #[y1, y2] 118 (0, 0))
theorem reachOf_spec (r : Int) : ((reachOf r : Nat) : Int) = min (max r 0) 32768 := by unfold reachOf; omega

/-- where Pack's loop is -/
def PkAt (W : World) (gW : Nat) (v : Value) (D : List Nat) (C : List Ch) (FIN : List Bool) (K0 : Nat) (wx : World) (a i : Nat) (lv : Int) (fb : Bool) : Prop :=
  ∃ B, PkW W wx gW B v C ∧
    ((fb = false ∧ a = D.length ∧ C.length ≤ i ∧ B = FIN) ∨
     ((fb = true ∨ a < D.length ∨ i < C.length) ∧ ∃ L f, PInv D.length C a i L ∧ muOf D.length C a i < f ∧ packR D C f a i L B = FIN ∧ B.length + 60 * (D.length - a) + 1400 * muOf D.length C a i ≤ K0 ∧
       ((lv = -1 ∧ L = leftOf C D.length a i) ∨ (lv = (L : Int) ∧ 0 < L)) ∧ i ≤ C.length))

theorem next_le {sz : Nat} {C : List Ch} {a i L : Nat} (h : PInv sz C a i L) (hi : i ≤ C.length) (k : Nat) (hq : isLast C sz a i L (cutOf k L) = false) : nextI i L (cutOf k L) ≤ C.length := by
  have h1 := cut_le k L
  have h2 := h.room
  have h3 := h.le
  have hq' := of_decide_eq_false hq
  unfold nextI at *
  by_cases h5 : L - cutOf k L = 0
  · rw [if_pos h5] at hq' ⊢
    by_cases h6 : C.length ≤ i
    · have := h.past h6
      exact absurd ⟨by omega, by omega⟩ hq'
    · omega
  · rw [if_neg h5]
    exact hi

theorem kindOf_abs (k k1 : Int) (h : (if k < 0 then -(k + 1) else k) = k1) : 0 ≤ k1 ∧ k1 % 3 = ((kindOf k : Nat) : Int) := by
  unfold kindOf
  rw [h]
  have : 0 ≤ k1 := by
    rw [← h]
    split <;> omega
  omega

set_option maxHeartbeats 6400000 in
set_option maxRecDepth 100000 in
theorem spack_any (data : ByteArray) (D : List Nat) (hD : bytesOf data = D) (hz : data.size ≤ 1048576) (C : List Ch) (hCl : C.length ≤ 1048576) (hCk : ∀ c ∈ C, -9223372036854775808 ≤ c.1 ∧ c.1 ≤ 9223372036854775807) (v : Value) (w : World) (hv : CRow 46 w v C) :
    Calls Try.prog 39 #[.string data, v] w fun e w' => e = .returned (.string (strOf (pack (packAll D C)))) ∧ Mut [] w w' := by
  have hDl : D.length = data.size := by rw [← hD, bytesOf_length]
  have hDlt : ∀ x ∈ D, x < 256 := by rw [← hD]; exact bytesOf_lt data
  obtain ⟨FIN, hFIN⟩ : ∃ FIN, packAll D C = FIN := ⟨_, rfl⟩
  have hmu0 : muOf D.length C 0 0 < D.length + C.length + 1 := by unfold muOf; omega
  obtain ⟨K0, hK0⟩ : ∃ K0, 60 * D.length + 1400 * muOf D.length C 0 0 = K0 := ⟨_, rfl⟩
  have hK0b : K0 ≤ 3100000000 := by unfold muOf at hK0; omega
  have hvl := fun g' hg' => (hv.lt hg' : g' < w.heap.size)
  have hm0 : Mut [] w (w.alloc (.cells #[.slice none 0 0, .int .i64 0] 114)) := (Mut.refl [] w).alloc _
  have HAT : Hid (PkAt (w.alloc (.cells #[.slice none 0 0, .int .i64 0] 114)) w.heap.size v D C FIN K0 (w.alloc (.cells #[.slice none 0 0, .int .i64 0] 114)) 0 0 (-1) true) :=
    Lib.hid ⟨[], ⟨WrTo.refl (writer_new w), hv.mut hm0 (by simp)⟩, .inr ⟨.inl rfl, leftOf C D.length 0 0, _, PInv.start _ _, hmu0, hFIN, by rw [← hK0]; simp, .inl ⟨rfl, rfl⟩, Nat.zero_le _⟩⟩
  have hWs : w.heap.size < (w.alloc (.cells #[.slice none 0 0, .int .i64 0] 114)).heap.size := by simp
  obtain ⟨pv, cv, rfl⟩ := hv.form
  have HD := Lib.hid hD
  have HDL := Lib.hid hDl
  have HDT := Lib.hid hDlt
  have HCK := Lib.hid hCk
  have HVL : Hid (∀ g', (Value.slice pv C.length cv).ownBlock = some g' → g' < (w.alloc (.cells #[.slice none 0 0, .int .i64 0] 114)).heap.size) := Lib.hid fun g' h => by have := hvl g' h; omega
  have HM0 := Lib.hid hm0
  rw [hFIN]
  clear hD hDlt hCk hFIN hmu0 hK0 hvl hm0 hv hDl
  go_enter Try.func39, Try.ntmps39
  go_upto_region 2 with fail
  generalize w.alloc (.cells #[.slice none 0 0, .int .i64 0] 114) = W at *
  generalize hgW : w.heap.size = gW at *
  have HGW := Lib.hid hgW
  clear hgW
  go_wp2_with fail
  go_loopw [9, 6, 7, 8] (fun f a i l wx => ∃ (an n : Nat) (lv : Int) (fb : Bool), f = .bool fb ∧ a = .int .i64 (an : Int) ∧ i = .int .i64 (n : Int) ∧ l = .int .i64 lv ∧ an ≤ data.size ∧ n ≤ C.length + 1 ∧ Hid (PkAt W gW (.slice pv C.length cv) D C FIN K0 wx an n lv fb)) (fun f a i _ _ => (data.size - (intOf a).toNat) + (C.length - (intOf i).toNat) + if boolOf f = true then 1 else 0)
  case atStart => exact ⟨0, 0, -1, true, rfl, rfl, rfl, rfl, by omega, by omega, HAT⟩
  case round =>
    obtain ⟨a, i, lv, fb, rfl, rfl, rfl, rfl, ha, hi, HR⟩ := hrel
    clear HAT
    obtain ⟨B, hP, hrun⟩ := HR.out
    rcases hrun with ⟨hf, hae, hie, hB⟩ | ⟨hcont, L, f, hI, hmu, hF, hbud, hlv, hiC⟩
    · subst hf hB
      have hdl := HDL.out
      have haI : ¬ (a : Int) < (data.size : Int) := by omega
      have hiI : ¬ (i : Int) < (C.length : Int) := by omega
      obtain ⟨r, h4, h5, h6⟩ := hP.wr
      have HA := Lib.hid (wall_any gW r _ wr h4)
      have HM : Hid (Mut [] w wr) := Lib.hid (HM0.out.trans h6 (fun x hx => .inr (by
        have : x = gW := by simpa using hx
        have := HGW.out
        omega)))
      clear HR hP hae hie hdl h4 h5 h6
      go_wp2_with fail
      refine HA.out.mono ?_
      rintro e w2 ⟨rfl, rfl⟩
      go_wp2_with fail
      go_ret
      exact ⟨rfl, HM.out⟩
    · have HP := Lib.hid hP
      have hdl := HDL.out
      have HRUN := Lib.hid (show PInv D.length C a i L ∧ muOf D.length C a i < f ∧ packR D C f a i L B = FIN ∧ B.length + 60 * (D.length - a) + 1400 * muOf D.length C a i ≤ K0 from ⟨hI, hmu, hF, hbud⟩)
      have hL1 : L ≤ data.size - a := by rw [← hdl]; exact hI.room
      have hmes : 1 ≤ (data.size - a) + (C.length - i) + (if fb = true then 1 else 0) := by
        rw [← hdl]
        rcases hcont with h | h | h
        · rw [if_pos h]; omega
        · omega
        · omega
      have HMES := Lib.hid hmes
      have HLV := Lib.hid hlv
      clear hP hI hmu hF hbud HR hlv hmes
      go_upto_region 4 with fail
      go_cut [30] (fun q wx => q = .bool true ∧ wx = wr)
      case first =>
        as_aux_lemma =>
          rw [hdl] at hcont
          cases fb with
          | true =>
            clear hcont
            go_wp2_with fail
            go_meet
            exact ⟨rfl, rfl⟩
          | false =>
            by_cases h1 : a < data.size
            · have h1I : (a : Int) < (data.size : Int) := by omega
              clear hcont
              go_wp2_with fail
              go_meet
              exact ⟨rfl, rfl⟩
            · have h1I : ¬ (a : Int) < (data.size : Int) := by omega
              have h2I : (i : Int) < (C.length : Int) := by
                rcases hcont with h | h | h
                · cases h
                · omega
                · omega
              clear hcont
              go_wp2_with fail
              go_meet
              exact ⟨rfl, rfl⟩
      case rest =>
        obtain ⟨rfl, hwc⟩ := hcut
        obtain rfl := hwc.symm
        clear hcont
        have HX := Lib.hid (PkX.start HP.out 0 (data.size : Int) 0)
        go_upto_region 7 with fail
        generalize wr.alloc (.cells #[.int .i64 0, .int .i64 (data.size : Int), .int .i64 0] 46) = w1 at *
        generalize wr.heap.size = g at *
        obtain ⟨⟨ck, cs, cr⟩, hch⟩ : ∃ c, chAt C D.length i = c := ⟨_, rfl⟩
        have hckb : -9223372036854775808 ≤ ck ∧ ck ≤ 9223372036854775807 := by
          by_cases h : i < C.length
          · have e : C[i] = (ck, cs, cr) := by rw [← hch]; simp [chAt, List.getD, h]
            have := HCK.out C[i] (List.getElem_mem h)
            rw [e] at this
            exact this
          · have e : chAt C D.length i = (0, (D.length : Int), 0) := by simp [chAt, List.getD, show C.length ≤ i by omega]
            rw [hch] at e
            simp only [Prod.mk.injEq] at e
            rw [e.1]
            decide
        have HCKB := Lib.hid hckb
        have HCH := Lib.hid hch
        clear HP hch hckb
        go_upto_if 37 with fail
        go_cut [] (fun wx => Hid (PkX W wx gW B (.slice pv C.length cv) C g ck cs cr))
        case first =>
          as_aux_lemma =>
            by_cases h : i < C.length
            · have hI : (i : Int) < (C.length : Int) := by omega
              have e : C[i] = (ck, cs, cr) := by rw [← HCH.out]; simp [chAt, List.getD, h]
              obtain ⟨gc, cc, e1, -, -⟩ := row_some HX.out.p.row (by omega)
              simp only [Value.slice.injEq] at e1
              obtain ⟨rfl, -, rfl⟩ := e1
              obtain ⟨d0, d1, d2⟩ := HX.out.p.row.cells i h
              rw [e, Nat.mul_comm] at d0 d1 d2
              dsimp only at d0 d1 d2
              obtain ⟨x0, x1, x2, x3, x4, x5⟩ := HX.out.cells
              have HX2 := Lib.hid (HX.out.set3 HVL.out ck cs cr)
              clear e HX
              go_wp2_with fail
              go_meet
              exact HX2
            · have hI : ¬ (i : Int) < (C.length : Int) := by omega
              have e : chAt C D.length i = (0, (D.length : Int), 0) := by simp [chAt, List.getD, show C.length ≤ i by omega]
              rw [HCH.out, hdl] at e
              simp only [Prod.mk.injEq] at e
              obtain ⟨rfl, rfl, rfl⟩ := e
              go_wp2_with fail
              go_meet
              exact HX
        case rest =>
          have HX1 := hcut
          clear hcut HX
          obtain ⟨k1, hk1⟩ : ∃ k1, (if ck < 0 then -(ck + 1) else ck) = k1 := ⟨_, rfl⟩
          obtain ⟨hk10, hk13⟩ := kindOf_abs ck k1 hk1
          obtain ⟨c0, -, -, c3, -, -⟩ := HX1.out.cells
          go_upto_if 44 with fail
          go_cut [] (fun wx => Hid (PkX W wx gW B (.slice pv C.length cv) C g k1 cs cr))
          case first =>
            as_aux_lemma =>
              by_cases h : ck < 0
              · rw [if_pos h] at hk1
                obtain ⟨m, hm⟩ : ∃ m, ck + 1 = m := ⟨_, rfl⟩
                have hckb := HCKB.out
                have hw1 : wrap64 (ck + 1) = m := by rw [IntWalk.wrap64_in _ (by omega)]; exact hm
                have hw1' : IntKind.i64.wrap (ck + 1) = m := by rw [IntWalk.i64_in _ (by omega)]; exact hm
                have hw2 : wrap64 (-m) = k1 := by rw [IntWalk.wrap64_in _ (by omega)]; omega
                have hw2' : IntKind.i64.wrap (-m) = k1 := by rw [IntWalk.i64_in _ (by omega)]; omega
                have HX2 := Lib.hid (HX1.out.set0 HVL.out k1)
                clear hckb hm hk1 hk10 hk13 HX1
                go_wp2_with fail
                go_meet
                exact HX2
              · rw [if_neg h] at hk1
                subst hk1
                clear hk10 hk13
                go_wp2_with fail
                go_meet
                exact HX1
          case rest =>
            have HX2 := hcut
            clear hcut HX1 c0 c3 hk1
            obtain ⟨k, hk⟩ : ∃ k, kindOf ck = k := ⟨_, rfl⟩
            rw [hk] at hk13
            have hk3 : k < 3 := by rw [← hk]; exact kindOf_lt ck
            have hkt : k1.tmod 3 = (k : Int) := by rw [Int.tmod_eq_emod_of_nonneg hk10]; exact hk13
            obtain ⟨c0, -, -, c3, -, -⟩ := HX2.out.cells
            have HX3 := Lib.hid (HX2.out.set0 HVL.out (k : Int))
            have HK := Lib.hid hk
            clear hk hk10 hk13
            go_upto_region 12 with fail
            clear c0 c3 HX2 hkt
            generalize wc.setCell ⟨g, 0, none⟩ (.int .i64 (k : Int)) = w2 at *
            obtain ⟨c0, c1, c2, -, -, -⟩ := HX3.out.cells
            have HCELL := Lib.hid (And.intro c0 (And.intro c1 c2))
            go_upto_if 55 with fail
            go_cut [8] (fun q wx => q = .int .i64 (L : Int) ∧ wx = w2)
            case first =>
              as_aux_lemma =>
                rcases HLV.out with ⟨h1, h2⟩ | ⟨h1, h2⟩
                · subst h1
                  have hlI : (-1 : Int) < 0 := by decide
                  obtain ⟨Z, hZ⟩ : ∃ Z, data.size - a = Z := ⟨_, rfl⟩
                  have hZI : (data.size : Int) - (a : Int) = (Z : Int) := by omega
                  have h3 : (L : Int) = min (max cs 0) (Z : Int) := by
                    rw [h2]
                    unfold leftOf
                    rw [HCH.out, hdl, hZ]
                    simp only
                    omega
                  have E := Lib.hid h3.symm
                  clear hdl h2 hL1 hZ h3
                  go_wp2_with fail
                  go_meet
                  exact ⟨congrArg _ E.out, rfl⟩
                · subst h1
                  have hlI : ¬ (L : Int) < 0 := by omega
                  go_wp2_with fail
                  go_meet
                  exact ⟨rfl, rfl⟩
            case rest =>
              obtain ⟨rfl, hwc⟩ := hcut
              obtain rfl := hwc.symm
              obtain ⟨n, hn⟩ : ∃ n, cutOf k L = n := ⟨_, rfl⟩
              have hnL : n ≤ L := by rw [← hn]; exact cut_le k L
              have HN := Lib.hid hn
              go_upto_if 67 with fail
              go_cut [11] (fun q wx => q = .int .i64 (n : Int) ∧ wx = w2)
              case first =>
                as_aux_lemma =>
                  unfold cutOf at hn
                  by_cases h1 : k = 0
                  · rw [if_pos h1] at hn
                    have hkI : ((k : Int) == 0) = true := by rw [h1]; rfl
                    have e : min (L : Int) 65535 = (n : Int) := by omega
                    have E := Lib.hid e
                    clear hn e h1 hk3
                    go_wp2_with fail
                    go_meet
                    exact ⟨congrArg _ E.out, rfl⟩
                  · rw [if_neg h1] at hn
                    have hkI : ((k : Int) == 0) = false := by rw [beq_eq_false_iff_ne]; omega
                    subst hn
                    clear h1
                    go_wp2_with fail
                    go_meet
                    exact ⟨rfl, rfl⟩
              case rest =>
                obtain ⟨rfl, hwc⟩ := hcut
                obtain rfl := hwc.symm
                obtain ⟨d, hd⟩ : ∃ d, L - n = d := ⟨_, rfl⟩
                have hdI : (L : Int) - (n : Int) = (d : Int) := by omega
                obtain ⟨i2, hi2⟩ : ∃ i2, nextI i L n = i2 := ⟨_, rfl⟩
                have hi2' : i2 = if d = 0 then i + 1 else i := by rw [← hi2, ← hd]; rfl
                have HD2 := Lib.hid (And.intro hd hi2)
                have hi2b : i2 ≤ i + 1 := by rw [hi2']; split <;> omega
                clear hi2 hd
                go_upto_if 74 with fail
                go_cut [8, 7] (fun x y wx => x = .int .i64 (if d = 0 then -1 else (d : Int)) ∧ y = .int .i64 (i2 : Int) ∧ wx = w2)
                case first =>
                  as_aux_lemma =>
                    by_cases h0 : d = 0
                    · rw [if_pos h0] at hi2'
                      have hgo : (if d = 0 then -1 else (d : Int)) = -1 := if_pos h0
                      have HGO := Lib.hid hgo
                      have h0I : ((d : Int) == 0) = true := by rw [h0]; rfl
                      have e : (i : Int) + 1 = (i2 : Int) := by omega
                      have E := Lib.hid e
                      clear hi2' e hi2b h0 hn hgo
                      go_wp2_with fail
                      go_meet
                      exact ⟨by rw [HGO.out], congrArg _ E.out, rfl⟩
                    · rw [if_neg h0] at hi2'
                      have hgo : (if d = 0 then -1 else (d : Int)) = (d : Int) := if_neg h0
                      have HGO := Lib.hid hgo
                      have h0I : ((d : Int) == 0) = false := by rw [beq_eq_false_iff_ne]; omega
                      subst hi2'
                      clear h0 hn hgo
                      go_wp2_with fail
                      go_meet
                      exact ⟨by rw [HGO.out], rfl, rfl⟩
                case rest =>
                  obtain ⟨rfl, rfl, hwc⟩ := hcut
                  obtain rfl := hwc.symm
                  obtain ⟨lv2, hlv2⟩ : ∃ l : Int, (if d = 0 then -1 else (d : Int)) = l := ⟨_, rfl⟩
                  rw [hlv2]
                  have HLV2 := Lib.hid hlv2
                  have HI2 := Lib.hid hi2'
                  obtain ⟨a2, ha2⟩ : ∃ a2, a + n = a2 := ⟨_, rfl⟩
                  have ha2I : (a : Int) + (n : Int) = (a2 : Int) := by omega
                  have ha2b : a2 ≤ data.size := by omega
                  obtain ⟨q, hq⟩ : ∃ q : Bool, isLast C D.length a i L n = q := ⟨_, rfl⟩
                  have hqe : q = decide (a2 = data.size ∧ C.length ≤ i2) := by
                    rw [← hq, ← ha2, ← HD2.out.2, ← hdl]
                    rfl
                  have HQ := Lib.hid hq
                  have HA2 := Lib.hid ha2
                  clear hlv2 hi2' hq hdI ha2 hn
                  go_upto_region 22 with fail
                  go_cut [88] (fun x wx => x = .bool q ∧ wx = w2)
                  case first =>
                    as_aux_lemma =>
                      by_cases h1 : a2 = data.size
                      · have h1I : ((a2 : Int) == (data.size : Int)) = true := by rw [h1]; simp
                        by_cases h2 : C.length ≤ i2
                        · have h2I : (C.length : Int) ≤ (i2 : Int) := by omega
                          have hqt : q = true := by rw [hqe]; exact decide_eq_true ⟨h1, h2⟩
                          subst hqt
                          clear hqe h1
                          go_wp2_with fail
                          go_meet
                          exact ⟨rfl, rfl⟩
                        · have h2I : ¬ (C.length : Int) ≤ (i2 : Int) := by omega
                          have hqt : q = false := by rw [hqe]; exact decide_eq_false (fun h => h2 h.2)
                          subst hqt
                          clear hqe h1
                          go_wp2_with fail
                          go_meet
                          exact ⟨rfl, rfl⟩
                      · have h1I : ((a2 : Int) == (data.size : Int)) = false := by rw [beq_eq_false_iff_ne]; omega
                        have hqt : q = false := by rw [hqe]; exact decide_eq_false (fun h => h1 h.1)
                        subst hqt
                        clear hqe h1
                        go_wp2_with fail
                        go_meet
                        exact ⟨rfl, rfl⟩
                  case rest =>
                    obtain ⟨rfl, hwc⟩ := hcut
                    obtain rfl := hwc.symm
                    clear hqe
                    go_upto_if 88 with fail
                    go_cut [12] (fun x wx => wx = w2 ∧ x = .int .i64 (q.toNat : Nat))
                    case first =>
                      as_aux_lemma =>
                        cases q with
                        | true =>
                          go_wp2_with fail
                          go_meet
                          exact ⟨rfl, rfl⟩
                        | false =>
                          go_wp2_with fail
                          go_meet
                          exact ⟨rfl, rfl⟩
                    case rest =>
                      obtain ⟨hwc, rfl⟩ := hcut
                      obtain rfl := hwc.symm
                      clear c0 c1 c2
                      have hBb : B.length ≤ 3100000000 := by have := HRUN.out.2.2.2; omega
                      have HP1 := Lib.hid (HX3.out.put ((q.toNat : Nat) : Int) 1 1 rfl (by decide) (by omega))
                      go_wp2_with fail
                      refine HP1.out.mono ?_
                      rintro e w3 ⟨rfl, hx, -⟩
                      have HX4 := Lib.hid hx
                      obtain ⟨c0, -, -, -, -, -⟩ := hx.cells
                      have HP2 := Lib.hid (hx.put (k : Int) 2 2 rfl (by decide) (by rw [List.length_append, lowBits_length]; omega))
                      clear hx HP1 HX3
                      go_wp2_with fail
                      refine HP2.out.mono ?_
                      rintro e w4 ⟨rfl, hx, -⟩
                      obtain ⟨H, hH⟩ : ∃ H, B ++ lowBits ((q.toNat : Nat) : Int) 1 ++ lowBits (k : Int) 2 = H := ⟨_, rfl⟩
                      rw [hH] at hx
                      have hHl : H.length = B.length + 3 := by rw [← hH]; simp only [List.length_append, lowBits_length]
                      have HX5 := Lib.hid hx
                      have HH := Lib.hid (And.intro hH hHl)
                      clear c0 HX4 HP2 hH hHl
                      obtain ⟨c0, c1, c2, -, -, -⟩ := hx.cells
                      clear hx
                      go_upto_region 26 with fail
                      go_upto_block 2 with fail
                      go_cut [] (fun wx => Hid (PkW W wx gW (blkB D k a n (reachOf cr) q B) (.slice pv C.length cv) C))
                      case first =>
                        have hR := reachOf_spec cr
                        have hRl := reachOf_le cr
                        have HT := Lib.hid (fun wx => tokens_any data D HD.out a a2 (reachOf cr) (n + 1) cr (by omega) (by omega) ha2b hR (by omega) wx)
                        have hsp : tks D a2 (reachOf cr) (n + 1) a = span D a n (reachOf cr) := by unfold span; rw [HA2.out]
                        obtain ⟨hs1, hs2⟩ := span_ok D HDT.out a n (reachOf cr)
                        generalize reachOf cr = R at *
                        rw [hsp] at HT
                        have hb1 := blk1_eq D a n R q B
                        have hb2 := blk2_eq D a n R q B
                        have hb0 := fun lo hi x => blk0_eq D a n R lo hi q B x
                        generalize span D a n R = T at *
                        have HS1 := Lib.hid hs1
                        have hTn : T.length ≤ 1048576 := by omega
                        have hHb : H.length ≤ 3100000003 := by have := HH.out.2; omega
                        have HRL := Lib.hid hRl
                        clear hs1 hsp hR hRl hs2
                        rcases (show k = 0 ∨ k = 1 ∨ k = 2 by omega) with h0 | h1 | h2
                        · subst h0

                          as_aux_lemma =>
                            have HB0 := Lib.hid hb0
                            have hn16 : n ≤ 65535 := by rw [← HN.out]; exact cut_16 0 L rfl
                            clear hb0 hb1 hb2 HT HS1
                            obtain ⟨lo, hlo⟩ : ∃ lo, n % 256 = lo := ⟨_, rfl⟩
                            obtain ⟨hi8, hhi8⟩ : ∃ hi8, n / 256 = hi8 := ⟨_, rfl⟩
                            have hloI : (n : Int) % 256 = (lo : Int) := by omega
                            have hhiI : (n : Int) / 256 = (hi8 : Int) := by omega
                            have hx1 := xor_u8' lo (by omega)
                            have hx2 := xor_u8' hi8 (by omega)
                            obtain ⟨lo', hlo'⟩ : ∃ x, 255 - lo = x := ⟨_, rfl⟩
                            obtain ⟨hi', hhi'⟩ : ∃ x, 255 - hi8 = x := ⟨_, rfl⟩
                            have HLH := Lib.hid (show n % 256 = lo ∧ n / 256 = hi8 ∧ 255 - lo = lo' ∧ 255 - hi8 = hi' from ⟨hlo, hhi8, hlo', hhi'⟩)
                            rw [hlo'] at hx1
                            rw [hhi'] at hx2
                            have hcv := conv4s w4 lo hi8 lo' hi'
                            have hsg := u8sg'
                            have hn0 : (0 : Int) ≤ (n : Int) := by omega
                            have HP3 := Lib.hid ((HX5.out.mut ((Mut.refl [] w4).alloc (.cells #[.int .u8 (lo : Int), .int .u8 (hi8 : Int), .int .u8 (lo' : Int), .int .u8 (hi' : Int)] 5))).bytes (strOf [lo, hi8, lo', hi']) (by rw [strOf_size]; show (H.length + 7) / 8 + 4 ≤ _; omega))
                            obtain ⟨x, hx⟩ : ∃ x, data.extract a a2 = x := ⟨_, rfl⟩
                            have hxs : x.size = n := by
                              rw [← hx]
                              simp
                              have := HA2.out
                              omega
                            have HX : Hid (bytesOf x = (D.drop a).take n) := Lib.hid (by
                              rw [← hx, bytesOf_extract, HD.out, List.drop_take]
                              congr 1
                              have := HA2.out
                              omega)
                            have hp0I : (0 : Int) ≤ (a : Int) := by omega
                            have hpsI : (a : Int) ≤ (a2 : Int) := by omega
                            have hssI : (a2 : Int) ≤ (data.size : Int) := by omega
                            clear hlo hhi8 hlo' hhi' HX5
                            go_wp2_with fail
                            refine HP3.out.mono ?_
                            rintro e w5 ⟨rfl, hx5, -⟩
                            have HP4 := Lib.hid (hx5.bytes x (by
                              rw [List.length_append, pad8_length, strBits_length, strOf_size]
                              show (8 * ((H.length + 7) / 8) + 8 * 4 + 7) / 8 + x.size ≤ _
                              omega))
                            clear hx5 HP3 hcv
                            go_wp2_with fail
                            refine HP4.out.mono ?_
                            rintro e w6 ⟨rfl, hx6, -⟩
                            have HX6 := Lib.hid hx6
                            clear hx6 HP4
                            go_wp2_with fail
                            go_meet
                            have e := HLH.out
                            have h1 := HB0.out lo hi8 x HX.out e.1 e.2.1 hn16
                            rw [show ((0 : Nat) : Int) = 0 from rfl] at HH
                            rw [e.2.2.1, e.2.2.2, HH.out.1] at h1
                            rw [← h1]
                            exact Lib.hid HX6.out.p
                        · subst h1

                          as_aux_lemma =>
                            have HB1 := Lib.hid hb1
                            clear hb0 hb1 hb2
                            have HFX := Lib.hid (sfixed_any w4)
                            go_wp2_with fail
                            refine HFX.out.mono ?_
                            rintro e w5 ⟨ca, cb, rfl, hca, hcb, hm⟩
                            obtain ⟨x1, x2, rfl, hx1, hx2⟩ := hca
                            obtain ⟨y1, y2, rfl, hy1, hy2⟩ := hcb
                            obtain ⟨px1, lx1, qx1, rfl⟩ := hx1.form
                            obtain ⟨px2, lx2, qx2, rfl⟩ := hx2.form
                            obtain ⟨py1, ly1, qy1, rfl⟩ := hy1.form
                            obtain ⟨py2, ly2, qy2, rfl⟩ := hy2.form
                            have m1 : Mut [] w5 ((w5.alloc (.cells #[.slice px1 lx1 qx1, .slice px2 lx2 qx2] 118)).alloc (.cells #[.slice py1 ly1 qy1, .slice py2 ly2 qy2] 118)) := ((Mut.refl [] w5).alloc _).alloc _
                            have hbA : ((w5.alloc (.cells #[.slice px1 lx1 qx1, .slice px2 lx2 qx2] 118)).alloc (.cells #[.slice py1 ly1 qy1, .slice py2 ly2 qy2] 118)).heap[w5.heap.size]? = some (.cells #[.slice px1 lx1 qx1, .slice px2 lx2 qx2] 118 (0, 0)) := ((Mut.refl [] (w5.alloc (.cells #[.slice px1 lx1 qx1, .slice px2 lx2 qx2] 118))).alloc _).get (heap_alloc_new w5 _) (by simp)
                            have hbB : ((w5.alloc (.cells #[.slice px1 lx1 qx1, .slice px2 lx2 qx2] 118)).alloc (.cells #[.slice py1 ly1 qy1, .slice py2 ly2 qy2] 118)).heap[w5.heap.size + 1]? = some (.cells #[.slice py1 ly1 qy1, .slice py2 ly2 qy2] 118 (0, 0)) := by
                              have := heap_alloc_new (w5.alloc (.cells #[.slice px1 lx1 qx1, .slice px2 lx2 qx2] 118)) (.cells #[.slice py1 ly1 qy1, .slice py2 ly2 qy2] 118)
                              simpa using this
                            have HXX := Lib.hid (HX5.out.mut (hm.trans' m1))
                            have HCA := Lib.hid ((show CdIs w5 (.agg #[.slice px1 lx1 qx1, .slice px2 lx2 qx2]) fixedL from ⟨_, _, rfl, hx1, hx2⟩).mut m1)
                            have HCB := Lib.hid ((show CdIs w5 (.agg #[.slice py1 ly1 qy1, .slice py2 ly2 qy2]) fixedD from ⟨_, _, rfl, hy1, hy2⟩).mut m1)
                            have HBX := Lib.hid (And.intro hbA hbB)
                            clear hx1 hx2 hy1 hy2 hm hbA hbB m1 HFX HX5 c0 c1 c2
                            go_upto_region 35 with fail
                            generalize (w5.alloc (.cells #[.slice px1 lx1 qx1, .slice px2 lx2 qx2] 118)).alloc (.cells #[.slice py1 ly1 qy1, .slice py2 ly2 qy2] 118) = w6 at *
                            generalize w5.heap.size = gA at *
                            generalize gA + 1 = gB at *
                            have HTOK : Hid (∀ wx pt ct, Mut [] w6 wx → TRow 146 wx (.slice pt T.length ct) T → Calls Try.prog 60 #[.pointer (some ⟨gW, 0, none⟩), .slice pt T.length ct, .agg #[.slice px1 lx1 qx1, .slice px2 lx2 qx2], .agg #[.slice py1 ly1 qy1, .slice py2 ly2 qy2]] wx fun e w' => e = .returned (.tuple #[]) ∧ PkW W w' gW (H ++ toks fixedL fixedD T) (.slice pv C.length cv) C ∧ True) :=
                              Lib.hid fun wx pt ct m ht => (HXX.out.p.mut m).call (E := fun e _ => e = .returned (.tuple #[])) (K := fun _ => True) (fun r hr => tokens_to fixedL fixedD fixed_15.1 fixed_15.2 (by decide) (by decide) T HRL.out HS1.out (by omega) (by omega) hr (HCA.out.mut m) (HCB.out.mut m) ht) (fun _ _ _ _ => trivial)
                            have hct : CT g gA gB ((1 : Nat) : Int) cs cr (.slice px1 lx1 qx1) (.slice px2 lx2 qx2) (.slice py1 ly1 qy1) (.slice py2 ly2 qy2) w6 := ⟨HXX.out.box, HBX.out.1, HBX.out.2⟩
                            have HCT : Hid (∀ wx, Mut [] w6 wx → CT g gA gB ((1 : Nat) : Int) cs cr (.slice px1 lx1 qx1) (.slice px2 lx2 qx2) (.slice py1 ly1 qy1) (.slice py2 ly2 qy2) wx) := Lib.hid fun wx m => ⟨m.get hct.1 (by simp), m.get hct.2.1 (by simp), m.get hct.2.2 (by simp)⟩
                            haveI : Nonempty (WIn (CT g gA gB ((1 : Nat) : Int) cs cr (.slice px1 lx1 qx1) (.slice px2 lx2 qx2) (.slice py1 ly1 qy1) (.slice py2 ly2 qy2))) := ⟨⟨w6, hct⟩⟩
                            have r0 : ∀ v : WIn (CT g gA gB ((1 : Nat) : Int) cs cr (.slice px1 lx1 qx1) (.slice px2 lx2 qx2) (.slice py1 ly1 qy1) (.slice py2 ly2 qy2)), v.w.cell? ⟨g, 2, none⟩ = some (.int .i64 cr) := fun v => (cells3 v.ok.1).2.2.1
                            have r1 : ∀ v : WIn (CT g gA gB ((1 : Nat) : Int) cs cr (.slice px1 lx1 qx1) (.slice px2 lx2 qx2) (.slice py1 ly1 qy1) (.slice py2 ly2 qy2)), v.w.cell? ⟨gA, 0, none⟩ = some (.slice px1 lx1 qx1) := fun v => (cells2 v.ok.2.1).1
                            have r2 : ∀ v : WIn (CT g gA gB ((1 : Nat) : Int) cs cr (.slice px1 lx1 qx1) (.slice px2 lx2 qx2) (.slice py1 ly1 qy1) (.slice py2 ly2 qy2)), v.w.cell? ⟨gA, 1, none⟩ = some (.slice px2 lx2 qx2) := fun v => (cells2 v.ok.2.1).2.1
                            have r3 : ∀ v : WIn (CT g gA gB ((1 : Nat) : Int) cs cr (.slice px1 lx1 qx1) (.slice px2 lx2 qx2) (.slice py1 ly1 qy1) (.slice py2 ly2 qy2)), v.w.cell? ⟨gB, 0, none⟩ = some (.slice py1 ly1 qy1) := fun v => (cells2 v.ok.2.2).1
                            have r4 : ∀ v : WIn (CT g gA gB ((1 : Nat) : Int) cs cr (.slice px1 lx1 qx1) (.slice px2 lx2 qx2) (.slice py1 ly1 qy1) (.slice py2 ly2 qy2)), v.w.cell? ⟨gB, 1, none⟩ = some (.slice py2 ly2 qy2) := fun v => (cells2 v.ok.2.2).2.1
                            obtain ⟨hwa, hwb⟩ : wrap64 ((a : Int) + (n : Int)) = (a2 : Int) ∧ IntKind.i64.wrap ((a : Int) + (n : Int)) = (a2 : Int) := ⟨by rw [ha2I]; exact IntWalk.wrap64_in _ (by omega), by rw [ha2I]; exact IntWalk.i64_in _ (by omega)⟩
                            clear HCA HCB HXX HBX ha2I
                            refine wp_region_mix (fun w' => ∃ v : WIn (CT g gA gB ((1 : Nat) : Int) cs cr (.slice px1 lx1 qx1) (.slice px2 lx2 qx2) (.slice py1 ly1 qy1) (.slice py2 ly2 qy2)), w' = v.w) 10 1 [0, 1, 2, 3, 4] [5, 6, 8, 9] [7, 10]
                              (fun l => l.take 5) (fun l => (l.drop 5).take 2 ++ (l.drop 8).take 2) (fun l => (l.drop 7).take 1 ++ l.drop 10) rfl rfl rfl (by kernel_rfl) (by kernel_rfl) (by kernel_rfl) (by kernel_rfl) (fun _ _ _ _ _ h => h) ⟨⟨w6.drew, hct⟩, rfl⟩ ?_
                            simp only [List.take_succ_cons, List.take_zero, List.drop_succ_cons, List.drop_zero, List.cons_append, List.nil_append]
                            repeat (go_big_quiet_step (fail))
                            refine wpQuiet_nil ?_
                            repeat (go_big_quiet_step (fail))
                            refine wpQuiet_nil ?_
                            intro K hK
                            go_simp
                            go_at_call 61
                            refine (HT.out _).mono ?_
                            rintro e w7 ⟨tv, rfl, ht1, ht2, hm⟩
                            obtain ⟨pt, ct, rfl⟩ := ht1.form
                            have HTR := Lib.hid ht1
                            have HMM : Hid (Mut [] w6 w7) := Lib.hid ((Mut.refl [] w6).drew.trans' hm)
                            clear ht1 ht2 hm
                            go_simp
                            refine hK _ _ (fun _ => ⟨⟨w7, HCT.out w7 HMM.out⟩, rfl⟩) ?_
                            clear hK K
                            intro K hK
                            go_simp
                            go_at_call 60
                            refine (HTOK.out _ _ _ HMM.out HTR.out).mono ?_
                            rintro e w8 ⟨rfl, hp, -⟩
                            have HPF := Lib.hid hp
                            clear hp
                            go_simp
                            refine hK _ _ (fun h => absurd h (by decide)) ?_
                            clear hK K
                            rw [wpMov]
                            go_wp2_with fail
                            go_meet
                            have e := HB1.out
                            rw [show lowBits 1 2 = lowBits ((1 : Nat) : Int) 2 from rfl, HH.out.1] at e
                            rw [← e]
                            exact HPF
                        · subst h2

                          as_aux_lemma =>
                            have HB2 := Lib.hid hb2
                            clear hb0 hb1 hb2
                            have HT1 := Lib.hid (HT.out w4)
                            go_wp2_with fail
                            refine HT1.out.mono ?_
                            rintro e w5 ⟨tv, rfl, ht1, ht2, hm⟩
                            obtain ⟨pt, ct, rfl⟩ := ht1.form
                            have HX6 := Lib.hid (HX5.out.mut hm)
                            have HTR := Lib.hid ht1
                            have HTD := Lib.hid (HX6.out.p.call (E := fun e w' => ∃ ca cb, e = .returned (.tuple #[ca, cb]) ∧ CdIs w' ca (xOf T) ∧ CdIs w' cb (yOf T)) (K := fun w' => TRow 146 w' (.slice pt T.length ct) T) (fun r hr => (told_to T HRL.out HS1.out (by omega) (by omega) hr ht1).mono fun e w' ⟨ca, cb, h1, h2, h3, h4⟩ => ⟨⟨ca, cb, h1, h3, h4⟩, h2⟩) (fun r w' h0 kk => ht1.wr (by decide) (by decide) h0 kk))
                            clear ht1 ht2 hm HT1 HX5 c0 c1 c2 HT HX6
                            go_wp2_with fail
                            refine HTD.out.mono ?_
                            rintro e w6 ⟨⟨ca, cb, rfl, hca, hcb⟩, hp, ht⟩
                            obtain ⟨x1, x2, rfl, hx1, hx2⟩ := hca
                            obtain ⟨y1, y2, rfl, hy1, hy2⟩ := hcb
                            obtain ⟨px1, lx1, qx1, rfl⟩ := hx1.form
                            obtain ⟨px2, lx2, qx2, rfl⟩ := hx2.form
                            obtain ⟨py1, ly1, qy1, rfl⟩ := hy1.form
                            obtain ⟨py2, ly2, qy2, rfl⟩ := hy2.form
                            have m1 : Mut [] w6 ((w6.alloc (.cells #[.slice px1 lx1 qx1, .slice px2 lx2 qx2] 118)).alloc (.cells #[.slice py1 ly1 qy1, .slice py2 ly2 qy2] 118)) := ((Mut.refl [] w6).alloc _).alloc _
                            have hca := (show CdIs w6 (.agg #[.slice px1 lx1 qx1, .slice px2 lx2 qx2]) (xOf T) from ⟨_, _, rfl, hx1, hx2⟩).mut m1
                            have hcb := (show CdIs w6 (.agg #[.slice py1 ly1 qy1, .slice py2 ly2 qy2]) (yOf T) from ⟨_, _, rfl, hy1, hy2⟩).mut m1
                            have HTK := Lib.hid ((hp.mut m1).call (E := fun e _ => e = .returned (.tuple #[])) (K := fun _ => True) (fun r hr => tokens_to (xOf T) (yOf T) (xy_15 T).1 (xy_15 T).2 (by rw [(xy_len T).1]; decide) (by rw [(xy_len T).2]; decide) T HRL.out HS1.out (by omega) (by rw [List.length_append, told4_len, (xy_len T).1, (xy_len T).2]; omega) hr hca hcb (ht.mut m1 (by simp))) (fun _ _ _ _ => trivial))
                            clear hx1 hx2 hy1 hy2 m1 hca hcb hp ht HTD HTR
                            go_wp2_with fail
                            refine HTK.out.mono ?_
                            rintro e w7 ⟨rfl, hp, -⟩
                            have HPF := Lib.hid hp
                            clear hp HTK
                            go_wp2_with fail
                            go_meet
                            have e := HB2.out
                            rw [show lowBits 2 2 = lowBits ((2 : Nat) : Int) 2 from rfl, HH.out.1] at e
                            rw [← e]
                            exact HPF
                      case rest =>
                        have HPF := hcut
                        clear hcut HX5 c0 c1 c2
                        have hnx := packR_next HRUN.out.1 HRUN.out.2.1 HRUN.out.2.2.1 k n q (by rw [HCH.out]; exact HK.out) HN.out HQ.out
                        rw [HCH.out] at hnx
                        have hblen := blkB_len D HDT.out k a n (reachOf cr) (reachOf_le cr) q B
                        have hL2 : nextL C D.length a i L n = if d = 0 then leftOf C D.length a2 i2 else d := by
                          unfold nextL
                          rw [HD2.out.1, HA2.out]
                          by_cases h : d = 0
                          · rw [if_pos h, if_pos h, HI2.out, if_pos h]
                          · rw [if_neg h, if_neg h]
                        rw [hL2, HD2.out.2, HA2.out] at hnx
                        have hle := fun h => next_le HRUN.out.1 hiC k (by rw [HN.out]; exact h)
                        rw [HN.out, HQ.out, HD2.out.2] at hle
                        have HFIN : Hid (PkAt W gW (.slice pv C.length cv) D C FIN K0 wc a2 i2 lv2 false ∧ (data.size - a2) + (C.length - i2) + 0 < (data.size - a) + (C.length - i) + (if fb = true then 1 else 0)) := Lib.hid (by
                          have hbud := HRUN.out.2.2.2
                          have ha2 := HA2.out
                          rcases hnx with ⟨hq1, h1, h2, h3⟩ | ⟨hq1, f', h1, h2, h3, h4⟩
                          · refine ⟨⟨_, HPF.out, .inl ⟨rfl, h2, h3, h1⟩⟩, ?_⟩
                            have := HMES.out
                            omega
                          · have hmu : (D.length - a2) + (C.length - i2) < (D.length - a) + (C.length - i) := h4
                            have hi2c := hle hq1
                            refine ⟨⟨_, HPF.out, .inr ⟨?_, _, f', h3, h1, h2, ?_, ?_, hi2c⟩⟩, by omega⟩
                            · have hnl : ¬ (a2 = D.length ∧ C.length ≤ i2) := by
                                have := HQ.out
                                rw [hq1] at this
                                have h5 := of_decide_eq_false this
                                rw [HA2.out, HD2.out.2] at h5
                                exact h5
                              have := h3.le
                              omega
                            · unfold muOf at hbud ⊢
                              omega
                            · by_cases h : d = 0
                              · rw [if_pos h, ← HLV2.out, if_pos h]
                                exact .inl ⟨rfl, rfl⟩
                              · rw [if_neg h, ← HLV2.out, if_neg h]
                                exact .inr ⟨rfl, by omega⟩)
                        clear hnx hblen hL2 hle HPF hdl
                        go_wp2_with fail
                        exact ⟨⟨a2, i2, lv2, false, rfl, rfl, rfl, rfl, ha2b, by omega, HFIN.out.1 |> Lib.hid⟩, by have := HFIN.out.2; clear HFIN HMES; cases fb <;> simpa [intOf, boolOf] using this⟩

end Go.Proofs.Ytgjcnembeebjfaa
