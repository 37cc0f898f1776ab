/- Walk over package squeeze: the fixed coders. Rows of choices. -/
import Derived.Test.YtgjcnembeebjfaaGSzb
import Derived.Test.YtgjcnembeebjfaaInfW7
import Derived.Deep.DeepCutAuto
import Derived.Test.YtgjcnembeebjfaaGPlain
import Derived.Test.YtgjcnembeebjfaaBase

namespace Go.Proofs.Ytgjcnembeebjfaa
open Go.RowKit
set_option linter.unusedVariables false

/-- where the lengths are laid -/
structure FxS (w0 wx : World) (ga gb : Nat) (A B : List Int) : Prop where
  a : RowAt w0 wx ga 288 A
  b : RowAt w0 wx gb 32 B
  ne : ga ≠ gb

theorem FxS.setA {w0 wx : World} {ga gb : Nat} {A B : List Int} (h : FxS w0 wx ga gb A B) (i : Nat) (v : Int) : FxS w0 (wx.setCell ⟨ga, i, none⟩ (.int .i64 v)) ga gb (A.set i v) B := by
  refine ⟨h.a.set i v, ⟨row_set_ne h.b.row (fun g hg e => ?_) _, (h.b.kept).setCell (.inr h.a.fresh) _, h.b.fresh⟩, h.ne⟩
  simp [Value.ownBlock] at hg
  exact h.ne (by omega)
theorem FxS.setB {w0 wx : World} {ga gb : Nat} {A B : List Int} (h : FxS w0 wx ga gb A B) (i : Nat) (v : Int) : FxS w0 (wx.setCell ⟨gb, i, none⟩ (.int .i64 v)) ga gb A (B.set i v) := by
  refine ⟨⟨row_set_ne h.a.row (fun g hg e => ?_) _, (h.a.kept).setCell (.inr h.b.fresh) _, h.a.fresh⟩, h.b.set i v, h.ne⟩
  simp [Value.ownBlock] at hg
  exact h.ne (by omega)

theorem fx_start1 {w : World} {Z1 Z2 : Array Value} (h1 : madeCells (Value.int .i64 0).cells 288 = Z1) (h2 : madeCells (Value.int .i64 0).cells 32 = Z2) :
    FxS w ((w.alloc (.cells Z1 3)).alloc (.cells Z2 3)).drew w.heap.size (w.heap.size + 1) (List.replicate 288 0) (List.replicate 32 0) := by
  have m1 : Mut [] w (w.alloc (.cells Z1 3)) := (Mut.refl [] w).alloc _
  have m2 : Mut [] (w.alloc (.cells Z1 3)) ((w.alloc (.cells Z1 3)).alloc (.cells Z2 3)).drew := ((Mut.refl [] _).alloc _).drew
  have a := (RowAt.start w w 288 (by decide) (Mut.refl _ _) Z1 h1).mut m2
  have b := (RowAt.start w (w.alloc (.cells Z1 3)) 32 (by decide) m1 Z2 h2).mut (Mut.refl [] ((w.alloc (.cells Z1 3)).alloc (.cells Z2 3))).drew
  rw [show (w.alloc (.cells Z1 3)).heap.size = w.heap.size + 1 by simp] at b
  exact ⟨a, b, by omega⟩
theorem fx_start2 {w : World} {Z1 Z2 : Array Value} (h1 : madeCells (Value.int .i64 0).cells 288 = Z1) (h2 : madeCells (Value.int .i64 0).cells 32 = Z2) :
    FxS w ((w.alloc (.cells Z2 3)).alloc (.cells Z1 3)).drew (w.heap.size + 1) w.heap.size (List.replicate 288 0) (List.replicate 32 0) := by
  have m1 : Mut [] w (w.alloc (.cells Z2 3)) := (Mut.refl [] w).alloc _
  have m2 : Mut [] (w.alloc (.cells Z2 3)) ((w.alloc (.cells Z2 3)).alloc (.cells Z1 3)).drew := ((Mut.refl [] _).alloc _).drew
  have b := (RowAt.start w w 32 (by decide) (Mut.refl _ _) Z2 h2).mut m2
  have a := (RowAt.start w (w.alloc (.cells Z2 3)) 288 (by decide) m1 Z1 h1).mut (Mut.refl [] ((w.alloc (.cells Z2 3)).alloc (.cells Z1 3))).drew
  rw [show (w.alloc (.cells Z2 3)).heap.size = w.heap.size + 1 by simp] at a
  exact ⟨a, b, by omega⟩

theorem set_set (L : List Int) (i : Nat) (a b : Int) : (L.set i a).set i b = L.set i b := by simp

theorem results_fixed {tmps : Array Value} {w : World} {g h : Nat} {a0 a1 b0 b1 : Value} (h1 : w.heap[g]? = some (.cells #[a0, a1] 118 (0, 0))) (h2 : w.heap[h]? = some (.cells #[b0, b1] 118 (0, 0)))
    (p1 : tmps.getD 0 undef = .pointer (some ⟨g, 0, none⟩)) (p2 : tmps.getD 1 undef = .pointer (some ⟨h, 0, none⟩)) : (results Try.f59 tmps).run Try.prog w = .ok (.tuple #[.agg #[a0, a1], .agg #[b0, b1]]) w := by
  have q1 : tmps[0]?.getD undef = .pointer (some ⟨g, 0, none⟩) := by simpa using p1
  have q2 : tmps[1]?.getD undef = .pointer (some ⟨h, 0, none⟩) := by simpa using p2
  have e1 := run_loadVar_row (P := Try.prog) w g 118 118 #[a0, a1] (0, 0) _ h1 Try.underlying118 rfl (by kernel_rfl)
  have e2 := run_loadVar_row (P := Try.prog) w h 118 118 #[b0, b1] (0, 0) _ h2 Try.underlying118 rfl (by kernel_rfl)
  simp [results, q1, q2, asAddr, e1, e2]

set_option maxHeartbeats 3200000 in
set_option maxRecDepth 100000 in
theorem sfixed_any (w : World) :
    Calls Try.prog 59 #[] w fun e w' => ∃ ca cb, e = .returned (.tuple #[ca, cb]) ∧ CdIs w' ca fixedL ∧ CdIs w' cb fixedD ∧ Mut [] w w' := by
  obtain ⟨Z1, hZ1⟩ : ∃ Z, madeCells (Value.int .i64 0).cells 288 = Z := ⟨_, rfl⟩
  obtain ⟨Z2, hZ2⟩ : ∃ Z, madeCells (Value.int .i64 0).cells 32 = Z := ⟨_, rfl⟩
  have hw1 : Mut [] w ((w.alloc (.cells #[.slice none 0 0, .slice none 0 0] 118)).alloc (.cells #[.slice none 0 0, .slice none 0 0] 118)) := ((Mut.refl [] w).alloc _).alloc _
  have hb4 : ((w.alloc (.cells #[.slice none 0 0, .slice none 0 0] 118)).alloc (.cells #[.slice none 0 0, .slice none 0 0] 118)).heap[w.heap.size]? = some (.cells #[.slice none 0 0, .slice none 0 0] 118 (0, 0)) := ((Mut.refl [] (w.alloc (.cells #[.slice none 0 0, .slice none 0 0] 118))).alloc _).get (heap_alloc_new w _) (by simp)
  have hb5 : ((w.alloc (.cells #[.slice none 0 0, .slice none 0 0] 118)).alloc (.cells #[.slice none 0 0, .slice none 0 0] 118)).heap[w.heap.size + 1]? = some (.cells #[.slice none 0 0, .slice none 0 0] 118 (0, 0)) := by
    have := heap_alloc_new (w.alloc (.cells #[.slice none 0 0, .slice none 0 0] 118)) (.cells #[.slice none 0 0, .slice none 0 0] 118)
    simpa using this
  have HM := Lib.hid hw1
  have H45 := Lib.hid (And.intro hb4 hb5)
  clear hw1 hb4 hb5
  go_enter Try.func59, Try.ntmps59
  go_upto_region 1 with fail
  generalize (w.alloc (.cells #[.slice none 0 0, .slice none 0 0] 118)).alloc (.cells #[.slice none 0 0, .slice none 0 0] 118) = w1 at *
  generalize hgs : w.heap.size = g4 at *
  have HGS := Lib.hid hgs
  clear hgs
  generalize hg5 : g4 + 1 = g5 at *
  have HG5 := Lib.hid hg5
  clear hg5
  go_cut [2, 3] (fun x y wx => ∃ ga gb, x = .slice (some ⟨ga, 0, none⟩) 288 288 ∧ y = .slice (some ⟨gb, 0, none⟩) 32 32 ∧ Hid (FxS w1 wx ga gb (List.replicate 288 0) (List.replicate 32 0)))
  case first =>
    have hmk1 := run_make_int 288 (by decide) Z1 hZ1 288 rfl
    have hmk2 := run_make_int 32 (by decide) Z2 hZ2 32 rfl
    go_region
    · go_wp2_with fail
      go_meet
      exact ⟨_, _, rfl, rfl, Lib.hid (fx_start1 hZ1 hZ2)⟩
    · go_wp2_with fail
      go_meet
      exact ⟨_, _, rfl, rfl, Lib.hid (fx_start2 hZ1 hZ2)⟩
  case rest =>
    obtain ⟨ga, gb, rfl, rfl, HS⟩ := hcut
    have HA0 : Hid (FxS w1 wc ga gb (fillT (toI fixedL) 0) (List.replicate 32 0)) := Lib.hid (by rw [fillT_zero]; exact HS.out)
    clear HS hZ1 hZ2
    go_wp2_with fail
    go_loopw [10] (fun c wx => ∃ i : Nat, c = .int .i64 (i : Int) ∧ i ≤ 288 ∧ Hid (FxS w1 wx ga gb (fillT (toI fixedL) i) (List.replicate 32 0))) (fun c _ => 288 - (intOf c).toNat)
    case atStart => exact ⟨0, rfl, by omega, HA0⟩
    case round =>
      obtain ⟨i, rfl, hi, HR⟩ := hrel
      clear HA0
      by_cases hlt : i < 288
      · have hltI : (i : Int) < 288 := by omega
        have hv := fixedL_at i hlt
        have hN : Hid (∀ v : Int, (if i < 144 ∨ 280 ≤ i then (8 : Int) else if i < 256 then 9 else 7) = v → FxS w1 (wr.setCell ⟨ga, i, none⟩ (.int .i64 v)) ga gb (fillT (toI fixedL) (i + 1)) (List.replicate 32 0)) := Lib.hid fun v h => by
          have hst := HR.out.setA i v
          rw [← h, ← hv, fillT_set (toI fixedL) i (by show i < 288; exact hlt)] at hst
          rw [← h, ← hv]
          exact hst
        have hN2 : Hid (∀ v : Int, (if i < 144 ∨ 280 ≤ i then (8 : Int) else if i < 256 then 9 else 7) = v → FxS w1 ((wr.setCell ⟨ga, i, none⟩ (.int .i64 8)).setCell ⟨ga, i, none⟩ (.int .i64 v)) ga gb (fillT (toI fixedL) (i + 1)) (List.replicate 32 0)) := Lib.hid fun v h => by
          have hst := (HR.out.setA i 8).setA i v
          rw [set_set, ← h, ← hv, fillT_set (toI fixedL) i (by show i < 288; exact hlt)] at hst
          rw [← h, ← hv]
          exact hst
        obtain ⟨hc, hfz⟩ := HR.out.a.cell i hlt
        clear HR hv
        by_cases h1 : i < 144
        · have h1I : (i : Int) < 144 := by omega
          have h1J : ¬ (144 : Int) ≤ (i : Int) := by omega
          have h1K : ¬ (256 : Int) ≤ (i : Int) := by omega
          have HF := Lib.hid (hN.out 8 (if_pos (.inl h1)))
          clear hN hN2 h1
          go_wp2_with fail
          exact ⟨⟨i + 1, by rw [Int.natCast_add]; rfl, by omega, HF⟩, by simp only [intOf]; omega⟩
        · have h1I : ¬ (i : Int) < 144 := by omega
          have h1J : (144 : Int) ≤ (i : Int) := by omega
          by_cases h3 : i < 256
          · have h3I : (i : Int) < 256 := by omega
            have HF := Lib.hid (hN2.out 9 (by rw [if_neg (by omega), if_pos h3]))
            clear hN hN2 h1 h3
            go_wp2_with fail
            exact ⟨⟨i + 1, by rw [Int.natCast_add]; rfl, by omega, HF⟩, by simp only [intOf]; omega⟩
          · have h3I : ¬ (i : Int) < 256 := by omega
            have h3J : (256 : Int) ≤ (i : Int) := by omega
            by_cases h4 : i < 280
            · have h4I : (i : Int) < 280 := by omega
              have HF := Lib.hid (hN2.out 7 (by rw [if_neg (by omega), if_neg h3]))
              clear hN hN2 h1 h3 h4
              go_wp2_with fail
              exact ⟨⟨i + 1, by rw [Int.natCast_add]; rfl, by omega, HF⟩, by simp only [intOf]; omega⟩
            · have h4I : ¬ (i : Int) < 280 := by omega
              have HF := Lib.hid (hN.out 8 (if_pos (.inr (by omega))))
              clear hN hN2 h1 h3 h4
              go_wp2_with fail
              exact ⟨⟨i + 1, by rw [Int.natCast_add]; rfl, by omega, HF⟩, by simp only [intOf]; omega⟩
      · obtain rfl : i = 288 := by omega
        rw [show ((288 : Nat) : Int) = 288 from rfl]
        have HB0 : Hid (FxS w1 wr ga gb (toI fixedL) (fillT (toI fixedD) 0)) := Lib.hid (by
          have := HR.out
          rw [show (288 : Nat) = (toI fixedL).length from rfl, fillT_all] at this
          rw [fillT_zero]
          exact this)
        clear HR hlt hi
        go_wp2_with fail
        go_loopw [37] (fun c wx => ∃ i : Nat, c = .int .i64 (i : Int) ∧ i ≤ 32 ∧ Hid (FxS w1 wx ga gb (toI fixedL) (fillT (toI fixedD) i))) (fun c _ => 32 - (intOf c).toNat)
        case atStart => exact ⟨0, rfl, by omega, HB0⟩
        case round =>
          obtain ⟨i, rfl, hi, HR⟩ := hrel
          clear HB0
          by_cases hlt : i < 32
          · have hltI : (i : Int) < 32 := by omega
            have hv := fixedD_at i hlt
            have hst := HR.out.setB i ((toI fixedD).getD i 0)
            rw [fillT_set (toI fixedD) i (by show i < 32; exact hlt), hv] at hst
            obtain ⟨hc, hfz⟩ := HR.out.b.cell i hlt
            have HS := Lib.hid hst
            clear hst hv HR
            go_wp2_with fail
            exact ⟨⟨i + 1, by rw [Int.natCast_add]; rfl, by omega, HS⟩, by simp only [intOf]; omega⟩
          · obtain rfl : i = 32 := by omega
            rw [show ((32 : Nat) : Int) = 32 from rfl]
            have HR2 : Hid (FxS w1 wr ga gb (toI fixedL) (toI fixedD)) := Lib.hid (by have := HR.out; rw [show (32 : Nat) = (toI fixedD).length from rfl, fillT_all] at this; exact this)
            have HCX := Lib.hid (coderOf_any fixedL fixed_new.1 _ wr HR2.out.a.irow)
            clear HR hlt hi
            go_upto_region 16 with fail
            go_wp2_with fail
            refine HCX.out.mono ?_
            rintro e wc' ⟨cx, rfl, hcx, hm⟩
            have HCY := Lib.hid (coderOf_any fixedD fixed_new.2.1 _ wc' ((HR2.out.b.mut hm).irow))
            have HM1 := Lib.hid (HR2.out.a.kept.trans' hm)
            obtain ⟨x1, x2, rfl, hx1, hx2⟩ := hcx
            obtain ⟨px1, lx1, qx1, rfl⟩ := hx1.form
            obtain ⟨px2, lx2, qx2, rfl⟩ := hx2.form
            have HX1 := Lib.hid (And.intro hx1 hx2)
            clear hx1 hx2 hm HCX HR2
            go_wp2_with fail
            refine HCY.out.mono ?_
            rintro e wd ⟨cy, rfl, hcy, hm⟩
            obtain ⟨y1, y2, rfl, hy1, hy2⟩ := hcy
            obtain ⟨py1, ly1, qy1, rfl⟩ := hy1.form
            obtain ⟨py2, ly2, qy2, rfl⟩ := hy2.form
            have HF := Lib.hid (show IRow wd _ _ ∧ IRow wd _ _ ∧ IRow wd _ _ ∧ IRow wd _ _ from ⟨HX1.out.1.mut hm (by simp), HX1.out.2.mut hm (by simp), hy1, hy2⟩)
            have HM2 := Lib.hid (HM1.out.trans' hm)
            have h4 := HM2.out.get H45.out.1 (by simp)
            have h5 := HM2.out.get H45.out.2 (by simp)
            have H4 := Lib.hid h4
            have H5 := Lib.hid h5
            have h45 : g4 ≠ g5 := by have := HG5.out; omega
            have H4N := Lib.hid h45
            obtain ⟨a0, a1, a2, a3⟩ := cells2 h4
            obtain ⟨b0, b1, b2, b3⟩ := cells2 h5
            clear hy1 hy2 hm HCY HX1 h4 h5 HM1
            go_wp2_with fail
            have hs : Mut [g4, g5] wd ((((wd.setCell ⟨g4, 0, none⟩ (.slice px1 lx1 qx1)).setCell ⟨g4, 1, none⟩ (.slice px2 lx2 qx2)).setCell ⟨g5, 0, none⟩ (.slice py1 ly1 qy1)).setCell ⟨g5, 1, none⟩ (.slice py2 ly2 qy2)) :=
              ((((Mut.refl _ wd).setCell (by simp) _).setCell (by simp) _).setCell (by simp) _).setCell (by simp) _
            have hne : ∀ {v : Value} {xs : List Int}, IRow wd v xs → ∀ g, v.ownBlock = some g → g ∉ [g4, g5] := fun hv g hg e => by
              rcases (show g = g4 ∨ g = g5 by simpa using e) with rfl | rfl
              · exact row_ne hv H4.out (by decide) hg
              · exact row_ne hv H5.out (by decide) hg
            have hb4 : ((((wd.setCell ⟨g4, 0, none⟩ (.slice px1 lx1 qx1)).setCell ⟨g4, 1, none⟩ (.slice px2 lx2 qx2)).setCell ⟨g5, 0, none⟩ (.slice py1 ly1 qy1)).setCell ⟨g5, 1, none⟩ (.slice py2 ly2 qy2)).heap[g4]? = some (.cells #[.slice px1 lx1 qx1, .slice px2 lx2 qx2] 118 (0, 0)) := by
              rw [heap_set_ne H4N.out, heap_set_ne H4N.out]
              exact heap_set (heap_set H4.out 0 _) 1 _
            have hb5 : ((((wd.setCell ⟨g4, 0, none⟩ (.slice px1 lx1 qx1)).setCell ⟨g4, 1, none⟩ (.slice px2 lx2 qx2)).setCell ⟨g5, 0, none⟩ (.slice py1 ly1 qy1)).setCell ⟨g5, 1, none⟩ (.slice py2 ly2 qy2)).heap[g5]? = some (.cells #[.slice py1 ly1 qy1, .slice py2 ly2 qy2] 118 (0, 0)) := by
              have h5 : ((wd.setCell ⟨g4, 0, none⟩ (.slice px1 lx1 qx1)).setCell ⟨g4, 1, none⟩ (.slice px2 lx2 qx2)).heap[g5]? = some (.cells #[.slice none 0 0, .slice none 0 0] 118 (0, 0)) := by
                rw [heap_set_ne (Ne.symm H4N.out), heap_set_ne (Ne.symm H4N.out)]
                exact H5.out
              exact heap_set (heap_set h5 0 _) 1 _
            refine bodyPost_ret (results_fixed hb4 hb5 rfl rfl) rfl ⟨_, _, rfl, ⟨_, _, rfl, HF.out.1.mut hs (hne HF.out.1), HF.out.2.1.mut hs (hne HF.out.2.1)⟩, ⟨_, _, rfl, HF.out.2.2.1.mut hs (hne HF.out.2.2.1), HF.out.2.2.2.mut hs (hne HF.out.2.2.2)⟩, (HM.out.trans' HM2.out).trans hs (fun x hx => .inr ?_)⟩
            have h1 := HGS.out
            have h2 := HG5.out
            rcases (show x = g4 ∨ x = g5 by simpa using hx) with rfl | rfl <;> omega

end Go.Proofs.Ytgjcnembeebjfaa

namespace Go.Proofs.Ytgjcnembeebjfaa
open Go.RowKit
set_option linter.unusedVariables false

def chCell (x : Ch) : List Value := [.int .i64 x.1, .int .i64 x.2.1, .int .i64 x.2.2]
def chCells (T : List Ch) : List Value := T.flatMap chCell

/-- a row of choices of the call's own; e: the element's type -/
def CRow (e : TypeId) (w : World) (v : Value) (T : List Ch) : Prop := w.ownsRow 0 e 3 v T.length (chCells T)

theorem CRow.mut {e : TypeId} {w w' : World} {v : Value} {T : List Ch} {S : List Nat} (h : CRow e w v T) (hm : Mut S w w') (hs : ∀ g, v.ownBlock = some g → g ∉ S) : CRow e w' v T := hm.row h hs
theorem CRow.nil (e : TypeId) (w : World) : CRow e w (.slice none 0 0) [] := World.ownsRow_nil _ _ _ _
theorem CRow.form {e : TypeId} {w : World} {v : Value} {T : List Ch} (h : CRow e w v T) : ∃ p c, v = .slice p T.length c := by
  rcases h.2 with ⟨h, h'⟩ | ⟨g, cap, _, h, _⟩
  · exact ⟨none, 0, by rw [h, h']⟩
  · exact ⟨_, cap, h⟩

theorem CRow.lt {e : TypeId} {w : World} {v : Value} {T : List Ch} (h : CRow e w v T) {k : Nat} (hk : v.ownBlock = some k) : k < w.heap.size := by
  rcases h.2 with ⟨rfl, _⟩ | ⟨g, cap, cur, rfl, _, hh, _⟩
  · simp [Value.ownBlock] at hk
  · simp [Value.ownBlock] at hk
    subst hk
    exact lt_of_heap hh

theorem chCells_snoc (T : List Ch) (x : Ch) : chCells (T ++ [x]) = chCells T ++ chCell x := by simp [chCells]

theorem chCells_len (T : List Ch) : (chCells T).length = 3 * T.length := by
  induction T with
  | nil => rfl
  | cons x r ih =>
    have : chCells (x :: r) = chCell x ++ chCells r := by simp [chCells]
    rw [this, List.length_append, ih]
    simp [chCell]
    omega

theorem chCells_at (T : List Ch) : ∀ (i : Nat) (hi : i < T.length) (j : Nat), j < 3 → (chCells T)[3 * i + j]? = (chCell (T[i]'hi))[j]? := by
  induction T with
  | nil => intro i hi; simp at hi
  | cons x r ih =>
    intro i hi j hj
    have e : chCells (x :: r) = chCell x ++ chCells r := by simp [chCells]
    rw [e]
    cases i with
    | zero =>
      rw [List.getElem?_append_left (by simp [chCell]; omega)]
      simp
    | succ i =>
      rw [List.getElem?_append_right (by simp [chCell]; omega)]
      have : 3 * (i + 1) + j - (chCell x).length = 3 * i + j := by simp [chCell]; omega
      rw [this, ih i (by simpa using hi) j hj]
      simp

/-- a choice's cells, read -/
theorem CRow.cells {e : TypeId} {w : World} {g n c : Nat} {T : List Ch} (h : CRow e w (.slice (some ⟨g, 0, none⟩) n c) T) (i : Nat) (hi : i < T.length) :
    w.cell? ⟨g, 3 * i, none⟩ = some (.int .i64 (T[i]'hi).1) ∧ w.cell? ⟨g, 3 * i + 1, none⟩ = some (.int .i64 (T[i]'hi).2.1) ∧ w.cell? ⟨g, 3 * i + 2, none⟩ = some (.int .i64 (T[i]'hi).2.2) := by
  rcases h.2 with ⟨h1, _⟩ | ⟨g', cap, cur, h1, _, hh, r1, r2, r3, r4⟩
  · cases h1
  · simp only [Value.slice.injEq, Option.some.injEq, Addr.mk.injEq] at h1
    obtain ⟨⟨e1, -⟩, -, -⟩ := h1
    subst e1
    have key : ∀ j u, j < 3 → (chCell (T[i]'hi))[j]? = some u → w.cell? ⟨g, 3 * i + j, none⟩ = some u := by
      intro j u hj hu
      have h2 := chCells_at T i hi j hj
      rw [hu, ← r4, List.getElem?_take] at h2
      split at h2
      · exact cellOf hh _ (by simpa using h2)
      · simp at h2
    exact ⟨key 0 _ (by decide) rfl, key 1 _ (by decide) rfl, key 2 _ (by decide) rfl⟩

theorem chCellA (X : Ch) : (chCell X).toArray = #[.int .i64 X.1, .int .i64 X.2.1, .int .i64 X.2.2] := rfl
theorem ch_one (a b c : Int) : ∀ x ∈ ([.int .i64 a, .int .i64 b, .int .i64 c] : List Value), x.oneCell' = true := by
  intro x hx
  simp at hx
  rcases hx with rfl | rfl | rfl <;> rfl

end Go.Proofs.Ytgjcnembeebjfaa
