/- How a part is read, step by step, as the reference takes it. -/
import Derived.Test.YtgjcnembeebjfaaGzR7
namespace Go.Proofs.Ytgjcnembeebjfaa
open Go.RowKit
set_option linter.unusedVariables false

theorem RR.assoc {α β γ : Type} (r : RR α) (f : α → Nat → RR β) (g : β → Nat → RR γ) : (r.bind f).bind g = r.bind fun x a => (f x a).bind g := by cases r <;> rfl

/-- what is left when the names are read -/
def rK5 (fu : Nat) (D : ByteArray) (most a : Nat) (h : ByteArray) (p : GPart) (a5 : Nat) : RR GPart := (sumM D a p (flag h 2) a5).bind fun p a6 => tailN D p (unpN fu D a6 most) a6
def rK4 (fu : Nat) (D : ByteArray) (most a : Nat) (h : ByteArray) (p : GPart) (a4 : Nat) : RR GPart := (if flag h 16 = true then textM D a4 else .ok .empty a4).bind fun c a5 => rK5 fu D most a h { p with comment := c } a5
def rK3 (fu : Nat) (D : ByteArray) (most a : Nat) (h : ByteArray) (p : GPart) (a3 : Nat) : RR GPart := (if flag h 8 = true then textM D a3 else .ok .empty a3).bind fun n a4 => rK4 fu D most a h { p with name := n } a4
def rK2 (fu : Nat) (D : ByteArray) (most a : Nat) (h : ByteArray) (p : GPart) (a2 : Nat) : RR GPart := (if flag h 4 = true then extraM D a2 else .ok .empty a2).bind fun x a3 => rK3 fu D most a h { p with extra := x } a3

theorem part_K (fu : Nat) (D : ByteArray) (most a : Nat) (h1 : isM (D.extract a D.size) = true) (h10 : a + 10 ≤ D.size) (h8 : gB (D.extract a (a + 10)) 2 = 8) (h3 : flag (D.extract a (a + 10)) 224 = false) :
    partN fu D most a = rK2 fu D most a (D.extract a (a + 10)) (p0 (D.extract a (a + 10))) (a + 10) := by
  unfold partN headM
  rw [if_neg (by rw [h1]; decide)]
  unfold takeM
  rw [if_pos h10]
  simp only [RR.bind]
  rw [if_neg (by rw [h8]; decide), if_neg (by rw [h3]; decide)]
  show (restM D a (D.extract a (a + 10)) (a + 10)).bind (fun p a1 => tailN D p (unpN fu D a1 most) a1) = _
  unfold restM rK2 rK3 rK4 rK5
  simp only [RR.assoc]
  rfl

theorem part_3 (fu : Nat) (D : ByteArray) (most a : Nat) (h1 : isM (D.extract a D.size) = true) (h10 : ¬ a + 10 ≤ D.size) : partN fu D most a = .bad 3 a := by
  refine partN_bad ?_
  unfold headM
  rw [if_neg (by rw [h1]; decide)]
  unfold takeM
  rw [if_neg h10]
  rfl
theorem part_12 (fu : Nat) (D : ByteArray) (most a : Nat) (h1 : isM (D.extract a D.size) = false) : partN fu D most a = .bad 12 a := by
  refine partN_bad ?_
  unfold headM
  rw [if_pos h1]
theorem part_13 (fu : Nat) (D : ByteArray) (most a : Nat) (h1 : isM (D.extract a D.size) = true) (h10 : a + 10 ≤ D.size) (h8 : gB (D.extract a (a + 10)) 2 ≠ 8) : partN fu D most a = .bad 13 (a + 2) := by
  refine partN_bad ?_
  unfold headM
  rw [if_neg (by rw [h1]; decide)]
  unfold takeM
  rw [if_pos h10]
  simp only [RR.bind]
  rw [if_pos h8]
theorem part_4 (fu : Nat) (D : ByteArray) (most a : Nat) (h1 : isM (D.extract a D.size) = true) (h10 : a + 10 ≤ D.size) (h8 : gB (D.extract a (a + 10)) 2 = 8) (h3 : flag (D.extract a (a + 10)) 224 = true) : partN fu D most a = .bad 4 (a + 3) := by
  refine partN_bad ?_
  unfold headM
  rw [if_neg (by rw [h1]; decide)]
  unfold takeM
  rw [if_pos h10]
  simp only [RR.bind]
  rw [if_neg (by rw [h8]; decide), if_pos h3]

theorem gB_at (D : ByteArray) (a n i : Nat) (hn : a + n ≤ D.size) (hi : i < n) : gB (D.extract a (a + n)) i = (D[a + i]'(by omega)).toNat := by
  unfold gB
  rw [bytesOf_extract, List.getD_eq_getElem?_getD, List.getElem?_drop, List.getElem?_take_of_lt (by omega), ← List.getD_eq_getElem?_getD, bytesOf_getD D (a + i) (by omega)]
theorem isM_at (D : ByteArray) (a : Nat) (h : a + 2 ≤ D.size) : isM (D.extract a D.size) = decide ((D[a]'(by omega)).toNat = 31 ∧ (D[a + 1]'(by omega)).toNat = 139) := by
  unfold isM
  have e : (bytesOf (D.extract a D.size)).take 2 = [(D[a]'(by omega)).toNat, (D[a + 1]'(by omega)).toNat] := by
    have hl : (bytesOf D).length = D.size := bytesOf_length D
    rw [bytesOf_extract]
    have h0 : (bytesOf D).take D.size = bytesOf D := by rw [← hl, List.take_length]
    rw [h0, List.drop_eq_getElem_cons (by omega), List.drop_eq_getElem_cons (by omega)]
    simp only [List.take_succ_cons, List.take_zero]
    have g0 := bytesOf_getD D a (by omega)
    have g1 := bytesOf_getD D (a + 1) (by omega)
    rw [List.getD_eq_getElem?_getD, List.getElem?_eq_getElem (by omega), Option.getD_some] at g0 g1
    rw [g0, g1]
  rw [e]
  simp
theorem isM_short (D : ByteArray) (a : Nat) (h : ¬ a + 2 ≤ D.size) : isM (D.extract a D.size) = false := by
  unfold isM
  rw [decide_eq_false_iff_not]
  intro h'
  have := congrArg List.length h'
  rw [List.length_take, bytesOf_length, ByteArray.size_extract] at this
  simp at this
  omega

theorem flags_at : ∀ f : Nat, f < 256 → ((!(bits .and .u8 (f : Int) 1 == 0)) = decide (f % 2 = 1) ∧ (!(bits .and .u8 (f : Int) 2 == 0)) = decide (f / 2 % 2 = 1) ∧ (!(bits .and .u8 (f : Int) 4 == 0)) = decide (f / 4 % 2 = 1) ∧
    (!(bits .and .u8 (f : Int) 8 == 0)) = decide (f / 8 % 2 = 1) ∧ (!(bits .and .u8 (f : Int) 16 == 0)) = decide (f / 16 % 2 = 1) ∧ (!(bits .and .u8 (f : Int) 224 == 0)) = decide (31 < f)) := by decide +kernel

theorem textM_zero (D : ByteArray) (a : Nat) (h : a ≤ D.size) : (zeroN D a < 0 → textM D a = .bad 3 a) ∧ (∀ z : Nat, zeroN D a = (z : Int) → a ≤ z ∧ z < D.size ∧ textM D a = if 256 < z - a then .bad 2 a else .ok (D.extract a z) (z + 1)) := by
  unfold zeroN textM
  cases hi : Lib.indexByte (D.extract a D.size).data.toList 0 with
  | ofNat i =>
    refine ⟨fun h => by simp only at h; omega, fun z hz => ?_⟩
    simp only at hz ⊢
    obtain rfl : a + i = z := by omega
    refine ⟨by omega, ?_, by rw [show a + i - a = i by omega]⟩
    have h1 := (List.getElem?_eq_some_iff.1 (Lib.indexByte_some (l := (D.extract a D.size).data.toList) (c := 0) (o := i) hi).1).1
    have h2 : (D.extract a D.size).data.toList.length = D.size - a := by
      have : (D.extract a D.size).data.toList.length = (D.extract a D.size).size := by simp only [Array.length_toList]; rfl
      rw [this, ByteArray.size_extract]
      omega
    omega
  | negSucc i => exact ⟨fun _ => rfl, fun z hz => by simp only at hz; omega⟩

end Go.Proofs.Ytgjcnembeebjfaa
