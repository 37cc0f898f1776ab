/- Walks over package bits: the writer's methods. -/
import Derived.Test.YtbgejebnpmogoaaBitsW
import Derived.Test.YtbgejebnpmogoaaBitsQ
import Derived.Deep.LoopGhost
namespace Go.Proofs.Ytbgejebnpmogoaa
open Go.RowKit

/-- bit k of a number -/
def bitOf (v : Int) (k : Nat) : Bool := decide (v / 2 ^ k % 2 = 1)
/-- the lowest n bits of v, the lowest first -/
def lowBits (v : Int) (n : Nat) : List Bool := (List.range n).map (bitOf v)
/-- the lowest n bits of v, the highest first -/
def highBits (v : Int) (n : Nat) : List Bool := (List.range n).map fun i => bitOf v (n - 1 - i)

theorem lowBits_length (v : Int) (n : Nat) : (lowBits v n).length = n := by simp [lowBits]
theorem highBits_length (v : Int) (n : Nat) : (highBits v n).length = n := by simp [highBits]
theorem lowBits_succ (v : Int) (n : Nat) : lowBits v (n + 1) = lowBits v n ++ [decide (v / 2 ^ n % 2 = 1)] := by simp [lowBits, List.range_succ, bitOf]

theorem code_out (b : Nat) (v n : Int) (w : World) (h : n < 0 ∨ 32 < n) :
    Calls Try.prog 22 #[.pointer (some ⟨b, 0, none⟩), .int .i64 v, .int .i64 n] w fun e w' => e = .returned (.tuple #[]) ∧ w = w' := by
  rcases h with h | h
  · go_enter Try.func22, Try.ntmps22
    go_wp2
    refine bodyPost_ret (results_none rfl _ _ _) rfl ?_
    exact ⟨rfl, rfl⟩
  · have h2 : ¬ n < 0 := by omega
    go_enter Try.func22, Try.ntmps22
    go_wp2
    refine bodyPost_ret (results_none rfl _ _ _) rfl ?_
    exact ⟨rfl, rfl⟩

theorem code_nil (v n : Int) (w : World) :
    Calls Try.prog 22 #[.pointer none, .int .i64 v, .int .i64 n] w fun e w' => e = .returned (.tuple #[]) ∧ w = w' := by
  go_enter Try.func22, Try.ntmps22
  go_wp2
  refine bodyPost_ret (results_none rfl _ _ _) rfl ?_
  exact ⟨rfl, rfl⟩

/-- the first k of them -/
def highTo (v : Int) (n k : Nat) : List Bool := (List.range k).map fun i => bitOf v (n - 1 - i)
theorem highTo_succ (v : Int) (n k : Nat) : highTo v n (k + 1) = highTo v n k ++ [decide (v / 2 ^ (n - 1 - k) % 2 = 1)] := by simp [highTo, List.range_succ, bitOf]
theorem highTo_length (v : Int) (n k : Nat) : (highTo v n k).length = k := by simp [highTo]

set_option maxHeartbeats 400000 in
theorem code_any (b : Nat) (r : Option Nat) (l : List Bool) (v : Int) (n : Nat) (w : World) (h : WrIs w b r l) (hl : l.length ≤ 1125899906841000) (hn : n ≤ 32) :
    Calls Try.prog 22 #[.pointer (some ⟨b, 0, none⟩), .int .i64 v, .int .i64 (n : Int)] w fun e w' => e = .returned (.tuple #[]) ∧ WrTo w b r (l ++ highBits v n) w' := by
  have h1 : ¬ (n : Int) < 0 := by omega
  have h2 : ¬ 32 < (n : Int) := by omega
  have HW := Lib.hid h
  clear h
  go_enter Try.func22, Try.ntmps22
  go_wp2_with fail
  go_loopw [18] (fun i wr => ∃ k : Nat, k ≤ n ∧ i = .int .i64 (k : Int) ∧ WrTo w b r (l ++ highTo v n k) wr) (fun i _ => n - (intOf i).toNat)
  case atStart => exact ⟨0, Nat.zero_le _, rfl, by simpa [highTo] using WrTo.refl HW.out⟩
  case round =>
    obtain ⟨k, hk, rfl, r1, hw1, hf1, hm1⟩ := hrel
    have H1 := Lib.hid hw1
    have HF := Lib.hid hf1
    have HM := Lib.hid hm1
    clear hw1 hf1 hm1
    by_cases hlt : k < n
    · go_wp2_with fail
      refine (bit_any b r1 _ _ _ H1.out (by simp [highTo_length]; omega)).mono ?_
      rintro e w1 ⟨rfl, hto⟩
      have HT := Lib.hid (WrTo.then H1.out HF.out HM.out hto)
      clear hto
      go_wp2_with fail
      go_roundw
      case rel => exact ⟨k + 1, by omega, by go_num, by rw [highTo_succ, ← List.append_assoc]; exact HT.out⟩
      case measure => simp [intOf]; omega
    · have e : k = n := by omega
      have HT : Hid (WrTo w b r (l ++ highBits v n) wr) := Lib.hid ⟨r1, by have := H1.out; rw [e] at this; exact this, HF.out, HM.out⟩
      clear e
      go_wp2_with fail
      go_end0
      exact ⟨rfl, HT.out⟩

theorem byteCells_eq (s : ByteArray) : byteCells s = (bytesOf s).map fun n : Nat => Value.int .u8 (n : Int) := by simp [byteCells, bytesOf]

theorem wall_nil (w : World) : Calls Try.prog 23 #[.pointer none] w fun e w' => e = .returned (.string ByteArray.empty) ∧ w = w' := by
  go_enter Try.func23, Try.ntmps23
  go_wp2
  go_ret
  exact ⟨rfl, rfl⟩

theorem wall_any (b : Nat) (r : Option Nat) (l : List Bool) (w : World) (h : WrIs w b r l) :
    Calls Try.prog 23 #[.pointer (some ⟨b, 0, none⟩)] w fun e w' => e = .returned (.string (strOf (pack l))) ∧ w = w' := by
  obtain ⟨v, hb, hr, rfl⟩ := h
  obtain ⟨c0, c1, f0, f1⟩ := cells2 hb
  have hc : (convert 46 9 v).run Try.prog w = .ok (.string (strOf (pack l))) w := by
    have h : w.ownsRow 0 5 1 v (pack l).length (((pack l).map fun n : Nat => (n : Int)).map (Value.int .u8)) := by rw [List.map_map]; exact hr
    rw [conv_row Try.underlying46 Try.underlying5 Try.underlying9 h]
    simp only [List.map_map]
    rfl
  clear hb hr
  go_enter Try.func23, Try.ntmps23
  go_wp2
  go_ret
  exact ⟨rfl, rfl⟩

/-! the same, told from where the writer was made -/
theorem WrTo.step {w0 w w' : World} {b : Nat} {r : Option Nat} {l l' : List Bool} (h : WrTo w0 b r l w) (k : ∀ r1, WrIs w b r1 l → WrTo w b r1 l' w') : WrTo w0 b r l' w' := by
  obtain ⟨r1, h1, h2, h3⟩ := h
  exact WrTo.then h1 h2 h3 (k r1 h1)

theorem code_to {w0 w : World} {b : Nat} {r : Option Nat} {l : List Bool} (h : WrTo w0 b r l w) (v : Int) (m : Int) (n : Nat) (hm : m = n) (hl : l.length ≤ 1125899906841000) (hn : n ≤ 32) :
    Calls Try.prog 22 #[.pointer (some ⟨b, 0, none⟩), .int .i64 v, .int .i64 m] w fun e w' => e = .returned (.tuple #[]) ∧ WrTo w0 b r (l ++ highBits v n) w' := by
  subst hm
  obtain ⟨r1, h1, h2, h3⟩ := h
  exact (code_any b r1 l v n w h1 hl hn).mono fun e w' ⟨he, hk⟩ => ⟨he, WrTo.then h1 h2 h3 hk⟩

theorem wall_to {w0 w : World} {b : Nat} {r : Option Nat} {l : List Bool} (h : WrTo w0 b r l w) (t : ByteArray) (ht : strOf (pack l) = t) :
    Calls Try.prog 23 #[.pointer (some ⟨b, 0, none⟩)] w fun e w' => e = .returned (.string t) ∧ w = w' := by
  subst ht
  obtain ⟨r1, h1, h2, h3⟩ := h
  exact wall_any b r1 l w h1

end Go.Proofs.Ytbgejebnpmogoaa
