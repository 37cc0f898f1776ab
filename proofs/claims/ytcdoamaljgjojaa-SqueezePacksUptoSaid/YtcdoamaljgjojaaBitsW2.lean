/- Walks over package bits: the writer's methods. -/
import Derived.Test.YtcdoamaljgjojaaBitsW
import Derived.Test.YtcdoamaljgjojaaBitsQ
import Derived.Deep.LoopGhost
namespace Go.Proofs.Ytcdoamaljgjojaa
open Go.RowKit

/-- bit k of a number -/
def bitOf (v : Int) (k : Nat) : Bool := decide (v / 2 ^ k % 2 = 1)
/-- the lowest n bits of v, the lowest first -/
def lowBits (v : Int) (n : Nat) : List Bool := (List.range n).map (bitOf v)
/-- the lowest n bits of v, the highest first -/
def highBits (v : Int) (n : Nat) : List Bool := (List.range n).map fun i => bitOf v (n - 1 - i)

theorem lowBits_length (v : Int) (n : Nat) : (lowBits v n).length = n := by simp [lowBits]
theorem highBits_length (v : Int) (n : Nat) : (highBits v n).length = n := by simp [highBits]
theorem lowBits_succ (v : Int) (n : Nat) : lowBits v (n + 1) = lowBits v n ++ [decide (v / 2 ^ n % 2 = 1)] := by simp [lowBits, List.range_succ, bitOf]

theorem put_out (b : Nat) (v n : Int) (w : World) (h : n < 0 ∨ 32 < n) :
    Calls Try.prog 30 #[.pointer (some ⟨b, 0, none⟩), .int .i64 v, .int .i64 n] w fun e w' => e = .returned (.tuple #[]) ∧ w = w' := by
  rcases h with h | h
  · go_enter Try.func30, Try.ntmps30
    go_wp2
    refine bodyPost_ret (results_none rfl _ _ _) rfl ?_
    exact ⟨rfl, rfl⟩
  · have h2 : ¬ n < 0 := by omega
    go_enter Try.func30, Try.ntmps30
    go_wp2
    refine bodyPost_ret (results_none rfl _ _ _) rfl ?_
    exact ⟨rfl, rfl⟩

theorem put_zero (b : Nat) (v : Int) (w : World) :
    Calls Try.prog 30 #[.pointer (some ⟨b, 0, none⟩), .int .i64 v, .int .i64 0] w fun e w' => e = .returned (.tuple #[]) ∧ w = w' := by
  go_enter Try.func30, Try.ntmps30
  go_wp2_with fail
  go_loop [18] (fun i => i = .int .i64 0) (fun _ => 0)
  case atStart => rfl
  case round =>
    subst hrel
    go_wp2_with fail
    go_end0
    exact ⟨rfl, rfl⟩

theorem put_nil (v n : Int) (w : World) :
    Calls Try.prog 30 #[.pointer none, .int .i64 v, .int .i64 n] w fun e w' => e = .returned (.tuple #[]) ∧ w = w' := by
  go_enter Try.func30, Try.ntmps30
  go_wp2
  refine bodyPost_ret (results_none rfl _ _ _) rfl ?_
  exact ⟨rfl, rfl⟩

set_option maxHeartbeats 400000 in
theorem put_any (b : Nat) (r : Option Nat) (l : List Bool) (v : Int) (n : Nat) (w : World) (h : WrIs w b r l) (hl : l.length ≤ 1125899906841000) (hn : n ≤ 32) :
    Calls Try.prog 30 #[.pointer (some ⟨b, 0, none⟩), .int .i64 v, .int .i64 (n : Int)] w fun e w' => e = .returned (.tuple #[]) ∧ WrTo w b r (l ++ lowBits v n) w' := by
  have h1 : ¬ (n : Int) < 0 := by omega
  have h2 : ¬ 32 < (n : Int) := by omega
  have HW := Lib.hid h
  clear h
  go_enter Try.func30, Try.ntmps30
  go_wp2_with fail
  go_loopw [18] (fun i wr => ∃ k : Nat, k ≤ n ∧ i = .int .i64 (k : Int) ∧ WrTo w b r (l ++ lowBits v k) wr) (fun i _ => n - (intOf i).toNat)
  case atStart => exact ⟨0, Nat.zero_le _, rfl, by simpa [lowBits] using WrTo.refl HW.out⟩
  case round =>
    obtain ⟨k, hk, rfl, r1, hw1, hf1, hm1⟩ := hrel
    have H1 := Lib.hid hw1
    have HF := Lib.hid hf1
    have HM := Lib.hid hm1
    clear hw1 hf1 hm1
    by_cases hlt : k < n
    · go_wp2_with fail
      refine (bit_any b r1 _ _ _ H1.out (by simp [lowBits_length]; omega)).mono ?_
      rintro e w1 ⟨rfl, hto⟩
      have HT := Lib.hid (WrTo.then H1.out HF.out HM.out hto)
      clear hto
      go_wp2_with fail
      go_roundw
      case rel => exact ⟨k + 1, by omega, by go_num, by rw [lowBits_succ, ← List.append_assoc]; exact HT.out⟩
      case measure => simp [intOf]; omega
    · have e : k = n := by omega
      have HT : Hid (WrTo w b r (l ++ lowBits v n) wr) := by rw [← e]; exact Lib.hid ⟨r1, H1.out, HF.out, HM.out⟩
      clear e
      go_wp2_with fail
      go_end0
      exact ⟨rfl, HT.out⟩

theorem code_out (b : Nat) (v n : Int) (w : World) (h : n < 0 ∨ 32 < n) :
    Calls Try.prog 68 #[.pointer (some ⟨b, 0, none⟩), .int .i64 v, .int .i64 n] w fun e w' => e = .returned (.tuple #[]) ∧ w = w' := by
  rcases h with h | h
  · go_enter Try.func68, Try.ntmps68
    go_wp2
    refine bodyPost_ret (results_none rfl _ _ _) rfl ?_
    exact ⟨rfl, rfl⟩
  · have h2 : ¬ n < 0 := by omega
    go_enter Try.func68, Try.ntmps68
    go_wp2
    refine bodyPost_ret (results_none rfl _ _ _) rfl ?_
    exact ⟨rfl, rfl⟩

theorem code_nil (v n : Int) (w : World) :
    Calls Try.prog 68 #[.pointer none, .int .i64 v, .int .i64 n] w fun e w' => e = .returned (.tuple #[]) ∧ w = w' := by
  go_enter Try.func68, Try.ntmps68
  go_wp2
  refine bodyPost_ret (results_none rfl _ _ _) rfl ?_
  exact ⟨rfl, rfl⟩

/-- the first k of them -/
def highTo (v : Int) (n k : Nat) : List Bool := (List.range k).map fun i => bitOf v (n - 1 - i)
theorem highTo_succ (v : Int) (n k : Nat) : highTo v n (k + 1) = highTo v n k ++ [decide (v / 2 ^ (n - 1 - k) % 2 = 1)] := by simp [highTo, List.range_succ, bitOf]
theorem highTo_length (v : Int) (n k : Nat) : (highTo v n k).length = k := by simp [highTo]

set_option maxHeartbeats 400000 in
theorem code_any (b : Nat) (r : Option Nat) (l : List Bool) (v : Int) (n : Nat) (w : World) (h : WrIs w b r l) (hl : l.length ≤ 1125899906841000) (hn : n ≤ 32) :
    Calls Try.prog 68 #[.pointer (some ⟨b, 0, none⟩), .int .i64 v, .int .i64 (n : Int)] w fun e w' => e = .returned (.tuple #[]) ∧ WrTo w b r (l ++ highBits v n) w' := by
  have h1 : ¬ (n : Int) < 0 := by omega
  have h2 : ¬ 32 < (n : Int) := by omega
  have HW := Lib.hid h
  clear h
  go_enter Try.func68, Try.ntmps68
  go_wp2_with fail
  go_loopw [18] (fun i wr => ∃ k : Nat, k ≤ n ∧ i = .int .i64 (k : Int) ∧ WrTo w b r (l ++ highTo v n k) wr) (fun i _ => n - (intOf i).toNat)
  case atStart => exact ⟨0, Nat.zero_le _, rfl, by simpa [highTo] using WrTo.refl HW.out⟩
  case round =>
    obtain ⟨k, hk, rfl, r1, hw1, hf1, hm1⟩ := hrel
    have H1 := Lib.hid hw1
    have HF := Lib.hid hf1
    have HM := Lib.hid hm1
    clear hw1 hf1 hm1
    by_cases hlt : k < n
    · go_wp2_with fail
      refine (bit_any b r1 _ _ _ H1.out (by simp [highTo_length]; omega)).mono ?_
      rintro e w1 ⟨rfl, hto⟩
      have HT := Lib.hid (WrTo.then H1.out HF.out HM.out hto)
      clear hto
      go_wp2_with fail
      go_roundw
      case rel => exact ⟨k + 1, by omega, by go_num, by rw [highTo_succ, ← List.append_assoc]; exact HT.out⟩
      case measure => simp [intOf]; omega
    · have e : k = n := by omega
      have HT : Hid (WrTo w b r (l ++ highBits v n) wr) := Lib.hid ⟨r1, by have := H1.out; rw [e] at this; exact this, HF.out, HM.out⟩
      clear e
      go_wp2_with fail
      go_end0
      exact ⟨rfl, HT.out⟩

theorem wbytes_nil (s : ByteArray) (w : World) : Calls Try.prog 31 #[.pointer none, .string s] w fun e w' => e = .returned (.tuple #[]) ∧ w = w' := by
  go_enter Try.func31, Try.ntmps31
  go_wp2
  go_end0
  exact ⟨rfl, rfl⟩

theorem byteCells_eq (s : ByteArray) : byteCells s = (bytesOf s).map fun n : Nat => Value.int .u8 (n : Int) := by simp [byteCells, bytesOf]

set_option maxHeartbeats 400000 in
theorem wbytes_any (b : Nat) (r : Option Nat) (l : List Bool) (s : ByteArray) (w : World) (h : WrIs w b r l) (hs : (l.length + 7) / 8 + s.size ≤ 140737488355328) :
    Calls Try.prog 31 #[.pointer (some ⟨b, 0, none⟩), .string s] w fun e w' => e = .returned (.tuple #[]) ∧ WrTo w b r (pad8 l ++ strBits s) w' := by
  obtain ⟨v, hb, hr, rfl⟩ := h
  obtain ⟨i0, hi, hz0, hz1, hz2⟩ := info_parts info_u8
  have hpl := pack_length l
  obtain ⟨c0, c1, f0, f1⟩ := cells2 hb
  have HB := Lib.hid hb
  have HPL := Lib.hid hpl
  clear hb hpl
  go_enter Try.func31, Try.ntmps31
  go_wp2_with (at_builtin; refine wp_app rfl (.tmp 10) (.tmp 11) 33 9 rfl 5 i0 (.int .u8 0) 1 1 Try.underlying33 hi hz0 hz1 hz2 rfl hr rfl (Src.ofString w Try.underlying9 s) rfl ?b1 ?b2 ?_)
  case b1 => have := HPL.out; unfold maxLen; omega
  case b2 => have := HPL.out; omega
  intro v' w1 hr1 hg1 hfr
  have hne := row_ne hr HB.out (by decide)
  have hm1 : Mut (b :: v.ownBlock.toList) w w1 := (Mut.refl _ w).grown hg1 (by intro g hg; simp [hg])
  have hb1 : w1.heap[b]? = some (.cells #[v, .int .i64 (l.length : Int)] 72 (0, 0)) := (hg1.block b (lt_of_heap HB.out) (by simpa using fun h => hne h.symm)).trans HB.out
  have hne' := row_ne hr1 hb1 (by decide)
  obtain ⟨ao, cap, rfl⟩ : ∃ a cap, v' = .slice a ((pack l).length + s.size) cap := by
    rcases hr1.2 with ⟨h, h'⟩ | ⟨g, cap, _, h, _⟩
    · exact ⟨none, 0, by rw [h, h']⟩
    · exact ⟨_, cap, h⟩
  have hp : pack (pad8 l ++ strBits s) = pack l ++ bytesOf s := by
    rw [pack_append _ _ (by rw [pad8_length]; omega), pack_pad8]
    have := pack_bytesBits (bytesOf s) (bytesOf_lt s) []
    rw [List.append_nil] at this
    rw [strBits, this]; simp [pack]
  have hlen : ((pad8 l ++ strBits s).length : Int) = 8 * (((pack l).length : Int) + (s.size : Int)) := by
    rw [List.length_append, pad8_length, strBits_length, pack_length]; omega
  have HE := Lib.hid (show WrTo w b v.ownBlock (pad8 l ++ strBits s) ((w1.setCell ⟨b, 0, none⟩ (.slice ao ((pack l).length + s.size) cap)).setCell ⟨b, 1, none⟩ (.int .i64 (8 * (((pack l).length : Int) + (s.size : Int))))) from by
    have hb2 := heap_set (heap_set hb1 0 (.slice ao ((pack l).length + s.size) cap)) 1 (.int .i64 (8 * (((pack l).length : Int) + (s.size : Int))))
    have hr2 := row_set_ne (row_set_ne hr1 (b := b) (i := 0) (s := none) (fun g hg e => hne' (by rw [hg, e])) (.slice ao ((pack l).length + s.size) cap)) (b := b) (i := 1) (s := none) (fun g hg e => hne' (by rw [hg, e])) (.int .i64 (8 * (((pack l).length : Int) + (s.size : Int))))
    refine ⟨_, ⟨_, ?_, ?_, rfl⟩, fun g hg => hfr g hg, (hm1.setCell (by simp) _).setCell (by simp) _⟩
    · rw [hlen]; simpa using hb2
    · rw [hp, List.map_append, ← byteCells_eq, List.length_append, bytesOf_length]; exact hr2)
  obtain ⟨c0', c1', f0', f1'⟩ := cells2 hb1
  have hk : ((pack l).length : Int) + (s.size : Int) ≤ 140737488355328 := by have := HPL.out; omega
  clear hr hr1 hg1 hfr hb1 hm1 hne hne' hp hlen c0 c1 f0 f1 hi hz0 hz1 hz2
  go_wp2
  go_end0
  exact ⟨rfl, HE.out⟩

theorem wall_nil (w : World) : Calls Try.prog 35 #[.pointer none] w fun e w' => e = .returned (.string ByteArray.empty) ∧ w = w' := by
  go_enter Try.func35, Try.ntmps35
  go_wp2
  go_ret
  exact ⟨rfl, rfl⟩

theorem wall_any (b : Nat) (r : Option Nat) (l : List Bool) (w : World) (h : WrIs w b r l) :
    Calls Try.prog 35 #[.pointer (some ⟨b, 0, none⟩)] w fun e w' => e = .returned (.string (strOf (pack l))) ∧ w = w' := by
  obtain ⟨v, hb, hr, rfl⟩ := h
  obtain ⟨c0, c1, f0, f1⟩ := cells2 hb
  have hc : (convert 33 9 v).run Try.prog w = .ok (.string (strOf (pack l))) w := by
    have h : w.ownsRow 0 5 1 v (pack l).length (((pack l).map fun n : Nat => (n : Int)).map (Value.int .u8)) := by rw [List.map_map]; exact hr
    rw [conv_row Try.underlying33 Try.underlying5 Try.underlying9 h]
    simp only [List.map_map]
    rfl
  clear hb hr
  go_enter Try.func35, Try.ntmps35
  go_wp2
  go_ret
  exact ⟨rfl, rfl⟩

/-! the same, told from where the writer was made -/
theorem WrTo.step {w0 w w' : World} {b : Nat} {r : Option Nat} {l l' : List Bool} (h : WrTo w0 b r l w) (k : ∀ r1, WrIs w b r1 l → WrTo w b r1 l' w') : WrTo w0 b r l' w' := by
  obtain ⟨r1, h1, h2, h3⟩ := h
  exact WrTo.then h1 h2 h3 (k r1 h1)

theorem put_to {w0 w : World} {b : Nat} {r : Option Nat} {l : List Bool} (h : WrTo w0 b r l w) (v : Int) (m : Int) (n : Nat) (hm : m = n) (hl : l.length ≤ 1125899906841000) (hn : n ≤ 32) :
    Calls Try.prog 30 #[.pointer (some ⟨b, 0, none⟩), .int .i64 v, .int .i64 m] w fun e w' => e = .returned (.tuple #[]) ∧ WrTo w0 b r (l ++ lowBits v n) w' := by
  subst hm
  obtain ⟨r1, h1, h2, h3⟩ := h
  exact (put_any b r1 l v n w h1 hl hn).mono fun e w' ⟨he, hk⟩ => ⟨he, WrTo.then h1 h2 h3 hk⟩

theorem code_to {w0 w : World} {b : Nat} {r : Option Nat} {l : List Bool} (h : WrTo w0 b r l w) (v : Int) (m : Int) (n : Nat) (hm : m = n) (hl : l.length ≤ 1125899906841000) (hn : n ≤ 32) :
    Calls Try.prog 68 #[.pointer (some ⟨b, 0, none⟩), .int .i64 v, .int .i64 m] w fun e w' => e = .returned (.tuple #[]) ∧ WrTo w0 b r (l ++ highBits v n) w' := by
  subst hm
  obtain ⟨r1, h1, h2, h3⟩ := h
  exact (code_any b r1 l v n w h1 hl hn).mono fun e w' ⟨he, hk⟩ => ⟨he, WrTo.then h1 h2 h3 hk⟩

theorem wbytes_to {w0 w : World} {b : Nat} {r : Option Nat} {l : List Bool} (h : WrTo w0 b r l w) (s : ByteArray) (hs : (l.length + 7) / 8 + s.size ≤ 140737488355328) :
    Calls Try.prog 31 #[.pointer (some ⟨b, 0, none⟩), .string s] w fun e w' => e = .returned (.tuple #[]) ∧ WrTo w0 b r (pad8 l ++ strBits s) w' := by
  obtain ⟨r1, h1, h2, h3⟩ := h
  exact (wbytes_any b r1 l s w h1 hs).mono fun e w' ⟨he, hk⟩ => ⟨he, WrTo.then h1 h2 h3 hk⟩

theorem wall_to {w0 w : World} {b : Nat} {r : Option Nat} {l : List Bool} (h : WrTo w0 b r l w) (t : ByteArray) (ht : strOf (pack l) = t) :
    Calls Try.prog 35 #[.pointer (some ⟨b, 0, none⟩)] w fun e w' => e = .returned (.string t) ∧ w = w' := by
  subst ht
  obtain ⟨r1, h1, h2, h3⟩ := h
  exact wall_any b r1 l w h1

end Go.Proofs.Ytcdoamaljgjojaa
