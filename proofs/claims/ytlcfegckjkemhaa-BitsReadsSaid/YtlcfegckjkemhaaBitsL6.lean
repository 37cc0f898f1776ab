/- The law BitsReads: no step; and whole. -/
import Derived.Test.YtlcfegckjkemhaaBitsL5
namespace Go.Proofs.Ytlcfegckjkemhaa
open Go.RowKit

set_option maxRecDepth 100000 in
theorem reads_none (s : ByteArray) (ao : Option Addr) (c : Nat) (w : World) (hs : s.size ≤ 140737488355328) :
    Calls Try.prog 8 #[.string s, .slice ao 0 c] w fun e w' => e = .returned (.bool true) ∧ Below w.heap.size w w' := by
  go_enter Try.func8, Try.ntmps8
  go_wp2_with fail
  refine (speaks_any _).mono ?_
  rintro e w1 ⟨rfl, hbl⟩
  have S1 := Lib.hid (Sofar.of_below hbl)
  clear hbl
  go_wp2_with fail
  refine (open_any s _).mono ?_
  rintro e w2 ⟨rfl, rfl⟩
  have S2 := Lib.hid (S1.out.alloc (.cells #[.string s, .int .i64 0] 57))
  go_wp2_with fail
  go_loop [7] (fun i => i = .int .i64 0) (fun _ => 0)
  case atStart => rfl
  case round =>
    subst hrel
    go_wp2_with fail
    go_ret
    exact ⟨rfl, S2.out.below⟩

theorem lawBitsReads (w : World) (s : ByteArray) (_ : s.size ≤ maxLen) (hs : s.size ≤ 140737488351232) (v : Value) (n : Nat) (f : Nat → ActD) (h : Acts w v n f) :
    Calls Try.prog 8 #[.string s, v] w fun e w' => e = .returned (.bool true) ∧ Below w.heap.size w w' := by
  obtain ⟨ao, cap, rfl, h1, h2, h3, h4⟩ := h
  rcases n with _ | n
  · exact reads_none s ao cap w (by omega)
  · obtain ⟨b, off, rfl, _, h6⟩ := h3 (by omega)
    exact reads_some s f b off (n + 1) cap w (by omega) (by omega) h6 h4

end Go.Proofs.Ytlcfegckjkemhaa
