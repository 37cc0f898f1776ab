/- The laws of bits: BitsNil, BitsPeeks. -/
import Derived.Test.YtlcfegckjkemhaaBitsL1
import Derived.Test.YtlcfegckjkemhaaBitsR
namespace Go.Proofs.Ytlcfegckjkemhaa
open Go.RowKit

set_option maxHeartbeats 400000 in
theorem lawBitsNil (n : Int) (_ : (Lit.int .i64 n).wf = true) (w : World) :
    Calls Try.prog 7 #[.int .i64 n] w fun e w' => e = .returned (.bool true) ∧ Below w.heap.size w w' := by
  go_enter Try.func7, Try.ntmps7
  go_wp2_with fail
  refine (speaks_any _).mono ?_
  rintro e w1 ⟨rfl, hb1⟩
  have S1 := Lib.hid (Sofar.of_below hb1)
  clear hb1
  go_wp2_with (first | (go_at_call 19; refine (take_nil n _).mono ?_; rintro e w' ⟨rfl, rfl⟩) | (go_at_call 23; refine (rbytes_nil n _).mono ?_; rintro e w' ⟨rfl, rfl⟩) | (go_at_call 21; refine (peek_nil n _).mono ?_; rintro e w' ⟨rfl, rfl⟩) | (go_at_call 22; refine (taken_nil _).mono ?_; rintro e w' ⟨rfl, rfl⟩) | (go_at_call 20; refine (left_nil _).mono ?_; rintro e w' ⟨rfl, rfl⟩))
  go_ret
  exact ⟨rfl, S1.out.below⟩

end Go.Proofs.Ytlcfegckjkemhaa
