/- What an unpacker does, plain: the laws of cut bytes, of bytes behind, of a lower bound. No program. -/
import Derived.Test.YtcdoamaljgjojaaInfM
namespace Go.Proofs.Ytcdoamaljgjojaa
open Go.RowKit
set_option linter.unusedVariables false

def st0 : US := ⟨0, [], 0⟩
/-- what unpacking comes to -/
def runU (F : Nat) (s : ByteArray) (m : Nat) : US := (unpackU F F s m st0).2

theorem run_inside (F : Nat) (s : ByteArray) (m : Nat) : (runU F s m).t ≤ 8 * s.size := (unpack_nice F F).inside s m st0 (Nat.zero_le _)
theorem run_most (F : Nat) (s : ByteArray) (m : Nat) : (runU F s m).out.length ≤ m := (unpack_nice F F).most s m st0 (Nat.zero_le _)

theorem run_cut (F : Nat) (a b : ByteArray) (m : Nat) (h : Pre a b) : runU F a m = runU F b m ∨ (runU F a m).er = 3 := by
  rcases (unpack_nice F F).cut a b m st0 h (Nat.zero_le _) with e | e
  · left; unfold runU; rw [e]
  · exact .inr e

theorem run_more (F : Nat) (a b : ByteArray) (m : Nat) (h : Pre a b) (h0 : (runU F a m).er = 0) : runU F b m = runU F a m := by
  rcases run_cut F a b m h with e | e
  · exact e.symm
  · rw [h0] at e; cases e

theorem run_bound (F : Nat) (s : ByteArray) (k m : Nat) (hk : k ≤ m) (h0 : (runU F s m).er = 0) (h : (runU F s m).out.length ≤ k) : runU F s k = runU F s m := by
  rcases (unpack_nice F F).bound s k m st0 hk with e | ⟨e1, e2⟩
  · unfold runU; rw [e]
  · have := e2 h0
    unfold runU at h
    omega

theorem run_less (F : Nat) (s : ByteArray) (k m : Nat) (hk : k < (runU F s m).out.length) : (runU F s k).er = 2 := by
  have hm := run_most F s m
  rcases (unpack_nice F F).bound s k m st0 (by omega) with e | ⟨e1, e2⟩
  · exfalso
    have h1 : runU F s k = runU F s m := by unfold runU; rw [e]
    have h2 := run_most F s k
    rw [h1] at h2
    omega
  · exact e1

theorem pre_append (a b : ByteArray) : Pre a (a ++ b) := ⟨bytesOf b, by rw [bytesOf_append]⟩
theorem pre_extract (s : ByteArray) (n : Nat) : Pre (s.extract 0 n) s := by
  refine ⟨(bytesOf s).drop n, ?_⟩
  rw [bytesOf_extract]
  simp

theorem run_empty (F : Nat) (s : ByteArray) (m : Nat) (hs : s.size = 0) : runU (F + 1) s m = ⟨0, [], 3⟩ := by
  unfold runU
  rw [unpackU]
  simp [UM.bind, blockU, takeU, st0, hs, errU, UM.ret]

end Go.Proofs.Ytcdoamaljgjojaa
