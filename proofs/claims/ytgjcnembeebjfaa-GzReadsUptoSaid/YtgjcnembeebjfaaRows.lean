/-
  No cell of these rows narrows 'for every input' (looked for: loops, veiled, ifaces, maps, wideKeys, modest, calm, conditions, laid).
  DERIVED. THE GIVEN ROWS OF THIS SEAT. 6 by the template 'for every input the law returns true; each argument reads behind the call as it read before'; 0 by the template 'total and deterministic' (their statements: YtgjcnembeebjfaaTotals.lean).
  GIVEN WITH THE SEED: the statements are not yours to turn. If you find one false, say at which input.
  Laid BY PROGRAM, IN A SANDBOX (cutbox-rows.mjs): the forced cells as the released guide's own fill.sh prints them over the translation aa88eb59ac1d105b… (all of the seat's roots in one cut). By AI agents, Wed Nov 11 2026. No macro, syntax, notation, axiom, sorry.
-/
import Derived.Test.YtgjcnembeebjfaaChecked
import GoSem.Claim
import GoSem.ClaimJoined
import GoSem.ClaimMapViews
import Derived.JoinedTies
import Derived.KernelRfl
namespace Go.Proofs.Ytgjcnembeebjfaa
/- THE CELL 'sum', in the pinned program and in every row, IS THE sha256 OF THE DUMP (.gsa) THAT YtgjcnembeebjfaaProg.lean LOADS. Nothing in Lean hashes anything: it is a label: what it is worth is what the hold of that sum in a sandbox is worth. -/
noncomputable def Try.pinned : Pinned := { name := "ytgjcnembeebjfaa", sum := "aa88eb59ac1d105bc042c0f54ee2167b5853667f1170b6c3c51ab2930cdd25a2", checked := Try.checked }
namespace Rows
def none {H : Type} : Left H := { results := [], args := [] }

/-- 'ferretlaw05.GzReads': WHATEVER THE INPUT: true; the input reads as it did. -/
def gzReadsSpec : ChangeSpec := { name := "gzReads", fn := fun _ => fun
  | [d1, d2] => { results := [.lit (.bool true)], args := [d1, d2] }
  | _ => none }
def gzReadsRow : OpenClaim := { program := "ytgjcnembeebjfaa", sum := "aa88eb59ac1d105bc042c0f54ee2167b5853667f1170b6c3c51ab2930cdd25a2", func := "ferret/ferretlaw05.GzReads", spec := "gzReads", inPlace := ["internal/bytealg.IndexByteString"], apart := false }
def GzReadsSaid : Prop := gzReadsRow.holds Try.pinned (OpenSpec.ofChange gzReadsSpec)

/-- ITS FALSE NEIGHBOUR: 'it returns false'. Refute it at one input. -/
def gzReadsWrong : ChangeSpec := { name := "gzReads", fn := fun _ => fun
  | [d1, d2] => { results := [.lit (.bool false)], args := [d1, d2] }
  | _ => none }
def GzReadsWrongFalsely : Prop := gzReadsRow.holds Try.pinned (OpenSpec.ofChange gzReadsWrong)

/-- 'ferretlaw05.GzJoined': WHATEVER THE INPUT: true; the input reads as it did. -/
def gzJoinedSpec : ChangeSpec := { name := "gzJoined", fn := fun _ => fun
  | [d1, d2] => { results := [.lit (.bool true)], args := [d1, d2] }
  | _ => none }
def gzJoinedRow : OpenClaim := { program := "ytgjcnembeebjfaa", sum := "aa88eb59ac1d105bc042c0f54ee2167b5853667f1170b6c3c51ab2930cdd25a2", func := "ferret/ferretlaw05.GzJoined", spec := "gzJoined", inPlace := ["internal/bytealg.IndexByteString"], apart := false }
def GzJoinedSaid : Prop := gzJoinedRow.holds Try.pinned (OpenSpec.ofChange gzJoinedSpec)

/-- ITS FALSE NEIGHBOUR: 'it returns false'. Refute it at one input. -/
def gzJoinedWrong : ChangeSpec := { name := "gzJoined", fn := fun _ => fun
  | [d1, d2] => { results := [.lit (.bool false)], args := [d1, d2] }
  | _ => none }
def GzJoinedWrongFalsely : Prop := gzJoinedRow.holds Try.pinned (OpenSpec.ofChange gzJoinedWrong)

/-- 'ferretlaw05.GzWrites': WHATEVER THE INPUT: true; the input reads as it did. -/
def gzWritesSpec : ChangeSpec := { name := "gzWrites", fn := fun _ => fun
  | [d1, d2] => { results := [.lit (.bool true)], args := [d1, d2] }
  | _ => none }
def gzWritesRow : OpenClaim := { program := "ytgjcnembeebjfaa", sum := "aa88eb59ac1d105bc042c0f54ee2167b5853667f1170b6c3c51ab2930cdd25a2", func := "ferret/ferretlaw05.GzWrites", spec := "gzWrites", inPlace := ["internal/bytealg.IndexByteString", "internal/abi.NoEscape"], unfollowed := true, recurses := true, apart := false }
def GzWritesSaid : Prop := gzWritesRow.holds Try.pinned (OpenSpec.ofChange gzWritesSpec)

/-- ITS FALSE NEIGHBOUR: 'it returns false'. Refute it at one input. -/
def gzWritesWrong : ChangeSpec := { name := "gzWrites", fn := fun _ => fun
  | [d1, d2] => { results := [.lit (.bool false)], args := [d1, d2] }
  | _ => none }
def GzWritesWrongFalsely : Prop := gzWritesRow.holds Try.pinned (OpenSpec.ofChange gzWritesWrong)

/-- 'ferretlaw05.GzTurned': WHATEVER THE INPUT: true; the input reads as it did. -/
def gzTurnedSpec : ChangeSpec := { name := "gzTurned", fn := fun _ => fun
  | [d1, d2] => { results := [.lit (.bool true)], args := [d1, d2] }
  | _ => none }
def gzTurnedRow : OpenClaim := { program := "ytgjcnembeebjfaa", sum := "aa88eb59ac1d105bc042c0f54ee2167b5853667f1170b6c3c51ab2930cdd25a2", func := "ferret/ferretlaw05.GzTurned", spec := "gzTurned", inPlace := ["internal/bytealg.IndexByteString", "internal/abi.NoEscape"], unfollowed := true, recurses := true, apart := false }
def GzTurnedSaid : Prop := gzTurnedRow.holds Try.pinned (OpenSpec.ofChange gzTurnedSpec)

/-- ITS FALSE NEIGHBOUR: 'it returns false'. Refute it at one input. -/
def gzTurnedWrong : ChangeSpec := { name := "gzTurned", fn := fun _ => fun
  | [d1, d2] => { results := [.lit (.bool false)], args := [d1, d2] }
  | _ => none }
def GzTurnedWrongFalsely : Prop := gzTurnedRow.holds Try.pinned (OpenSpec.ofChange gzTurnedWrong)

/-- 'ferretlaw05.GzBounds': WHATEVER THE INPUT: true; the input reads as it did. -/
def gzBoundsSpec : ChangeSpec := { name := "gzBounds", fn := fun _ => fun
  | [d] => { results := [.lit (.bool true)], args := [d] }
  | _ => none }
def gzBoundsRow : OpenClaim := { program := "ytgjcnembeebjfaa", sum := "aa88eb59ac1d105bc042c0f54ee2167b5853667f1170b6c3c51ab2930cdd25a2", func := "ferret/ferretlaw05.GzBounds", spec := "gzBounds", inPlace := ["internal/bytealg.IndexByteString", "internal/abi.NoEscape"], unfollowed := true, recurses := true, apart := false }
def GzBoundsSaid : Prop := gzBoundsRow.holds Try.pinned (OpenSpec.ofChange gzBoundsSpec)

/-- ITS FALSE NEIGHBOUR: 'it returns false'. Refute it at one input. -/
def gzBoundsWrong : ChangeSpec := { name := "gzBounds", fn := fun _ => fun
  | [d] => { results := [.lit (.bool false)], args := [d] }
  | _ => none }
def GzBoundsWrongFalsely : Prop := gzBoundsRow.holds Try.pinned (OpenSpec.ofChange gzBoundsWrong)

/-- 'ferretlaw05.GzMagic': WHATEVER THE INPUT: true; the input reads as it did. -/
def gzMagicSpec : ChangeSpec := { name := "gzMagic", fn := fun _ => fun
  | [d] => { results := [.lit (.bool true)], args := [d] }
  | _ => none }
def gzMagicRow : OpenClaim := { program := "ytgjcnembeebjfaa", sum := "aa88eb59ac1d105bc042c0f54ee2167b5853667f1170b6c3c51ab2930cdd25a2", func := "ferret/ferretlaw05.GzMagic", spec := "gzMagic", inPlace := ["internal/bytealg.IndexByteString", "internal/abi.NoEscape"], unfollowed := true, recurses := true, apart := false }
def GzMagicSaid : Prop := gzMagicRow.holds Try.pinned (OpenSpec.ofChange gzMagicSpec)

/-- ITS FALSE NEIGHBOUR: 'it returns false'. Refute it at one input. -/
def gzMagicWrong : ChangeSpec := { name := "gzMagic", fn := fun _ => fun
  | [d] => { results := [.lit (.bool false)], args := [d] }
  | _ => none }
def GzMagicWrongFalsely : Prop := gzMagicRow.holds Try.pinned (OpenSpec.ofChange gzMagicWrong)

/- THE SECOND FORM. 'bulk': how many values and letters a reading holds, each counted each time it is reached (what is shared counts as often as it is met; a slice's spare places count too). A statement '..UptoSaid' is the law's where the arguments, and the package variables that the reading takes, are together of bulk at most 1048576: NARROWER than '..Said'. Prove '..Said' where nothing that the law and all that it calls make is longer than what came in: it says more and counts as full. Else prove '..UptoSaid'. A law counts once. -/
mutual
def uptoBulk {H : Type} : DataW H → Nat
  | .lit (.string bytes) => bytes.length + 1
  | .lit _ => 1
  | .nil => 1
  | .ptr d => uptoBulk d + 1
  | .slice elems spare => uptoBulkAll elems + uptoBulkAll spare + 1
  | .agg parts => uptoBulkAll parts + 1
  | .iface _ d => uptoBulk d + 1
  | .map entries => uptoBulkEntries entries + 1
  | .held _ => 1
def uptoBulkAll {H : Type} : List (DataW H) → Nat
  | [] => 0
  | d :: r => uptoBulk d + uptoBulkAll r
def uptoBulkEntries {H : Type} : List (Lit × DataW H) → Nat
  | [] => 0
  | x :: r => uptoBulkEntry x + uptoBulkEntries r
def uptoBulkEntry {H : Type} : Lit × DataW H → Nat
  | (.string bytes, d) => bytes.length + uptoBulk d + 1
  | (_, d) => uptoBulk d + 1
 end
def uptoSmall : (H : Type) → List (DataW H) → Bool := fun _ ds => decide (uptoBulkAll ds ≤ 1048576)
def OpenSpec.upto (s : _root_.Go.ChangeSpec) : _root_.Go.OpenSpec := { _root_.Go.OpenSpec.ofChange s with cond := some uptoSmall }

/-- 'ferretlaw05.GzReads', WHERE WHAT IT READS IS OF BULK AT MOST 1048576: true; the input reads as it did. -/
def gzReadsUptoRow : OpenClaim := { program := "ytgjcnembeebjfaa", sum := "aa88eb59ac1d105bc042c0f54ee2167b5853667f1170b6c3c51ab2930cdd25a2", func := "ferret/ferretlaw05.GzReads", spec := "gzReads", inPlace := ["internal/bytealg.IndexByteString"], apart := false, narrowed := true }
def GzReadsUptoSaid : Prop := gzReadsUptoRow.holds Try.pinned (OpenSpec.upto gzReadsSpec)

/-- 'ferretlaw05.GzJoined', WHERE WHAT IT READS IS OF BULK AT MOST 1048576: true; the input reads as it did. -/
def gzJoinedUptoRow : OpenClaim := { program := "ytgjcnembeebjfaa", sum := "aa88eb59ac1d105bc042c0f54ee2167b5853667f1170b6c3c51ab2930cdd25a2", func := "ferret/ferretlaw05.GzJoined", spec := "gzJoined", inPlace := ["internal/bytealg.IndexByteString"], apart := false, narrowed := true }
def GzJoinedUptoSaid : Prop := gzJoinedUptoRow.holds Try.pinned (OpenSpec.upto gzJoinedSpec)

/-- 'ferretlaw05.GzWrites', WHERE WHAT IT READS IS OF BULK AT MOST 1048576: true; the input reads as it did. -/
def gzWritesUptoRow : OpenClaim := { program := "ytgjcnembeebjfaa", sum := "aa88eb59ac1d105bc042c0f54ee2167b5853667f1170b6c3c51ab2930cdd25a2", func := "ferret/ferretlaw05.GzWrites", spec := "gzWrites", inPlace := ["internal/bytealg.IndexByteString", "internal/abi.NoEscape"], unfollowed := true, recurses := true, apart := false, narrowed := true }
def GzWritesUptoSaid : Prop := gzWritesUptoRow.holds Try.pinned (OpenSpec.upto gzWritesSpec)

/-- 'ferretlaw05.GzTurned', WHERE WHAT IT READS IS OF BULK AT MOST 1048576: true; the input reads as it did. -/
def gzTurnedUptoRow : OpenClaim := { program := "ytgjcnembeebjfaa", sum := "aa88eb59ac1d105bc042c0f54ee2167b5853667f1170b6c3c51ab2930cdd25a2", func := "ferret/ferretlaw05.GzTurned", spec := "gzTurned", inPlace := ["internal/bytealg.IndexByteString", "internal/abi.NoEscape"], unfollowed := true, recurses := true, apart := false, narrowed := true }
def GzTurnedUptoSaid : Prop := gzTurnedUptoRow.holds Try.pinned (OpenSpec.upto gzTurnedSpec)

/-- 'ferretlaw05.GzBounds', WHERE WHAT IT READS IS OF BULK AT MOST 1048576: true; the input reads as it did. -/
def gzBoundsUptoRow : OpenClaim := { program := "ytgjcnembeebjfaa", sum := "aa88eb59ac1d105bc042c0f54ee2167b5853667f1170b6c3c51ab2930cdd25a2", func := "ferret/ferretlaw05.GzBounds", spec := "gzBounds", inPlace := ["internal/bytealg.IndexByteString", "internal/abi.NoEscape"], unfollowed := true, recurses := true, apart := false, narrowed := true }
def GzBoundsUptoSaid : Prop := gzBoundsUptoRow.holds Try.pinned (OpenSpec.upto gzBoundsSpec)

/-- 'ferretlaw05.GzMagic', WHERE WHAT IT READS IS OF BULK AT MOST 1048576: true; the input reads as it did. -/
def gzMagicUptoRow : OpenClaim := { program := "ytgjcnembeebjfaa", sum := "aa88eb59ac1d105bc042c0f54ee2167b5853667f1170b6c3c51ab2930cdd25a2", func := "ferret/ferretlaw05.GzMagic", spec := "gzMagic", inPlace := ["internal/bytealg.IndexByteString", "internal/abi.NoEscape"], unfollowed := true, recurses := true, apart := false, narrowed := true }
def GzMagicUptoSaid : Prop := gzMagicUptoRow.holds Try.pinned (OpenSpec.upto gzMagicSpec)

end Rows
end Go.Proofs.Ytgjcnembeebjfaa
