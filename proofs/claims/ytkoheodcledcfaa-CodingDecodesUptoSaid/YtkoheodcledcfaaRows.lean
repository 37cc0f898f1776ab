/-
  No cell of these rows narrows 'for every input' (looked for: loops, veiled, ifaces, maps, wideKeys, modest, calm, conditions, laid).
  DERIVED. THE GIVEN ROWS OF THIS SEAT. 7 by the template 'for every input the law returns true; each argument reads behind the call as it read before'; 0 by the template 'total and deterministic' (their statements: YtkoheodcledcfaaTotals.lean).
  GIVEN WITH THE SEED: the statements are not yours to turn. If you find one false, say at which input.
  Laid BY PROGRAM, IN A SANDBOX (cutbox-rows.mjs): the forced cells as the released guide's own fill.sh prints them over the translation 1fa7f22597bbbac1… (all of the seat's roots in one cut). By AI agents, Wed Nov 11 2026. No macro, syntax, notation, axiom, sorry.
-/
import Derived.Test.YtkoheodcledcfaaChecked
import GoSem.Claim
import GoSem.ClaimJoined
import GoSem.ClaimMapViews
import Derived.JoinedTies
import Derived.KernelRfl
namespace Go.Proofs.Ytkoheodcledcfaa
/- THE CELL 'sum', in the pinned program and in every row, IS THE sha256 OF THE DUMP (.gsa) THAT YtkoheodcledcfaaProg.lean LOADS. Nothing in Lean hashes anything: it is a label: what it is worth is what the hold of that sum in a sandbox is worth. -/
noncomputable def Try.pinned : Pinned := { name := "ytkoheodcledcfaa", sum := "1fa7f22597bbbac147f5ece8ac7886033d160f2071d2582c92171f8e4be36f91", checked := Try.checked }
namespace Rows
def none {H : Type} : Left H := { results := [], args := [] }

/-- 'ferretlaw07.CodingDecodes': WHATEVER THE INPUT: true; the input reads as it did. -/
def codingDecodesSpec : ChangeSpec := { name := "codingDecodes", fn := fun _ => fun
  | [d1, d2, d3] => { results := [.lit (.bool true)], args := [d1, d2, d3] }
  | _ => none }
def codingDecodesRow : OpenClaim := { program := "ytkoheodcledcfaa", sum := "1fa7f22597bbbac147f5ece8ac7886033d160f2071d2582c92171f8e4be36f91", func := "ferret/ferretlaw07.CodingDecodes", spec := "codingDecodes", unfollowed := true, recurses := true, apart := false }
def CodingDecodesSaid : Prop := codingDecodesRow.holds Try.pinned (OpenSpec.ofChange codingDecodesSpec)

/-- ITS FALSE NEIGHBOUR: 'it returns false'. Refute it at one input. -/
def codingDecodesWrong : ChangeSpec := { name := "codingDecodes", fn := fun _ => fun
  | [d1, d2, d3] => { results := [.lit (.bool false)], args := [d1, d2, d3] }
  | _ => none }
def CodingDecodesWrongFalsely : Prop := codingDecodesRow.holds Try.pinned (OpenSpec.ofChange codingDecodesWrong)

/-- 'ferretlaw07.CodingEncodes': WHATEVER THE INPUT: true; the input reads as it did. -/
def codingEncodesSpec : ChangeSpec := { name := "codingEncodes", fn := fun _ => fun
  | [d1, d2, d3] => { results := [.lit (.bool true)], args := [d1, d2, d3] }
  | _ => none }
def codingEncodesRow : OpenClaim := { program := "ytkoheodcledcfaa", sum := "1fa7f22597bbbac147f5ece8ac7886033d160f2071d2582c92171f8e4be36f91", func := "ferret/ferretlaw07.CodingEncodes", spec := "codingEncodes", unfollowed := true, recurses := true, apart := false }
def CodingEncodesSaid : Prop := codingEncodesRow.holds Try.pinned (OpenSpec.ofChange codingEncodesSpec)

/-- ITS FALSE NEIGHBOUR: 'it returns false'. Refute it at one input. -/
def codingEncodesWrong : ChangeSpec := { name := "codingEncodes", fn := fun _ => fun
  | [d1, d2, d3] => { results := [.lit (.bool false)], args := [d1, d2, d3] }
  | _ => none }
def CodingEncodesWrongFalsely : Prop := codingEncodesRow.holds Try.pinned (OpenSpec.ofChange codingEncodesWrong)

/-- 'ferretlaw07.CodingPlaces': WHATEVER THE INPUT: true; the input reads as it did. -/
def codingPlacesSpec : ChangeSpec := { name := "codingPlaces", fn := fun _ => fun
  | [d1, d2] => { results := [.lit (.bool true)], args := [d1, d2] }
  | _ => none }
def codingPlacesRow : OpenClaim := { program := "ytkoheodcledcfaa", sum := "1fa7f22597bbbac147f5ece8ac7886033d160f2071d2582c92171f8e4be36f91", func := "ferret/ferretlaw07.CodingPlaces", spec := "codingPlaces", unfollowed := true, recurses := true, apart := false }
def CodingPlacesSaid : Prop := codingPlacesRow.holds Try.pinned (OpenSpec.ofChange codingPlacesSpec)

/-- ITS FALSE NEIGHBOUR: 'it returns false'. Refute it at one input. -/
def codingPlacesWrong : ChangeSpec := { name := "codingPlaces", fn := fun _ => fun
  | [d1, d2] => { results := [.lit (.bool false)], args := [d1, d2] }
  | _ => none }
def CodingPlacesWrongFalsely : Prop := codingPlacesRow.holds Try.pinned (OpenSpec.ofChange codingPlacesWrong)

/-- 'ferretlaw07.CodingAlike': WHATEVER THE INPUT: true; the input reads as it did. -/
def codingAlikeSpec : ChangeSpec := { name := "codingAlike", fn := fun _ => fun
  | [d] => { results := [.lit (.bool true)], args := [d] }
  | _ => none }
def codingAlikeRow : OpenClaim := { program := "ytkoheodcledcfaa", sum := "1fa7f22597bbbac147f5ece8ac7886033d160f2071d2582c92171f8e4be36f91", func := "ferret/ferretlaw07.CodingAlike", spec := "codingAlike", unfollowed := true, recurses := true, apart := false }
def CodingAlikeSaid : Prop := codingAlikeRow.holds Try.pinned (OpenSpec.ofChange codingAlikeSpec)

/-- ITS FALSE NEIGHBOUR: 'it returns false'. Refute it at one input. -/
def codingAlikeWrong : ChangeSpec := { name := "codingAlike", fn := fun _ => fun
  | [d] => { results := [.lit (.bool false)], args := [d] }
  | _ => none }
def CodingAlikeWrongFalsely : Prop := codingAlikeRow.holds Try.pinned (OpenSpec.ofChange codingAlikeWrong)

/-- 'ferretlaw07.CodingBytes': WHATEVER THE INPUT: true; the input reads as it did. -/
def codingBytesSpec : ChangeSpec := { name := "codingBytes", fn := fun _ => fun
  | [d1, d2] => { results := [.lit (.bool true)], args := [d1, d2] }
  | _ => none }
def codingBytesRow : OpenClaim := { program := "ytkoheodcledcfaa", sum := "1fa7f22597bbbac147f5ece8ac7886033d160f2071d2582c92171f8e4be36f91", func := "ferret/ferretlaw07.CodingBytes", spec := "codingBytes", unfollowed := true, recurses := true, apart := false }
def CodingBytesSaid : Prop := codingBytesRow.holds Try.pinned (OpenSpec.ofChange codingBytesSpec)

/-- ITS FALSE NEIGHBOUR: 'it returns false'. Refute it at one input. -/
def codingBytesWrong : ChangeSpec := { name := "codingBytes", fn := fun _ => fun
  | [d1, d2] => { results := [.lit (.bool false)], args := [d1, d2] }
  | _ => none }
def CodingBytesWrongFalsely : Prop := codingBytesRow.holds Try.pinned (OpenSpec.ofChange codingBytesWrong)

/-- 'ferretlaw07.CodingJoined': WHATEVER THE INPUT: true; the input reads as it did. -/
def codingJoinedSpec : ChangeSpec := { name := "codingJoined", fn := fun _ => fun
  | [d1, d2, d3] => { results := [.lit (.bool true)], args := [d1, d2, d3] }
  | _ => none }
def codingJoinedRow : OpenClaim := { program := "ytkoheodcledcfaa", sum := "1fa7f22597bbbac147f5ece8ac7886033d160f2071d2582c92171f8e4be36f91", func := "ferret/ferretlaw07.CodingJoined", spec := "codingJoined", unfollowed := true, recurses := true, apart := false }
def CodingJoinedSaid : Prop := codingJoinedRow.holds Try.pinned (OpenSpec.ofChange codingJoinedSpec)

/-- ITS FALSE NEIGHBOUR: 'it returns false'. Refute it at one input. -/
def codingJoinedWrong : ChangeSpec := { name := "codingJoined", fn := fun _ => fun
  | [d1, d2, d3] => { results := [.lit (.bool false)], args := [d1, d2, d3] }
  | _ => none }
def CodingJoinedWrongFalsely : Prop := codingJoinedRow.holds Try.pinned (OpenSpec.ofChange codingJoinedWrong)

/-- 'ferrettop.TopScalars': WHATEVER THE INPUT: true; the input reads as it did. -/
def topScalarsSpec : ChangeSpec := { name := "topScalars", fn := fun _ => fun
  | [d1, d2, d3] => { results := [.lit (.bool true)], args := [d1, d2, d3] }
  | _ => none }
def topScalarsRow : OpenClaim := { program := "ytkoheodcledcfaa", sum := "1fa7f22597bbbac147f5ece8ac7886033d160f2071d2582c92171f8e4be36f91", func := "ferret/ferrettop.TopScalars", spec := "topScalars", inPlace := ["internal/reflectlite.ValueOf", "internal/reflectlite.Swapper", "(internal/reflectlite.Value).Len"], unfollowed := true, recurses := true, apart := false }
def TopScalarsSaid : Prop := topScalarsRow.holds Try.pinned (OpenSpec.ofChange topScalarsSpec)

/-- ITS FALSE NEIGHBOUR: 'it returns false'. Refute it at one input. -/
def topScalarsWrong : ChangeSpec := { name := "topScalars", fn := fun _ => fun
  | [d1, d2, d3] => { results := [.lit (.bool false)], args := [d1, d2, d3] }
  | _ => none }
def TopScalarsWrongFalsely : Prop := topScalarsRow.holds Try.pinned (OpenSpec.ofChange topScalarsWrong)

/- THE SECOND FORM. 'bulk': how many values and letters a reading holds, each counted each time it is reached (what is shared counts as often as it is met; a slice's spare places count too). A statement '..UptoSaid' is the law's where the arguments, and the package variables that the reading takes, are together of bulk at most 1048576: NARROWER than '..Said'. Prove '..Said' where nothing that the law and all that it calls make is longer than what came in: it says more and counts as full. Else prove '..UptoSaid'. A law counts once. -/
mutual
def uptoBulk {H : Type} : DataW H → Nat
  | .lit (.string bytes) => bytes.length + 1
  | .lit _ => 1
  | .nil => 1
  | .ptr d => uptoBulk d + 1
  | .slice elems spare => uptoBulkAll elems + uptoBulkAll spare + 1
  | .agg parts => uptoBulkAll parts + 1
  | .iface _ d => uptoBulk d + 1
  | .map entries => uptoBulkEntries entries + 1
  | .held _ => 1
def uptoBulkAll {H : Type} : List (DataW H) → Nat
  | [] => 0
  | d :: r => uptoBulk d + uptoBulkAll r
def uptoBulkEntries {H : Type} : List (Lit × DataW H) → Nat
  | [] => 0
  | x :: r => uptoBulkEntry x + uptoBulkEntries r
def uptoBulkEntry {H : Type} : Lit × DataW H → Nat
  | (.string bytes, d) => bytes.length + uptoBulk d + 1
  | (_, d) => uptoBulk d + 1
 end
def uptoSmall : (H : Type) → List (DataW H) → Bool := fun _ ds => decide (uptoBulkAll ds ≤ 1048576)
def OpenSpec.upto (s : _root_.Go.ChangeSpec) : _root_.Go.OpenSpec := { _root_.Go.OpenSpec.ofChange s with cond := some uptoSmall }

/-- 'ferretlaw07.CodingDecodes', WHERE WHAT IT READS IS OF BULK AT MOST 1048576: true; the input reads as it did. -/
def codingDecodesUptoRow : OpenClaim := { program := "ytkoheodcledcfaa", sum := "1fa7f22597bbbac147f5ece8ac7886033d160f2071d2582c92171f8e4be36f91", func := "ferret/ferretlaw07.CodingDecodes", spec := "codingDecodes", unfollowed := true, recurses := true, apart := false, narrowed := true }
def CodingDecodesUptoSaid : Prop := codingDecodesUptoRow.holds Try.pinned (OpenSpec.upto codingDecodesSpec)

/-- 'ferretlaw07.CodingEncodes', WHERE WHAT IT READS IS OF BULK AT MOST 1048576: true; the input reads as it did. -/
def codingEncodesUptoRow : OpenClaim := { program := "ytkoheodcledcfaa", sum := "1fa7f22597bbbac147f5ece8ac7886033d160f2071d2582c92171f8e4be36f91", func := "ferret/ferretlaw07.CodingEncodes", spec := "codingEncodes", unfollowed := true, recurses := true, apart := false, narrowed := true }
def CodingEncodesUptoSaid : Prop := codingEncodesUptoRow.holds Try.pinned (OpenSpec.upto codingEncodesSpec)

/-- 'ferretlaw07.CodingPlaces', WHERE WHAT IT READS IS OF BULK AT MOST 1048576: true; the input reads as it did. -/
def codingPlacesUptoRow : OpenClaim := { program := "ytkoheodcledcfaa", sum := "1fa7f22597bbbac147f5ece8ac7886033d160f2071d2582c92171f8e4be36f91", func := "ferret/ferretlaw07.CodingPlaces", spec := "codingPlaces", unfollowed := true, recurses := true, apart := false, narrowed := true }
def CodingPlacesUptoSaid : Prop := codingPlacesUptoRow.holds Try.pinned (OpenSpec.upto codingPlacesSpec)

/-- 'ferretlaw07.CodingAlike', WHERE WHAT IT READS IS OF BULK AT MOST 1048576: true; the input reads as it did. -/
def codingAlikeUptoRow : OpenClaim := { program := "ytkoheodcledcfaa", sum := "1fa7f22597bbbac147f5ece8ac7886033d160f2071d2582c92171f8e4be36f91", func := "ferret/ferretlaw07.CodingAlike", spec := "codingAlike", unfollowed := true, recurses := true, apart := false, narrowed := true }
def CodingAlikeUptoSaid : Prop := codingAlikeUptoRow.holds Try.pinned (OpenSpec.upto codingAlikeSpec)

/-- 'ferretlaw07.CodingBytes', WHERE WHAT IT READS IS OF BULK AT MOST 1048576: true; the input reads as it did. -/
def codingBytesUptoRow : OpenClaim := { program := "ytkoheodcledcfaa", sum := "1fa7f22597bbbac147f5ece8ac7886033d160f2071d2582c92171f8e4be36f91", func := "ferret/ferretlaw07.CodingBytes", spec := "codingBytes", unfollowed := true, recurses := true, apart := false, narrowed := true }
def CodingBytesUptoSaid : Prop := codingBytesUptoRow.holds Try.pinned (OpenSpec.upto codingBytesSpec)

/-- 'ferretlaw07.CodingJoined', WHERE WHAT IT READS IS OF BULK AT MOST 1048576: true; the input reads as it did. -/
def codingJoinedUptoRow : OpenClaim := { program := "ytkoheodcledcfaa", sum := "1fa7f22597bbbac147f5ece8ac7886033d160f2071d2582c92171f8e4be36f91", func := "ferret/ferretlaw07.CodingJoined", spec := "codingJoined", unfollowed := true, recurses := true, apart := false, narrowed := true }
def CodingJoinedUptoSaid : Prop := codingJoinedUptoRow.holds Try.pinned (OpenSpec.upto codingJoinedSpec)

/-- 'ferrettop.TopScalars', WHERE WHAT IT READS IS OF BULK AT MOST 1048576: true; the input reads as it did. -/
def topScalarsUptoRow : OpenClaim := { program := "ytkoheodcledcfaa", sum := "1fa7f22597bbbac147f5ece8ac7886033d160f2071d2582c92171f8e4be36f91", func := "ferret/ferrettop.TopScalars", spec := "topScalars", inPlace := ["internal/reflectlite.ValueOf", "internal/reflectlite.Swapper", "(internal/reflectlite.Value).Len"], unfollowed := true, recurses := true, apart := false, narrowed := true }
def TopScalarsUptoSaid : Prop := topScalarsUptoRow.holds Try.pinned (OpenSpec.upto topScalarsSpec)

end Rows
end Go.Proofs.Ytkoheodcledcfaa
