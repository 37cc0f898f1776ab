/-
  No cell of these rows narrows 'for every input' (looked for: loops, veiled, ifaces, maps, wideKeys, modest, calm, conditions, laid).
  DERIVED. THE GIVEN ROWS OF THIS SEAT. 4 by the template 'for every input the law returns true; each argument reads behind the call as it read before'; 0 by the template 'total and deterministic' (their statements: YthnljhcncpiemaaTotals.lean).
  GIVEN WITH THE SEED: the statements are not yours to turn. If you find one false, say at which input.
  Laid BY PROGRAM, IN A SANDBOX (cutbox-rows.mjs): the forced cells as the released guide's own fill.sh prints them over the translation e04526e0ecc377ab… (all of the seat's roots in one cut). By AI agents, Wed Nov 11 2026. No macro, syntax, notation, axiom, sorry.
-/
import Derived.Test.YthnljhcncpiemaaChecked
import GoSem.Claim
import GoSem.ClaimJoined
import GoSem.ClaimMapViews
import Derived.JoinedTies
import Derived.KernelRfl
namespace Go.Proofs.Ythnljhcncpiemaa
/- THE CELL 'sum', in the pinned program and in every row, IS THE sha256 OF THE DUMP (.gsa) THAT YthnljhcncpiemaaProg.lean LOADS. Nothing in Lean hashes anything: it is a label: what it is worth is what the hold of that sum in a sandbox is worth. -/
noncomputable def Try.pinned : Pinned := { name := "ythnljhcncpiemaa", sum := "e04526e0ecc377ab6e16e655aadeb8ccaf8294bd59d9821578b80f7e6a42735c", checked := Try.checked }
namespace Rows
def none {H : Type} : Left H := { results := [], args := [] }

/-- 'ferretlaw20.LinesSplit': WHATEVER THE INPUT: true; the input reads as it did. -/
def linesSplitSpec : ChangeSpec := { name := "linesSplit", fn := fun _ => fun
  | [d1, d2] => { results := [.lit (.bool true)], args := [d1, d2] }
  | _ => none }
def linesSplitRow : OpenClaim := { program := "ythnljhcncpiemaa", sum := "e04526e0ecc377ab6e16e655aadeb8ccaf8294bd59d9821578b80f7e6a42735c", func := "ferret/ferretlaw20.LinesSplit", spec := "linesSplit", inPlace := ["internal/bytealg.IndexByteString"], unfollowed := true, recurses := true, apart := false }
def LinesSplitSaid : Prop := linesSplitRow.holds Try.pinned (OpenSpec.ofChange linesSplitSpec)

/-- ITS FALSE NEIGHBOUR: 'it returns false'. Refute it at one input. -/
def linesSplitWrong : ChangeSpec := { name := "linesSplit", fn := fun _ => fun
  | [d1, d2] => { results := [.lit (.bool false)], args := [d1, d2] }
  | _ => none }
def LinesSplitWrongFalsely : Prop := linesSplitRow.holds Try.pinned (OpenSpec.ofChange linesSplitWrong)

/-- 'ferretlaw20.LinesAll': WHATEVER THE INPUT: true; the input reads as it did. -/
def linesAllSpec : ChangeSpec := { name := "linesAll", fn := fun _ => fun
  | [d1, d2] => { results := [.lit (.bool true)], args := [d1, d2] }
  | _ => none }
def linesAllRow : OpenClaim := { program := "ythnljhcncpiemaa", sum := "e04526e0ecc377ab6e16e655aadeb8ccaf8294bd59d9821578b80f7e6a42735c", func := "ferret/ferretlaw20.LinesAll", spec := "linesAll", inPlace := ["internal/bytealg.IndexByteString"], unfollowed := true, recurses := true, apart := false }
def LinesAllSaid : Prop := linesAllRow.holds Try.pinned (OpenSpec.ofChange linesAllSpec)

/-- ITS FALSE NEIGHBOUR: 'it returns false'. Refute it at one input. -/
def linesAllWrong : ChangeSpec := { name := "linesAll", fn := fun _ => fun
  | [d1, d2] => { results := [.lit (.bool false)], args := [d1, d2] }
  | _ => none }
def LinesAllWrongFalsely : Prop := linesAllRow.holds Try.pinned (OpenSpec.ofChange linesAllWrong)

/-- 'ferretlaw20.LinesBack': WHATEVER THE INPUT: true; the input reads as it did. -/
def linesBackSpec : ChangeSpec := { name := "linesBack", fn := fun _ => fun
  | [d] => { results := [.lit (.bool true)], args := [d] }
  | _ => none }
def linesBackRow : OpenClaim := { program := "ythnljhcncpiemaa", sum := "e04526e0ecc377ab6e16e655aadeb8ccaf8294bd59d9821578b80f7e6a42735c", func := "ferret/ferretlaw20.LinesBack", spec := "linesBack", inPlace := ["internal/bytealg.IndexByteString"], unfollowed := true, recurses := true, apart := false }
def LinesBackSaid : Prop := linesBackRow.holds Try.pinned (OpenSpec.ofChange linesBackSpec)

/-- ITS FALSE NEIGHBOUR: 'it returns false'. Refute it at one input. -/
def linesBackWrong : ChangeSpec := { name := "linesBack", fn := fun _ => fun
  | [d] => { results := [.lit (.bool false)], args := [d] }
  | _ => none }
def LinesBackWrongFalsely : Prop := linesBackRow.holds Try.pinned (OpenSpec.ofChange linesBackWrong)

/-- 'ferretlaw20.LinesPlaces': WHATEVER THE INPUT: true; the input reads as it did. -/
def linesPlacesSpec : ChangeSpec := { name := "linesPlaces", fn := fun _ => fun
  | [d] => { results := [.lit (.bool true)], args := [d] }
  | _ => none }
def linesPlacesRow : OpenClaim := { program := "ythnljhcncpiemaa", sum := "e04526e0ecc377ab6e16e655aadeb8ccaf8294bd59d9821578b80f7e6a42735c", func := "ferret/ferretlaw20.LinesPlaces", spec := "linesPlaces", inPlace := ["internal/bytealg.IndexByteString"], unfollowed := true, recurses := true, apart := false }
def LinesPlacesSaid : Prop := linesPlacesRow.holds Try.pinned (OpenSpec.ofChange linesPlacesSpec)

/-- ITS FALSE NEIGHBOUR: 'it returns false'. Refute it at one input. -/
def linesPlacesWrong : ChangeSpec := { name := "linesPlaces", fn := fun _ => fun
  | [d] => { results := [.lit (.bool false)], args := [d] }
  | _ => none }
def LinesPlacesWrongFalsely : Prop := linesPlacesRow.holds Try.pinned (OpenSpec.ofChange linesPlacesWrong)

/- THE SECOND FORM. 'bulk': how many values and letters a reading holds, each counted each time it is reached (what is shared counts as often as it is met; a slice's spare places count too). A statement '..UptoSaid' is the law's where the arguments, and the package variables that the reading takes, are together of bulk at most 1048576: NARROWER than '..Said'. Prove '..Said' where nothing that the law and all that it calls make is longer than what came in: it says more and counts as full. Else prove '..UptoSaid'. A law counts once. -/
mutual
def uptoBulk {H : Type} : DataW H → Nat
  | .lit (.string bytes) => bytes.length + 1
  | .lit _ => 1
  | .nil => 1
  | .ptr d => uptoBulk d + 1
  | .slice elems spare => uptoBulkAll elems + uptoBulkAll spare + 1
  | .agg parts => uptoBulkAll parts + 1
  | .iface _ d => uptoBulk d + 1
  | .map entries => uptoBulkEntries entries + 1
  | .held _ => 1
def uptoBulkAll {H : Type} : List (DataW H) → Nat
  | [] => 0
  | d :: r => uptoBulk d + uptoBulkAll r
def uptoBulkEntries {H : Type} : List (Lit × DataW H) → Nat
  | [] => 0
  | x :: r => uptoBulkEntry x + uptoBulkEntries r
def uptoBulkEntry {H : Type} : Lit × DataW H → Nat
  | (.string bytes, d) => bytes.length + uptoBulk d + 1
  | (_, d) => uptoBulk d + 1
 end
def uptoSmall : (H : Type) → List (DataW H) → Bool := fun _ ds => decide (uptoBulkAll ds ≤ 1048576)
def OpenSpec.upto (s : _root_.Go.ChangeSpec) : _root_.Go.OpenSpec := { _root_.Go.OpenSpec.ofChange s with cond := some uptoSmall }

/-- 'ferretlaw20.LinesSplit', WHERE WHAT IT READS IS OF BULK AT MOST 1048576: true; the input reads as it did. -/
def linesSplitUptoRow : OpenClaim := { program := "ythnljhcncpiemaa", sum := "e04526e0ecc377ab6e16e655aadeb8ccaf8294bd59d9821578b80f7e6a42735c", func := "ferret/ferretlaw20.LinesSplit", spec := "linesSplit", inPlace := ["internal/bytealg.IndexByteString"], unfollowed := true, recurses := true, apart := false, narrowed := true }
def LinesSplitUptoSaid : Prop := linesSplitUptoRow.holds Try.pinned (OpenSpec.upto linesSplitSpec)

/-- 'ferretlaw20.LinesAll', WHERE WHAT IT READS IS OF BULK AT MOST 1048576: true; the input reads as it did. -/
def linesAllUptoRow : OpenClaim := { program := "ythnljhcncpiemaa", sum := "e04526e0ecc377ab6e16e655aadeb8ccaf8294bd59d9821578b80f7e6a42735c", func := "ferret/ferretlaw20.LinesAll", spec := "linesAll", inPlace := ["internal/bytealg.IndexByteString"], unfollowed := true, recurses := true, apart := false, narrowed := true }
def LinesAllUptoSaid : Prop := linesAllUptoRow.holds Try.pinned (OpenSpec.upto linesAllSpec)

/-- 'ferretlaw20.LinesBack', WHERE WHAT IT READS IS OF BULK AT MOST 1048576: true; the input reads as it did. -/
def linesBackUptoRow : OpenClaim := { program := "ythnljhcncpiemaa", sum := "e04526e0ecc377ab6e16e655aadeb8ccaf8294bd59d9821578b80f7e6a42735c", func := "ferret/ferretlaw20.LinesBack", spec := "linesBack", inPlace := ["internal/bytealg.IndexByteString"], unfollowed := true, recurses := true, apart := false, narrowed := true }
def LinesBackUptoSaid : Prop := linesBackUptoRow.holds Try.pinned (OpenSpec.upto linesBackSpec)

/-- 'ferretlaw20.LinesPlaces', WHERE WHAT IT READS IS OF BULK AT MOST 1048576: true; the input reads as it did. -/
def linesPlacesUptoRow : OpenClaim := { program := "ythnljhcncpiemaa", sum := "e04526e0ecc377ab6e16e655aadeb8ccaf8294bd59d9821578b80f7e6a42735c", func := "ferret/ferretlaw20.LinesPlaces", spec := "linesPlaces", inPlace := ["internal/bytealg.IndexByteString"], unfollowed := true, recurses := true, apart := false, narrowed := true }
def LinesPlacesUptoSaid : Prop := linesPlacesUptoRow.holds Try.pinned (OpenSpec.upto linesPlacesSpec)

end Rows
end Go.Proofs.Ythnljhcncpiemaa
