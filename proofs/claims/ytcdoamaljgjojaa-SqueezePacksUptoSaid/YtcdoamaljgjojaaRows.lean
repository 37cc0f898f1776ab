/-
  No cell of these rows narrows 'for every input' (looked for: loops, veiled, ifaces, maps, wideKeys, modest, calm, conditions, laid).
  DERIVED. THE GIVEN ROWS OF THIS SEAT. 9 by the template 'for every input the law returns true; each argument reads behind the call as it read before'; 0 by the template 'total and deterministic' (their statements: YtcdoamaljgjojaaTotals.lean).
  GIVEN WITH THE SEED: the statements are not yours to turn. If you find one false, say at which input.
  Laid BY PROGRAM, IN A SANDBOX (cutbox-rows.mjs): the forced cells as the released guide's own fill.sh prints them over the translation 678b11f48eeacb3e… (all of the seat's roots in one cut). By AI agents, Wed Nov 11 2026. No macro, syntax, notation, axiom, sorry.
-/
import Derived.Test.YtcdoamaljgjojaaChecked
import GoSem.Claim
import GoSem.ClaimJoined
import GoSem.ClaimMapViews
import Derived.JoinedTies
import Derived.KernelRfl
namespace Go.Proofs.Ytcdoamaljgjojaa
/- THE CELL 'sum', in the pinned program and in every row, IS THE sha256 OF THE DUMP (.gsa) THAT YtcdoamaljgjojaaProg.lean LOADS. Nothing in Lean hashes anything: it is a label: what it is worth is what the hold of that sum in a sandbox is worth. -/
noncomputable def Try.pinned : Pinned := { name := "ytcdoamaljgjojaa", sum := "678b11f48eeacb3edd4c12237761949545b2c4d7d6ec6a9eaf49d48af35435b8", checked := Try.checked }
namespace Rows
def none {H : Type} : Left H := { results := [], args := [] }

/-- 'ferretlaw03.InflateSymbols': WHATEVER THE INPUT: true; the input reads as it did. -/
def inflateSymbolsSpec : ChangeSpec := { name := "inflateSymbols", fn := fun _ => fun
  | [d1, d2, d3] => { results := [.lit (.bool true)], args := [d1, d2, d3] }
  | _ => none }
def inflateSymbolsRow : OpenClaim := { program := "ytcdoamaljgjojaa", sum := "678b11f48eeacb3edd4c12237761949545b2c4d7d6ec6a9eaf49d48af35435b8", func := "ferret/ferretlaw03.InflateSymbols", spec := "inflateSymbols", apart := false }
def InflateSymbolsSaid : Prop := inflateSymbolsRow.holds Try.pinned (OpenSpec.ofChange inflateSymbolsSpec)

/-- ITS FALSE NEIGHBOUR: 'it returns false'. Refute it at one input. -/
def inflateSymbolsWrong : ChangeSpec := { name := "inflateSymbols", fn := fun _ => fun
  | [d1, d2, d3] => { results := [.lit (.bool false)], args := [d1, d2, d3] }
  | _ => none }
def InflateSymbolsWrongFalsely : Prop := inflateSymbolsRow.holds Try.pinned (OpenSpec.ofChange inflateSymbolsWrong)

/-- 'ferretlaw03.InflateMore': WHATEVER THE INPUT: true; the input reads as it did. -/
def inflateMoreSpec : ChangeSpec := { name := "inflateMore", fn := fun _ => fun
  | [d1, d2, d3] => { results := [.lit (.bool true)], args := [d1, d2, d3] }
  | _ => none }
def inflateMoreRow : OpenClaim := { program := "ytcdoamaljgjojaa", sum := "678b11f48eeacb3edd4c12237761949545b2c4d7d6ec6a9eaf49d48af35435b8", func := "ferret/ferretlaw03.InflateMore", spec := "inflateMore", apart := false }
def InflateMoreSaid : Prop := inflateMoreRow.holds Try.pinned (OpenSpec.ofChange inflateMoreSpec)

/-- ITS FALSE NEIGHBOUR: 'it returns false'. Refute it at one input. -/
def inflateMoreWrong : ChangeSpec := { name := "inflateMore", fn := fun _ => fun
  | [d1, d2, d3] => { results := [.lit (.bool false)], args := [d1, d2, d3] }
  | _ => none }
def InflateMoreWrongFalsely : Prop := inflateMoreRow.holds Try.pinned (OpenSpec.ofChange inflateMoreWrong)

/-- 'ferretlaw03.InflateStored': WHATEVER THE INPUT: true; the input reads as it did. -/
def inflateStoredSpec : ChangeSpec := { name := "inflateStored", fn := fun _ => fun
  | [d] => { results := [.lit (.bool true)], args := [d] }
  | _ => none }
def inflateStoredRow : OpenClaim := { program := "ytcdoamaljgjojaa", sum := "678b11f48eeacb3edd4c12237761949545b2c4d7d6ec6a9eaf49d48af35435b8", func := "ferret/ferretlaw03.InflateStored", spec := "inflateStored", apart := false }
def InflateStoredSaid : Prop := inflateStoredRow.holds Try.pinned (OpenSpec.ofChange inflateStoredSpec)

/-- ITS FALSE NEIGHBOUR: 'it returns false'. Refute it at one input. -/
def inflateStoredWrong : ChangeSpec := { name := "inflateStored", fn := fun _ => fun
  | [d] => { results := [.lit (.bool false)], args := [d] }
  | _ => none }
def InflateStoredWrongFalsely : Prop := inflateStoredRow.holds Try.pinned (OpenSpec.ofChange inflateStoredWrong)

/-- 'ferretlaw03.InflateCut': WHATEVER THE INPUT: true; the input reads as it did. -/
def inflateCutSpec : ChangeSpec := { name := "inflateCut", fn := fun _ => fun
  | [d1, d2] => { results := [.lit (.bool true)], args := [d1, d2] }
  | _ => none }
def inflateCutRow : OpenClaim := { program := "ytcdoamaljgjojaa", sum := "678b11f48eeacb3edd4c12237761949545b2c4d7d6ec6a9eaf49d48af35435b8", func := "ferret/ferretlaw03.InflateCut", spec := "inflateCut", apart := false }
def InflateCutSaid : Prop := inflateCutRow.holds Try.pinned (OpenSpec.ofChange inflateCutSpec)

/-- ITS FALSE NEIGHBOUR: 'it returns false'. Refute it at one input. -/
def inflateCutWrong : ChangeSpec := { name := "inflateCut", fn := fun _ => fun
  | [d1, d2] => { results := [.lit (.bool false)], args := [d1, d2] }
  | _ => none }
def InflateCutWrongFalsely : Prop := inflateCutRow.holds Try.pinned (OpenSpec.ofChange inflateCutWrong)

/-- 'ferretlaw04.SqueezeTokens': WHATEVER THE INPUT: true; the input reads as it did. -/
def squeezeTokensSpec : ChangeSpec := { name := "squeezeTokens", fn := fun _ => fun
  | [d1, d2, d3] => { results := [.lit (.bool true)], args := [d1, d2, d3] }
  | _ => none }
def squeezeTokensRow : OpenClaim := { program := "ytcdoamaljgjojaa", sum := "678b11f48eeacb3edd4c12237761949545b2c4d7d6ec6a9eaf49d48af35435b8", func := "ferret/ferretlaw04.SqueezeTokens", spec := "squeezeTokens", unfollowed := true, recurses := true, apart := false }
def SqueezeTokensSaid : Prop := squeezeTokensRow.holds Try.pinned (OpenSpec.ofChange squeezeTokensSpec)

/-- ITS FALSE NEIGHBOUR: 'it returns false'. Refute it at one input. -/
def squeezeTokensWrong : ChangeSpec := { name := "squeezeTokens", fn := fun _ => fun
  | [d1, d2, d3] => { results := [.lit (.bool false)], args := [d1, d2, d3] }
  | _ => none }
def SqueezeTokensWrongFalsely : Prop := squeezeTokensRow.holds Try.pinned (OpenSpec.ofChange squeezeTokensWrong)

/-- 'ferretlaw04.SqueezeSame': WHATEVER THE INPUT: true; the input reads as it did. -/
def squeezeSameSpec : ChangeSpec := { name := "squeezeSame", fn := fun _ => fun
  | [d1, d2] => { results := [.lit (.bool true)], args := [d1, d2] }
  | _ => none }
def squeezeSameRow : OpenClaim := { program := "ytcdoamaljgjojaa", sum := "678b11f48eeacb3edd4c12237761949545b2c4d7d6ec6a9eaf49d48af35435b8", func := "ferret/ferretlaw04.SqueezeSame", spec := "squeezeSame", unfollowed := true, recurses := true, apart := false }
def SqueezeSameSaid : Prop := squeezeSameRow.holds Try.pinned (OpenSpec.ofChange squeezeSameSpec)

/-- ITS FALSE NEIGHBOUR: 'it returns false'. Refute it at one input. -/
def squeezeSameWrong : ChangeSpec := { name := "squeezeSame", fn := fun _ => fun
  | [d1, d2] => { results := [.lit (.bool false)], args := [d1, d2] }
  | _ => none }
def SqueezeSameWrongFalsely : Prop := squeezeSameRow.holds Try.pinned (OpenSpec.ofChange squeezeSameWrong)

/-- 'ferretlaw04.SqueezePlain': WHATEVER THE INPUT: true; the input reads as it did. -/
def squeezePlainSpec : ChangeSpec := { name := "squeezePlain", fn := fun _ => fun
  | [d] => { results := [.lit (.bool true)], args := [d] }
  | _ => none }
def squeezePlainRow : OpenClaim := { program := "ytcdoamaljgjojaa", sum := "678b11f48eeacb3edd4c12237761949545b2c4d7d6ec6a9eaf49d48af35435b8", func := "ferret/ferretlaw04.SqueezePlain", spec := "squeezePlain", unfollowed := true, recurses := true, apart := false }
def SqueezePlainSaid : Prop := squeezePlainRow.holds Try.pinned (OpenSpec.ofChange squeezePlainSpec)

/-- ITS FALSE NEIGHBOUR: 'it returns false'. Refute it at one input. -/
def squeezePlainWrong : ChangeSpec := { name := "squeezePlain", fn := fun _ => fun
  | [d] => { results := [.lit (.bool false)], args := [d] }
  | _ => none }
def SqueezePlainWrongFalsely : Prop := squeezePlainRow.holds Try.pinned (OpenSpec.ofChange squeezePlainWrong)

/-- 'ferretlaw04.SqueezePacks': WHATEVER THE INPUT: true; the input reads as it did. -/
def squeezePacksSpec : ChangeSpec := { name := "squeezePacks", fn := fun _ => fun
  | [d1, d2] => { results := [.lit (.bool true)], args := [d1, d2] }
  | _ => none }
def squeezePacksRow : OpenClaim := { program := "ytcdoamaljgjojaa", sum := "678b11f48eeacb3edd4c12237761949545b2c4d7d6ec6a9eaf49d48af35435b8", func := "ferret/ferretlaw04.SqueezePacks", spec := "squeezePacks", unfollowed := true, recurses := true, apart := false }
def SqueezePacksSaid : Prop := squeezePacksRow.holds Try.pinned (OpenSpec.ofChange squeezePacksSpec)

/-- ITS FALSE NEIGHBOUR: 'it returns false'. Refute it at one input. -/
def squeezePacksWrong : ChangeSpec := { name := "squeezePacks", fn := fun _ => fun
  | [d1, d2] => { results := [.lit (.bool false)], args := [d1, d2] }
  | _ => none }
def SqueezePacksWrongFalsely : Prop := squeezePacksRow.holds Try.pinned (OpenSpec.ofChange squeezePacksWrong)

/-- 'ferrettop.TopSqueezed': WHATEVER THE INPUT: true; the input reads as it did. -/
def topSqueezedSpec : ChangeSpec := { name := "topSqueezed", fn := fun _ => fun
  | [d1, d2] => { results := [.lit (.bool true)], args := [d1, d2] }
  | _ => none }
def topSqueezedRow : OpenClaim := { program := "ytcdoamaljgjojaa", sum := "678b11f48eeacb3edd4c12237761949545b2c4d7d6ec6a9eaf49d48af35435b8", func := "ferret/ferrettop.TopSqueezed", spec := "topSqueezed", unfollowed := true, recurses := true, apart := false }
def TopSqueezedSaid : Prop := topSqueezedRow.holds Try.pinned (OpenSpec.ofChange topSqueezedSpec)

/-- ITS FALSE NEIGHBOUR: 'it returns false'. Refute it at one input. -/
def topSqueezedWrong : ChangeSpec := { name := "topSqueezed", fn := fun _ => fun
  | [d1, d2] => { results := [.lit (.bool false)], args := [d1, d2] }
  | _ => none }
def TopSqueezedWrongFalsely : Prop := topSqueezedRow.holds Try.pinned (OpenSpec.ofChange topSqueezedWrong)

/- THE SECOND FORM. 'bulk': how many values and letters a reading holds, each counted each time it is reached (what is shared counts as often as it is met; a slice's spare places count too). A statement '..UptoSaid' is the law's where the arguments, and the package variables that the reading takes, are together of bulk at most 1048576: NARROWER than '..Said'. Prove '..Said' where nothing that the law and all that it calls make is longer than what came in: it says more and counts as full. Else prove '..UptoSaid'. A law counts once. -/
mutual
def uptoBulk {H : Type} : DataW H → Nat
  | .lit (.string bytes) => bytes.length + 1
  | .lit _ => 1
  | .nil => 1
  | .ptr d => uptoBulk d + 1
  | .slice elems spare => uptoBulkAll elems + uptoBulkAll spare + 1
  | .agg parts => uptoBulkAll parts + 1
  | .iface _ d => uptoBulk d + 1
  | .map entries => uptoBulkEntries entries + 1
  | .held _ => 1
def uptoBulkAll {H : Type} : List (DataW H) → Nat
  | [] => 0
  | d :: r => uptoBulk d + uptoBulkAll r
def uptoBulkEntries {H : Type} : List (Lit × DataW H) → Nat
  | [] => 0
  | x :: r => uptoBulkEntry x + uptoBulkEntries r
def uptoBulkEntry {H : Type} : Lit × DataW H → Nat
  | (.string bytes, d) => bytes.length + uptoBulk d + 1
  | (_, d) => uptoBulk d + 1
 end
def uptoSmall : (H : Type) → List (DataW H) → Bool := fun _ ds => decide (uptoBulkAll ds ≤ 1048576)
def OpenSpec.upto (s : _root_.Go.ChangeSpec) : _root_.Go.OpenSpec := { _root_.Go.OpenSpec.ofChange s with cond := some uptoSmall }

/-- 'ferretlaw03.InflateSymbols', WHERE WHAT IT READS IS OF BULK AT MOST 1048576: true; the input reads as it did. -/
def inflateSymbolsUptoRow : OpenClaim := { program := "ytcdoamaljgjojaa", sum := "678b11f48eeacb3edd4c12237761949545b2c4d7d6ec6a9eaf49d48af35435b8", func := "ferret/ferretlaw03.InflateSymbols", spec := "inflateSymbols", apart := false, narrowed := true }
def InflateSymbolsUptoSaid : Prop := inflateSymbolsUptoRow.holds Try.pinned (OpenSpec.upto inflateSymbolsSpec)

/-- 'ferretlaw03.InflateMore', WHERE WHAT IT READS IS OF BULK AT MOST 1048576: true; the input reads as it did. -/
def inflateMoreUptoRow : OpenClaim := { program := "ytcdoamaljgjojaa", sum := "678b11f48eeacb3edd4c12237761949545b2c4d7d6ec6a9eaf49d48af35435b8", func := "ferret/ferretlaw03.InflateMore", spec := "inflateMore", apart := false, narrowed := true }
def InflateMoreUptoSaid : Prop := inflateMoreUptoRow.holds Try.pinned (OpenSpec.upto inflateMoreSpec)

/-- 'ferretlaw03.InflateStored', WHERE WHAT IT READS IS OF BULK AT MOST 1048576: true; the input reads as it did. -/
def inflateStoredUptoRow : OpenClaim := { program := "ytcdoamaljgjojaa", sum := "678b11f48eeacb3edd4c12237761949545b2c4d7d6ec6a9eaf49d48af35435b8", func := "ferret/ferretlaw03.InflateStored", spec := "inflateStored", apart := false, narrowed := true }
def InflateStoredUptoSaid : Prop := inflateStoredUptoRow.holds Try.pinned (OpenSpec.upto inflateStoredSpec)

/-- 'ferretlaw03.InflateCut', WHERE WHAT IT READS IS OF BULK AT MOST 1048576: true; the input reads as it did. -/
def inflateCutUptoRow : OpenClaim := { program := "ytcdoamaljgjojaa", sum := "678b11f48eeacb3edd4c12237761949545b2c4d7d6ec6a9eaf49d48af35435b8", func := "ferret/ferretlaw03.InflateCut", spec := "inflateCut", apart := false, narrowed := true }
def InflateCutUptoSaid : Prop := inflateCutUptoRow.holds Try.pinned (OpenSpec.upto inflateCutSpec)

/-- 'ferretlaw04.SqueezeTokens', WHERE WHAT IT READS IS OF BULK AT MOST 1048576: true; the input reads as it did. -/
def squeezeTokensUptoRow : OpenClaim := { program := "ytcdoamaljgjojaa", sum := "678b11f48eeacb3edd4c12237761949545b2c4d7d6ec6a9eaf49d48af35435b8", func := "ferret/ferretlaw04.SqueezeTokens", spec := "squeezeTokens", unfollowed := true, recurses := true, apart := false, narrowed := true }
def SqueezeTokensUptoSaid : Prop := squeezeTokensUptoRow.holds Try.pinned (OpenSpec.upto squeezeTokensSpec)

/-- 'ferretlaw04.SqueezeSame', WHERE WHAT IT READS IS OF BULK AT MOST 1048576: true; the input reads as it did. -/
def squeezeSameUptoRow : OpenClaim := { program := "ytcdoamaljgjojaa", sum := "678b11f48eeacb3edd4c12237761949545b2c4d7d6ec6a9eaf49d48af35435b8", func := "ferret/ferretlaw04.SqueezeSame", spec := "squeezeSame", unfollowed := true, recurses := true, apart := false, narrowed := true }
def SqueezeSameUptoSaid : Prop := squeezeSameUptoRow.holds Try.pinned (OpenSpec.upto squeezeSameSpec)

/-- 'ferretlaw04.SqueezePlain', WHERE WHAT IT READS IS OF BULK AT MOST 1048576: true; the input reads as it did. -/
def squeezePlainUptoRow : OpenClaim := { program := "ytcdoamaljgjojaa", sum := "678b11f48eeacb3edd4c12237761949545b2c4d7d6ec6a9eaf49d48af35435b8", func := "ferret/ferretlaw04.SqueezePlain", spec := "squeezePlain", unfollowed := true, recurses := true, apart := false, narrowed := true }
def SqueezePlainUptoSaid : Prop := squeezePlainUptoRow.holds Try.pinned (OpenSpec.upto squeezePlainSpec)

/-- 'ferretlaw04.SqueezePacks', WHERE WHAT IT READS IS OF BULK AT MOST 1048576: true; the input reads as it did. -/
def squeezePacksUptoRow : OpenClaim := { program := "ytcdoamaljgjojaa", sum := "678b11f48eeacb3edd4c12237761949545b2c4d7d6ec6a9eaf49d48af35435b8", func := "ferret/ferretlaw04.SqueezePacks", spec := "squeezePacks", unfollowed := true, recurses := true, apart := false, narrowed := true }
def SqueezePacksUptoSaid : Prop := squeezePacksUptoRow.holds Try.pinned (OpenSpec.upto squeezePacksSpec)

/-- 'ferrettop.TopSqueezed', WHERE WHAT IT READS IS OF BULK AT MOST 1048576: true; the input reads as it did. -/
def topSqueezedUptoRow : OpenClaim := { program := "ytcdoamaljgjojaa", sum := "678b11f48eeacb3edd4c12237761949545b2c4d7d6ec6a9eaf49d48af35435b8", func := "ferret/ferrettop.TopSqueezed", spec := "topSqueezed", unfollowed := true, recurses := true, apart := false, narrowed := true }
def TopSqueezedUptoSaid : Prop := topSqueezedUptoRow.holds Try.pinned (OpenSpec.upto topSqueezedSpec)

end Rows
end Go.Proofs.Ytcdoamaljgjojaa
