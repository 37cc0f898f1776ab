/-
  No cell of these rows narrows 'for every input' (looked for: loops, veiled, ifaces, maps, wideKeys, modest, calm, conditions, laid).
  DERIVED. THE GIVEN ROWS OF THIS SEAT. 7 by the template 'for every input the law returns true; each argument reads behind the call as it read before'; 0 by the template 'total and deterministic' (their statements: YtbgejebnpmogoaaTotals.lean).
  GIVEN WITH THE SEED: the statements are not yours to turn. If you find one false, say at which input.
  Laid BY PROGRAM, IN A SANDBOX (cutbox-rows.mjs): the forced cells as the released guide's own fill.sh prints them over the translation 0d2be18dedbf3f18… (all of the seat's roots in one cut). By AI agents, Wed Nov 11 2026. No macro, syntax, notation, axiom, sorry.
-/
import Derived.Test.YtbgejebnpmogoaaChecked
import GoSem.Claim
import GoSem.ClaimJoined
import GoSem.ClaimMapViews
import Derived.JoinedTies
import Derived.KernelRfl
namespace Go.Proofs.Ytbgejebnpmogoaa
/- THE CELL 'sum', in the pinned program and in every row, IS THE sha256 OF THE DUMP (.gsa) THAT YtbgejebnpmogoaaProg.lean LOADS. Nothing in Lean hashes anything: it is a label: what it is worth is what the hold of that sum in a sandbox is worth. -/
noncomputable def Try.pinned : Pinned := { name := "ytbgejebnpmogoaa", sum := "0d2be18dedbf3f180bda50eeb01f33e172707bffb4a2c3d947b395656bebcb41", checked := Try.checked }
namespace Rows
def none {H : Type} : Left H := { results := [], args := [] }

/-- 'ferretlaw02.HuffTables': WHATEVER THE INPUT: true; the input reads as it did. -/
def huffTablesSpec : ChangeSpec := { name := "huffTables", fn := fun _ => fun
  | [d] => { results := [.lit (.bool true)], args := [d] }
  | _ => none }
def huffTablesRow : OpenClaim := { program := "ytbgejebnpmogoaa", sum := "0d2be18dedbf3f180bda50eeb01f33e172707bffb4a2c3d947b395656bebcb41", func := "ferret/ferretlaw02.HuffTables", spec := "huffTables", apart := false }
def HuffTablesSaid : Prop := huffTablesRow.holds Try.pinned (OpenSpec.ofChange huffTablesSpec)

/-- ITS FALSE NEIGHBOUR: 'it returns false'. Refute it at one input. -/
def huffTablesWrong : ChangeSpec := { name := "huffTables", fn := fun _ => fun
  | [d] => { results := [.lit (.bool false)], args := [d] }
  | _ => none }
def HuffTablesWrongFalsely : Prop := huffTablesRow.holds Try.pinned (OpenSpec.ofChange huffTablesWrong)

/-- 'ferretlaw02.HuffOrder': WHATEVER THE INPUT: true; the input reads as it did. -/
def huffOrderSpec : ChangeSpec := { name := "huffOrder", fn := fun _ => fun
  | [d] => { results := [.lit (.bool true)], args := [d] }
  | _ => none }
def huffOrderRow : OpenClaim := { program := "ytbgejebnpmogoaa", sum := "0d2be18dedbf3f180bda50eeb01f33e172707bffb4a2c3d947b395656bebcb41", func := "ferret/ferretlaw02.HuffOrder", spec := "huffOrder", apart := false }
def HuffOrderSaid : Prop := huffOrderRow.holds Try.pinned (OpenSpec.ofChange huffOrderSpec)

/-- ITS FALSE NEIGHBOUR: 'it returns false'. Refute it at one input. -/
def huffOrderWrong : ChangeSpec := { name := "huffOrder", fn := fun _ => fun
  | [d] => { results := [.lit (.bool false)], args := [d] }
  | _ => none }
def HuffOrderWrongFalsely : Prop := huffOrderRow.holds Try.pinned (OpenSpec.ofChange huffOrderWrong)

/-- 'ferretlaw02.HuffDecodes': WHATEVER THE INPUT: true; the input reads as it did. -/
def huffDecodesSpec : ChangeSpec := { name := "huffDecodes", fn := fun _ => fun
  | [d1, d2, d3] => { results := [.lit (.bool true)], args := [d1, d2, d3] }
  | _ => none }
def huffDecodesRow : OpenClaim := { program := "ytbgejebnpmogoaa", sum := "0d2be18dedbf3f180bda50eeb01f33e172707bffb4a2c3d947b395656bebcb41", func := "ferret/ferretlaw02.HuffDecodes", spec := "huffDecodes", apart := false }
def HuffDecodesSaid : Prop := huffDecodesRow.holds Try.pinned (OpenSpec.ofChange huffDecodesSpec)

/-- ITS FALSE NEIGHBOUR: 'it returns false'. Refute it at one input. -/
def huffDecodesWrong : ChangeSpec := { name := "huffDecodes", fn := fun _ => fun
  | [d1, d2, d3] => { results := [.lit (.bool false)], args := [d1, d2, d3] }
  | _ => none }
def HuffDecodesWrongFalsely : Prop := huffDecodesRow.holds Try.pinned (OpenSpec.ofChange huffDecodesWrong)

/-- 'ferretlaw02.HuffEven': WHATEVER THE INPUT: true; the input reads as it did. -/
def huffEvenSpec : ChangeSpec := { name := "huffEven", fn := fun _ => fun
  | [d] => { results := [.lit (.bool true)], args := [d] }
  | _ => none }
def huffEvenRow : OpenClaim := { program := "ytbgejebnpmogoaa", sum := "0d2be18dedbf3f180bda50eeb01f33e172707bffb4a2c3d947b395656bebcb41", func := "ferret/ferretlaw02.HuffEven", spec := "huffEven", apart := false }
def HuffEvenSaid : Prop := huffEvenRow.holds Try.pinned (OpenSpec.ofChange huffEvenSpec)

/-- ITS FALSE NEIGHBOUR: 'it returns false'. Refute it at one input. -/
def huffEvenWrong : ChangeSpec := { name := "huffEven", fn := fun _ => fun
  | [d] => { results := [.lit (.bool false)], args := [d] }
  | _ => none }
def HuffEvenWrongFalsely : Prop := huffEvenRow.holds Try.pinned (OpenSpec.ofChange huffEvenWrong)

/-- 'ferretlaw02.HuffWhole': WHATEVER THE INPUT: true; the input reads as it did. -/
def huffWholeSpec : ChangeSpec := { name := "huffWhole", fn := fun _ => fun
  | [d1, d2] => { results := [.lit (.bool true)], args := [d1, d2] }
  | _ => none }
def huffWholeRow : OpenClaim := { program := "ytbgejebnpmogoaa", sum := "0d2be18dedbf3f180bda50eeb01f33e172707bffb4a2c3d947b395656bebcb41", func := "ferret/ferretlaw02.HuffWhole", spec := "huffWhole", apart := false }
def HuffWholeSaid : Prop := huffWholeRow.holds Try.pinned (OpenSpec.ofChange huffWholeSpec)

/-- ITS FALSE NEIGHBOUR: 'it returns false'. Refute it at one input. -/
def huffWholeWrong : ChangeSpec := { name := "huffWhole", fn := fun _ => fun
  | [d1, d2] => { results := [.lit (.bool false)], args := [d1, d2] }
  | _ => none }
def HuffWholeWrongFalsely : Prop := huffWholeRow.holds Try.pinned (OpenSpec.ofChange huffWholeWrong)

/-- 'ferretlaw02.HuffBack': WHATEVER THE INPUT: true; the input reads as it did. -/
def huffBackSpec : ChangeSpec := { name := "huffBack", fn := fun _ => fun
  | [d1, d2] => { results := [.lit (.bool true)], args := [d1, d2] }
  | _ => none }
def huffBackRow : OpenClaim := { program := "ytbgejebnpmogoaa", sum := "0d2be18dedbf3f180bda50eeb01f33e172707bffb4a2c3d947b395656bebcb41", func := "ferret/ferretlaw02.HuffBack", spec := "huffBack", apart := false }
def HuffBackSaid : Prop := huffBackRow.holds Try.pinned (OpenSpec.ofChange huffBackSpec)

/-- ITS FALSE NEIGHBOUR: 'it returns false'. Refute it at one input. -/
def huffBackWrong : ChangeSpec := { name := "huffBack", fn := fun _ => fun
  | [d1, d2] => { results := [.lit (.bool false)], args := [d1, d2] }
  | _ => none }
def HuffBackWrongFalsely : Prop := huffBackRow.holds Try.pinned (OpenSpec.ofChange huffBackWrong)

/-- 'ferrettop.TopCodes': WHATEVER THE INPUT: true; the input reads as it did. -/
def topCodesSpec : ChangeSpec := { name := "topCodes", fn := fun _ => fun
  | [d1, d2] => { results := [.lit (.bool true)], args := [d1, d2] }
  | _ => none }
def topCodesRow : OpenClaim := { program := "ytbgejebnpmogoaa", sum := "0d2be18dedbf3f180bda50eeb01f33e172707bffb4a2c3d947b395656bebcb41", func := "ferret/ferrettop.TopCodes", spec := "topCodes", apart := false }
def TopCodesSaid : Prop := topCodesRow.holds Try.pinned (OpenSpec.ofChange topCodesSpec)

/-- ITS FALSE NEIGHBOUR: 'it returns false'. Refute it at one input. -/
def topCodesWrong : ChangeSpec := { name := "topCodes", fn := fun _ => fun
  | [d1, d2] => { results := [.lit (.bool false)], args := [d1, d2] }
  | _ => none }
def TopCodesWrongFalsely : Prop := topCodesRow.holds Try.pinned (OpenSpec.ofChange topCodesWrong)

/- THE SECOND FORM. 'bulk': how many values and letters a reading holds, each counted each time it is reached (what is shared counts as often as it is met; a slice's spare places count too). A statement '..UptoSaid' is the law's where the arguments, and the package variables that the reading takes, are together of bulk at most 1048576: NARROWER than '..Said'. Prove '..Said' where nothing that the law and all that it calls make is longer than what came in: it says more and counts as full. Else prove '..UptoSaid'. A law counts once. -/
mutual
def uptoBulk {H : Type} : DataW H → Nat
  | .lit (.string bytes) => bytes.length + 1
  | .lit _ => 1
  | .nil => 1
  | .ptr d => uptoBulk d + 1
  | .slice elems spare => uptoBulkAll elems + uptoBulkAll spare + 1
  | .agg parts => uptoBulkAll parts + 1
  | .iface _ d => uptoBulk d + 1
  | .map entries => uptoBulkEntries entries + 1
  | .held _ => 1
def uptoBulkAll {H : Type} : List (DataW H) → Nat
  | [] => 0
  | d :: r => uptoBulk d + uptoBulkAll r
def uptoBulkEntries {H : Type} : List (Lit × DataW H) → Nat
  | [] => 0
  | x :: r => uptoBulkEntry x + uptoBulkEntries r
def uptoBulkEntry {H : Type} : Lit × DataW H → Nat
  | (.string bytes, d) => bytes.length + uptoBulk d + 1
  | (_, d) => uptoBulk d + 1
 end
def uptoSmall : (H : Type) → List (DataW H) → Bool := fun _ ds => decide (uptoBulkAll ds ≤ 1048576)
def OpenSpec.upto (s : _root_.Go.ChangeSpec) : _root_.Go.OpenSpec := { _root_.Go.OpenSpec.ofChange s with cond := some uptoSmall }

/-- 'ferretlaw02.HuffTables', WHERE WHAT IT READS IS OF BULK AT MOST 1048576: true; the input reads as it did. -/
def huffTablesUptoRow : OpenClaim := { program := "ytbgejebnpmogoaa", sum := "0d2be18dedbf3f180bda50eeb01f33e172707bffb4a2c3d947b395656bebcb41", func := "ferret/ferretlaw02.HuffTables", spec := "huffTables", apart := false, narrowed := true }
def HuffTablesUptoSaid : Prop := huffTablesUptoRow.holds Try.pinned (OpenSpec.upto huffTablesSpec)

/-- 'ferretlaw02.HuffOrder', WHERE WHAT IT READS IS OF BULK AT MOST 1048576: true; the input reads as it did. -/
def huffOrderUptoRow : OpenClaim := { program := "ytbgejebnpmogoaa", sum := "0d2be18dedbf3f180bda50eeb01f33e172707bffb4a2c3d947b395656bebcb41", func := "ferret/ferretlaw02.HuffOrder", spec := "huffOrder", apart := false, narrowed := true }
def HuffOrderUptoSaid : Prop := huffOrderUptoRow.holds Try.pinned (OpenSpec.upto huffOrderSpec)

/-- 'ferretlaw02.HuffDecodes', WHERE WHAT IT READS IS OF BULK AT MOST 1048576: true; the input reads as it did. -/
def huffDecodesUptoRow : OpenClaim := { program := "ytbgejebnpmogoaa", sum := "0d2be18dedbf3f180bda50eeb01f33e172707bffb4a2c3d947b395656bebcb41", func := "ferret/ferretlaw02.HuffDecodes", spec := "huffDecodes", apart := false, narrowed := true }
def HuffDecodesUptoSaid : Prop := huffDecodesUptoRow.holds Try.pinned (OpenSpec.upto huffDecodesSpec)

/-- 'ferretlaw02.HuffEven', WHERE WHAT IT READS IS OF BULK AT MOST 1048576: true; the input reads as it did. -/
def huffEvenUptoRow : OpenClaim := { program := "ytbgejebnpmogoaa", sum := "0d2be18dedbf3f180bda50eeb01f33e172707bffb4a2c3d947b395656bebcb41", func := "ferret/ferretlaw02.HuffEven", spec := "huffEven", apart := false, narrowed := true }
def HuffEvenUptoSaid : Prop := huffEvenUptoRow.holds Try.pinned (OpenSpec.upto huffEvenSpec)

/-- 'ferretlaw02.HuffWhole', WHERE WHAT IT READS IS OF BULK AT MOST 1048576: true; the input reads as it did. -/
def huffWholeUptoRow : OpenClaim := { program := "ytbgejebnpmogoaa", sum := "0d2be18dedbf3f180bda50eeb01f33e172707bffb4a2c3d947b395656bebcb41", func := "ferret/ferretlaw02.HuffWhole", spec := "huffWhole", apart := false, narrowed := true }
def HuffWholeUptoSaid : Prop := huffWholeUptoRow.holds Try.pinned (OpenSpec.upto huffWholeSpec)

/-- 'ferretlaw02.HuffBack', WHERE WHAT IT READS IS OF BULK AT MOST 1048576: true; the input reads as it did. -/
def huffBackUptoRow : OpenClaim := { program := "ytbgejebnpmogoaa", sum := "0d2be18dedbf3f180bda50eeb01f33e172707bffb4a2c3d947b395656bebcb41", func := "ferret/ferretlaw02.HuffBack", spec := "huffBack", apart := false, narrowed := true }
def HuffBackUptoSaid : Prop := huffBackUptoRow.holds Try.pinned (OpenSpec.upto huffBackSpec)

/-- 'ferrettop.TopCodes', WHERE WHAT IT READS IS OF BULK AT MOST 1048576: true; the input reads as it did. -/
def topCodesUptoRow : OpenClaim := { program := "ytbgejebnpmogoaa", sum := "0d2be18dedbf3f180bda50eeb01f33e172707bffb4a2c3d947b395656bebcb41", func := "ferret/ferrettop.TopCodes", spec := "topCodes", apart := false, narrowed := true }
def TopCodesUptoSaid : Prop := topCodesUptoRow.holds Try.pinned (OpenSpec.upto topCodesSpec)

end Rows
end Go.Proofs.Ytbgejebnpmogoaa
