/-
  No cell of these rows narrows 'for every input' (looked for: loops, veiled, ifaces, maps, wideKeys, modest, calm, conditions, laid).
  DERIVED. THE GIVEN ROWS OF THIS SEAT. 3 by the template 'for every input the law returns true; each argument reads behind the call as it read before'; 0 by the template 'total and deterministic' (their statements: YtambldebfhhjpaaTotals.lean).
  GIVEN WITH THE SEED: the statements are not yours to turn. If you find one false, say at which input.
  Laid BY PROGRAM, IN A SANDBOX (cutbox-rows.mjs): the forced cells as the released guide's own fill.sh prints them over the translation 0bde275dad6ff5cc… (all of the seat's roots in one cut). By AI agents, Wed Nov 11 2026. No macro, syntax, notation, axiom, sorry.
-/
import Derived.Test.YtambldebfhhjpaaChecked
import GoSem.Claim
import GoSem.ClaimJoined
import GoSem.ClaimMapViews
import Derived.JoinedTies
import Derived.KernelRfl
namespace Go.Proofs.Ytambldebfhhjpaa
/- THE CELL 'sum', in the pinned program and in every row, IS THE sha256 OF THE DUMP (.gsa) THAT YtambldebfhhjpaaProg.lean LOADS. Nothing in Lean hashes anything: it is a label: what it is worth is what the hold of that sum in a sandbox is worth. -/
noncomputable def Try.pinned : Pinned := { name := "ytambldebfhhjpaa", sum := "0bde275dad6ff5ccc4bf64be76662e1699f2c7617213c6fb9c9681523566634d", checked := Try.checked }
namespace Rows
def none {H : Type} : Left H := { results := [], args := [] }

/-- 'lemmalaw03.ExprParts': WHATEVER THE INPUT: true; the input reads as it did. -/
def exprPartsSpec : ChangeSpec := { name := "exprParts", fn := fun _ => fun
  | [d1, d2] => { results := [.lit (.bool true)], args := [d1, d2] }
  | _ => none }
def exprPartsRow : OpenClaim := { program := "ytambldebfhhjpaa", sum := "0bde275dad6ff5ccc4bf64be76662e1699f2c7617213c6fb9c9681523566634d", func := "lemma/lemmalaw03.ExprParts", spec := "exprParts", apart := false }
def ExprPartsSaid : Prop := exprPartsRow.holds Try.pinned (OpenSpec.ofChange exprPartsSpec)

/-- ITS FALSE NEIGHBOUR: 'it returns false'. Refute it at one input. -/
def exprPartsWrong : ChangeSpec := { name := "exprParts", fn := fun _ => fun
  | [d1, d2] => { results := [.lit (.bool false)], args := [d1, d2] }
  | _ => none }
def ExprPartsWrongFalsely : Prop := exprPartsRow.holds Try.pinned (OpenSpec.ofChange exprPartsWrong)

/-- 'lemmalaw03.ExprOrders': WHATEVER THE INPUT: true; the input reads as it did. -/
def exprOrdersSpec : ChangeSpec := { name := "exprOrders", fn := fun _ => fun
  | [d1, d2, d3] => { results := [.lit (.bool true)], args := [d1, d2, d3] }
  | _ => none }
def exprOrdersRow : OpenClaim := { program := "ytambldebfhhjpaa", sum := "0bde275dad6ff5ccc4bf64be76662e1699f2c7617213c6fb9c9681523566634d", func := "lemma/lemmalaw03.ExprOrders", spec := "exprOrders", apart := false }
def ExprOrdersSaid : Prop := exprOrdersRow.holds Try.pinned (OpenSpec.ofChange exprOrdersSpec)

/-- ITS FALSE NEIGHBOUR: 'it returns false'. Refute it at one input. -/
def exprOrdersWrong : ChangeSpec := { name := "exprOrders", fn := fun _ => fun
  | [d1, d2, d3] => { results := [.lit (.bool false)], args := [d1, d2, d3] }
  | _ => none }
def ExprOrdersWrongFalsely : Prop := exprOrdersRow.holds Try.pinned (OpenSpec.ofChange exprOrdersWrong)

/-- 'lemmalaw03.ExprFaces': WHATEVER THE INPUT: true; the input reads as it did. -/
def exprFacesSpec : ChangeSpec := { name := "exprFaces", fn := fun _ => fun
  | [d1, d2, d3] => { results := [.lit (.bool true)], args := [d1, d2, d3] }
  | _ => none }
def exprFacesRow : OpenClaim := { program := "ytambldebfhhjpaa", sum := "0bde275dad6ff5ccc4bf64be76662e1699f2c7617213c6fb9c9681523566634d", func := "lemma/lemmalaw03.ExprFaces", spec := "exprFaces", inPlace := ["slices.overlaps[int]"], unfollowed := true, recurses := true, apart := false }
def ExprFacesSaid : Prop := exprFacesRow.holds Try.pinned (OpenSpec.ofChange exprFacesSpec)

/-- ITS FALSE NEIGHBOUR: 'it returns false'. Refute it at one input. -/
def exprFacesWrong : ChangeSpec := { name := "exprFaces", fn := fun _ => fun
  | [d1, d2, d3] => { results := [.lit (.bool false)], args := [d1, d2, d3] }
  | _ => none }
def ExprFacesWrongFalsely : Prop := exprFacesRow.holds Try.pinned (OpenSpec.ofChange exprFacesWrong)

/- THE SECOND FORM. 'bulk': how many values and letters a reading holds, each counted each time it is reached (what is shared counts as often as it is met; a slice's spare places count too). A statement '..UptoSaid' is the law's where the arguments, and the package variables that the reading takes, are together of bulk at most 1048576: NARROWER than '..Said'. Prove '..Said' where nothing that the law and all that it calls make is longer than what came in: it says more and counts as full. Else prove '..UptoSaid'. A law counts once. -/
mutual
def uptoBulk {H : Type} : DataW H → Nat
  | .lit (.string bytes) => bytes.length + 1
  | .lit _ => 1
  | .nil => 1
  | .ptr d => uptoBulk d + 1
  | .slice elems spare => uptoBulkAll elems + uptoBulkAll spare + 1
  | .agg parts => uptoBulkAll parts + 1
  | .iface _ d => uptoBulk d + 1
  | .map entries => uptoBulkEntries entries + 1
  | .held _ => 1
def uptoBulkAll {H : Type} : List (DataW H) → Nat
  | [] => 0
  | d :: r => uptoBulk d + uptoBulkAll r
def uptoBulkEntries {H : Type} : List (Lit × DataW H) → Nat
  | [] => 0
  | x :: r => uptoBulkEntry x + uptoBulkEntries r
def uptoBulkEntry {H : Type} : Lit × DataW H → Nat
  | (.string bytes, d) => bytes.length + uptoBulk d + 1
  | (_, d) => uptoBulk d + 1
 end
def uptoSmall : (H : Type) → List (DataW H) → Bool := fun _ ds => decide (uptoBulkAll ds ≤ 1048576)
def OpenSpec.upto (s : _root_.Go.ChangeSpec) : _root_.Go.OpenSpec := { _root_.Go.OpenSpec.ofChange s with cond := some uptoSmall }

/-- 'lemmalaw03.ExprParts', WHERE WHAT IT READS IS OF BULK AT MOST 1048576: true; the input reads as it did. -/
def exprPartsUptoRow : OpenClaim := { program := "ytambldebfhhjpaa", sum := "0bde275dad6ff5ccc4bf64be76662e1699f2c7617213c6fb9c9681523566634d", func := "lemma/lemmalaw03.ExprParts", spec := "exprParts", apart := false, narrowed := true }
def ExprPartsUptoSaid : Prop := exprPartsUptoRow.holds Try.pinned (OpenSpec.upto exprPartsSpec)

/-- 'lemmalaw03.ExprOrders', WHERE WHAT IT READS IS OF BULK AT MOST 1048576: true; the input reads as it did. -/
def exprOrdersUptoRow : OpenClaim := { program := "ytambldebfhhjpaa", sum := "0bde275dad6ff5ccc4bf64be76662e1699f2c7617213c6fb9c9681523566634d", func := "lemma/lemmalaw03.ExprOrders", spec := "exprOrders", apart := false, narrowed := true }
def ExprOrdersUptoSaid : Prop := exprOrdersUptoRow.holds Try.pinned (OpenSpec.upto exprOrdersSpec)

/-- 'lemmalaw03.ExprFaces', WHERE WHAT IT READS IS OF BULK AT MOST 1048576: true; the input reads as it did. -/
def exprFacesUptoRow : OpenClaim := { program := "ytambldebfhhjpaa", sum := "0bde275dad6ff5ccc4bf64be76662e1699f2c7617213c6fb9c9681523566634d", func := "lemma/lemmalaw03.ExprFaces", spec := "exprFaces", inPlace := ["slices.overlaps[int]"], unfollowed := true, recurses := true, apart := false, narrowed := true }
def ExprFacesUptoSaid : Prop := exprFacesUptoRow.holds Try.pinned (OpenSpec.upto exprFacesSpec)

end Rows
end Go.Proofs.Ytambldebfhhjpaa
