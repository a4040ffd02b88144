/-
  No cell of these rows narrows 'for every input' (looked for: loops, veiled, ifaces, maps, wideKeys, modest, calm, conditions, laid).
  DERIVED. THE GIVEN ROWS OF THIS SEAT. 3 by the template 'for every input the law returns true; each argument reads behind the call as it read before'; 0 by the template 'total and deterministic' (their statements: YtcfocbfocemapaaGreatTotals.lean).
  GIVEN WITH THE SEED: the statements are not yours to turn. If you find one false, say at which input.
  Laid BY PROGRAM, IN A SANDBOX (cutbox-rows.mjs): the forced cells as the released guide's own fill.sh prints them over the translation 2e293fab283ab601… (all of the seat's roots in one cut). By AI agents, Wed Nov 11 2026. No macro, syntax, notation, axiom, sorry.
-/
import Derived.Test.YtcfocbfocemapaaGreatChecked
import GoSem.Claim
import GoSem.ClaimJoined
import GoSem.ClaimMapViews
import Derived.JoinedTies
import Derived.KernelRfl
namespace Go.Proofs.YtcfocbfocemapaaGreat
/- THE CELL 'sum', in the pinned program and in every row, IS THE sha256 OF THE DUMP (.gsa) THAT YtcfocbfocemapaaGreatProg.lean LOADS. Nothing in Lean hashes anything: it is a label: what it is worth is what the hold of that sum in a sandbox is worth. -/
noncomputable def Tryz.pinned : Pinned := { name := "ytcfocbfocemapaagreat", sum := "2e293fab283ab601d51c99dddfbe0395b7081b8b84dbf58859cc41d95ad4602d", checked := Tryz.checked }
namespace Rows
def none {H : Type} : Left H := { results := [], args := [] }

/-- 'lemmalaw11.StackPlays': WHATEVER THE INPUT: true; the input reads as it did. -/
def stackPlaysSpec : ChangeSpec := { name := "stackPlays", fn := fun _ => fun
  | [d] => { results := [.lit (.bool true)], args := [d] }
  | _ => none }
def stackPlaysRow : OpenClaim := { program := "ytcfocbfocemapaagreat", sum := "2e293fab283ab601d51c99dddfbe0395b7081b8b84dbf58859cc41d95ad4602d", func := "lemma/lemmalaw11.StackPlays", spec := "stackPlays", inPlace := ["slices.overlaps[int]"], unfollowed := true, recurses := true, plainKeys := false, apart := false }
def StackPlaysSaid : Prop := stackPlaysRow.holds Tryz.pinned (OpenSpec.ofChange stackPlaysSpec)

/-- ITS FALSE NEIGHBOUR: 'it returns false'. Refute it at one input. -/
def stackPlaysWrong : ChangeSpec := { name := "stackPlays", fn := fun _ => fun
  | [d] => { results := [.lit (.bool false)], args := [d] }
  | _ => none }
def StackPlaysWrongFalsely : Prop := stackPlaysRow.holds Tryz.pinned (OpenSpec.ofChange stackPlaysWrong)

/-- 'lemmalaw11.StackApplies': WHATEVER THE INPUT: true; the input reads as it did. -/
def stackAppliesSpec : ChangeSpec := { name := "stackApplies", fn := fun _ => fun
  | [d] => { results := [.lit (.bool true)], args := [d] }
  | _ => none }
def stackAppliesRow : OpenClaim := { program := "ytcfocbfocemapaagreat", sum := "2e293fab283ab601d51c99dddfbe0395b7081b8b84dbf58859cc41d95ad4602d", func := "lemma/lemmalaw11.StackApplies", spec := "stackApplies", inPlace := ["slices.overlaps[int]"], unfollowed := true, recurses := true, plainKeys := false, apart := false }
def StackAppliesSaid : Prop := stackAppliesRow.holds Tryz.pinned (OpenSpec.ofChange stackAppliesSpec)

/-- ITS FALSE NEIGHBOUR: 'it returns false'. Refute it at one input. -/
def stackAppliesWrong : ChangeSpec := { name := "stackApplies", fn := fun _ => fun
  | [d] => { results := [.lit (.bool false)], args := [d] }
  | _ => none }
def StackAppliesWrongFalsely : Prop := stackAppliesRow.holds Tryz.pinned (OpenSpec.ofChange stackAppliesWrong)

/-- 'lemmalaw11.StackUnder': WHATEVER THE INPUT: true; the input reads as it did. -/
def stackUnderSpec : ChangeSpec := { name := "stackUnder", fn := fun _ => fun
  | [d1, d2] => { results := [.lit (.bool true)], args := [d1, d2] }
  | _ => none }
def stackUnderRow : OpenClaim := { program := "ytcfocbfocemapaagreat", sum := "2e293fab283ab601d51c99dddfbe0395b7081b8b84dbf58859cc41d95ad4602d", func := "lemma/lemmalaw11.StackUnder", spec := "stackUnder", inPlace := ["slices.overlaps[int]"], unfollowed := true, recurses := true, plainKeys := false, apart := false }
def StackUnderSaid : Prop := stackUnderRow.holds Tryz.pinned (OpenSpec.ofChange stackUnderSpec)

/-- ITS FALSE NEIGHBOUR: 'it returns false'. Refute it at one input. -/
def stackUnderWrong : ChangeSpec := { name := "stackUnder", fn := fun _ => fun
  | [d1, d2] => { results := [.lit (.bool false)], args := [d1, d2] }
  | _ => none }
def StackUnderWrongFalsely : Prop := stackUnderRow.holds Tryz.pinned (OpenSpec.ofChange stackUnderWrong)

/- THE SECOND FORM. 'bulk': how many values and letters a reading holds, each counted each time it is reached (what is shared counts as often as it is met; a slice's spare places count too). A statement '..UptoSaid' is the law's where the arguments, and the package variables that the reading takes, are together of bulk at most 1048576: NARROWER than '..Said'. Prove '..Said' where nothing that the law and all that it calls make is longer than what came in: it says more and counts as full. Else prove '..UptoSaid'. A law counts once. -/
mutual
def uptoBulk {H : Type} : DataW H → Nat
  | .lit (.string bytes) => bytes.length + 1
  | .lit _ => 1
  | .nil => 1
  | .ptr d => uptoBulk d + 1
  | .slice elems spare => uptoBulkAll elems + uptoBulkAll spare + 1
  | .agg parts => uptoBulkAll parts + 1
  | .iface _ d => uptoBulk d + 1
  | .map entries => uptoBulkEntries entries + 1
  | .held _ => 1
def uptoBulkAll {H : Type} : List (DataW H) → Nat
  | [] => 0
  | d :: r => uptoBulk d + uptoBulkAll r
def uptoBulkEntries {H : Type} : List (Lit × DataW H) → Nat
  | [] => 0
  | x :: r => uptoBulkEntry x + uptoBulkEntries r
def uptoBulkEntry {H : Type} : Lit × DataW H → Nat
  | (.string bytes, d) => bytes.length + uptoBulk d + 1
  | (_, d) => uptoBulk d + 1
 end
def uptoSmall : (H : Type) → List (DataW H) → Bool := fun _ ds => decide (uptoBulkAll ds ≤ 1048576)
def OpenSpec.upto (s : _root_.Go.ChangeSpec) : _root_.Go.OpenSpec := { _root_.Go.OpenSpec.ofChange s with cond := some uptoSmall }

/-- 'lemmalaw11.StackPlays', WHERE WHAT IT READS IS OF BULK AT MOST 1048576: true; the input reads as it did. -/
def stackPlaysUptoRow : OpenClaim := { program := "ytcfocbfocemapaagreat", sum := "2e293fab283ab601d51c99dddfbe0395b7081b8b84dbf58859cc41d95ad4602d", func := "lemma/lemmalaw11.StackPlays", spec := "stackPlays", inPlace := ["slices.overlaps[int]"], unfollowed := true, recurses := true, plainKeys := false, apart := false, narrowed := true }
def StackPlaysUptoSaid : Prop := stackPlaysUptoRow.holds Tryz.pinned (OpenSpec.upto stackPlaysSpec)

/-- 'lemmalaw11.StackApplies', WHERE WHAT IT READS IS OF BULK AT MOST 1048576: true; the input reads as it did. -/
def stackAppliesUptoRow : OpenClaim := { program := "ytcfocbfocemapaagreat", sum := "2e293fab283ab601d51c99dddfbe0395b7081b8b84dbf58859cc41d95ad4602d", func := "lemma/lemmalaw11.StackApplies", spec := "stackApplies", inPlace := ["slices.overlaps[int]"], unfollowed := true, recurses := true, plainKeys := false, apart := false, narrowed := true }
def StackAppliesUptoSaid : Prop := stackAppliesUptoRow.holds Tryz.pinned (OpenSpec.upto stackAppliesSpec)

/-- 'lemmalaw11.StackUnder', WHERE WHAT IT READS IS OF BULK AT MOST 1048576: true; the input reads as it did. -/
def stackUnderUptoRow : OpenClaim := { program := "ytcfocbfocemapaagreat", sum := "2e293fab283ab601d51c99dddfbe0395b7081b8b84dbf58859cc41d95ad4602d", func := "lemma/lemmalaw11.StackUnder", spec := "stackUnder", inPlace := ["slices.overlaps[int]"], unfollowed := true, recurses := true, plainKeys := false, apart := false, narrowed := true }
def StackUnderUptoSaid : Prop := stackUnderUptoRow.holds Tryz.pinned (OpenSpec.upto stackUnderSpec)

end Rows
end Go.Proofs.YtcfocbfocemapaaGreat
