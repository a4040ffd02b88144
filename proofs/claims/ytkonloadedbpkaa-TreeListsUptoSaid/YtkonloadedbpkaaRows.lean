/-
  No cell of these rows narrows 'for every input' (looked for: loops, veiled, ifaces, maps, wideKeys, modest, calm, conditions, laid).
  DERIVED. THE GIVEN ROWS OF THIS SEAT. 7 by the template 'for every input the law returns true; each argument reads behind the call as it read before'; 0 by the template 'total and deterministic' (their statements: YtkonloadedbpkaaTotals.lean).
  GIVEN WITH THE SEED: the statements are not yours to turn. If you find one false, say at which input.
  Laid BY PROGRAM, IN A SANDBOX (cutbox-rows.mjs): the forced cells as the released guide's own fill.sh prints them over the translation 48c34fd19f864779… (all of the seat's roots in one cut). By AI agents, Wed Nov 11 2026. No macro, syntax, notation, axiom, sorry.
-/
import Derived.Test.YtkonloadedbpkaaChecked
import GoSem.Claim
import GoSem.ClaimJoined
import GoSem.ClaimMapViews
import Derived.JoinedTies
import Derived.KernelRfl
namespace Go.Proofs.Ytkonloadedbpkaa
/- THE CELL 'sum', in the pinned program and in every row, IS THE sha256 OF THE DUMP (.gsa) THAT YtkonloadedbpkaaProg.lean LOADS. Nothing in Lean hashes anything: it is a label: what it is worth is what the hold of that sum in a sandbox is worth. -/
noncomputable def Try.pinned : Pinned := { name := "ytkonloadedbpkaa", sum := "48c34fd19f86477996bf6e3109a90457f36079c6c95c43cb7c822668f9ef647a", checked := Try.checked }
namespace Rows
def none {H : Type} : Left H := { results := [], args := [] }

/-- 'lemmalaw16.FoldDoubles': WHATEVER THE INPUT: true; the input reads as it did. -/
def foldDoublesSpec : ChangeSpec := { name := "foldDoubles", fn := fun _ => fun
  | [d1, d2, d3] => { results := [.lit (.bool true)], args := [d1, d2, d3] }
  | _ => none }
def foldDoublesRow : OpenClaim := { program := "ytkonloadedbpkaa", sum := "48c34fd19f86477996bf6e3109a90457f36079c6c95c43cb7c822668f9ef647a", func := "lemma/lemmalaw16.FoldDoubles", spec := "foldDoubles", recurses := true, plainKeys := false, apart := false }
def FoldDoublesSaid : Prop := foldDoublesRow.holds Try.pinned (OpenSpec.ofChange foldDoublesSpec)

/-- ITS FALSE NEIGHBOUR: 'it returns false'. Refute it at one input. -/
def foldDoublesWrong : ChangeSpec := { name := "foldDoubles", fn := fun _ => fun
  | [d1, d2, d3] => { results := [.lit (.bool false)], args := [d1, d2, d3] }
  | _ => none }
def FoldDoublesWrongFalsely : Prop := foldDoublesRow.holds Try.pinned (OpenSpec.ofChange foldDoublesWrong)

/-- 'lemmalaw16.FoldMemory': WHATEVER THE INPUT: true; the input reads as it did. -/
def foldMemorySpec : ChangeSpec := { name := "foldMemory", fn := fun _ => fun
  | [d] => { results := [.lit (.bool true)], args := [d] }
  | _ => none }
def foldMemoryRow : OpenClaim := { program := "ytkonloadedbpkaa", sum := "48c34fd19f86477996bf6e3109a90457f36079c6c95c43cb7c822668f9ef647a", func := "lemma/lemmalaw16.FoldMemory", spec := "foldMemory", recurses := true, plainKeys := false, apart := false }
def FoldMemorySaid : Prop := foldMemoryRow.holds Try.pinned (OpenSpec.ofChange foldMemorySpec)

/-- ITS FALSE NEIGHBOUR: 'it returns false'. Refute it at one input. -/
def foldMemoryWrong : ChangeSpec := { name := "foldMemory", fn := fun _ => fun
  | [d] => { results := [.lit (.bool false)], args := [d] }
  | _ => none }
def FoldMemoryWrongFalsely : Prop := foldMemoryRow.holds Try.pinned (OpenSpec.ofChange foldMemoryWrong)

/-- 'lemmalaw13.TreeLists': WHATEVER THE INPUT: true; the input reads as it did. -/
def treeListsSpec : ChangeSpec := { name := "treeLists", fn := fun _ => fun
  | [d1, d2] => { results := [.lit (.bool true)], args := [d1, d2] }
  | _ => none }
def treeListsRow : OpenClaim := { program := "ytkonloadedbpkaa", sum := "48c34fd19f86477996bf6e3109a90457f36079c6c95c43cb7c822668f9ef647a", func := "lemma/lemmalaw13.TreeLists", spec := "treeLists", unfollowed := true, recurses := true, plainKeys := false, apart := false }
def TreeListsSaid : Prop := treeListsRow.holds Try.pinned (OpenSpec.ofChange treeListsSpec)

/-- ITS FALSE NEIGHBOUR: 'it returns false'. Refute it at one input. -/
def treeListsWrong : ChangeSpec := { name := "treeLists", fn := fun _ => fun
  | [d1, d2] => { results := [.lit (.bool false)], args := [d1, d2] }
  | _ => none }
def TreeListsWrongFalsely : Prop := treeListsRow.holds Try.pinned (OpenSpec.ofChange treeListsWrong)

/-- 'lemmalaw13.TreeShares': WHATEVER THE INPUT: true; the input reads as it did. -/
def treeSharesSpec : ChangeSpec := { name := "treeShares", fn := fun _ => fun
  | [d] => { results := [.lit (.bool true)], args := [d] }
  | _ => none }
def treeSharesRow : OpenClaim := { program := "ytkonloadedbpkaa", sum := "48c34fd19f86477996bf6e3109a90457f36079c6c95c43cb7c822668f9ef647a", func := "lemma/lemmalaw13.TreeShares", spec := "treeShares", unfollowed := true, recurses := true, plainKeys := false, apart := false }
def TreeSharesSaid : Prop := treeSharesRow.holds Try.pinned (OpenSpec.ofChange treeSharesSpec)

/-- ITS FALSE NEIGHBOUR: 'it returns false'. Refute it at one input. -/
def treeSharesWrong : ChangeSpec := { name := "treeShares", fn := fun _ => fun
  | [d] => { results := [.lit (.bool false)], args := [d] }
  | _ => none }
def TreeSharesWrongFalsely : Prop := treeSharesRow.holds Try.pinned (OpenSpec.ofChange treeSharesWrong)

/-- 'lemmalaw13.TreeDoubles': WHATEVER THE INPUT: true; the input reads as it did. -/
def treeDoublesSpec : ChangeSpec := { name := "treeDoubles", fn := fun _ => fun
  | [d1, d2, d3] => { results := [.lit (.bool true)], args := [d1, d2, d3] }
  | _ => none }
def treeDoublesRow : OpenClaim := { program := "ytkonloadedbpkaa", sum := "48c34fd19f86477996bf6e3109a90457f36079c6c95c43cb7c822668f9ef647a", func := "lemma/lemmalaw13.TreeDoubles", spec := "treeDoubles", unfollowed := true, recurses := true, plainKeys := false, apart := false }
def TreeDoublesSaid : Prop := treeDoublesRow.holds Try.pinned (OpenSpec.ofChange treeDoublesSpec)

/-- ITS FALSE NEIGHBOUR: 'it returns false'. Refute it at one input. -/
def treeDoublesWrong : ChangeSpec := { name := "treeDoubles", fn := fun _ => fun
  | [d1, d2, d3] => { results := [.lit (.bool false)], args := [d1, d2, d3] }
  | _ => none }
def TreeDoublesWrongFalsely : Prop := treeDoublesRow.holds Try.pinned (OpenSpec.ofChange treeDoublesWrong)

/-- 'lemmalaw16.FoldLeast': WHATEVER THE INPUT: true; the input reads as it did. -/
def foldLeastSpec : ChangeSpec := { name := "foldLeast", fn := fun _ => fun
  | [d] => { results := [.lit (.bool true)], args := [d] }
  | _ => none }
def foldLeastRow : OpenClaim := { program := "ytkonloadedbpkaa", sum := "48c34fd19f86477996bf6e3109a90457f36079c6c95c43cb7c822668f9ef647a", func := "lemma/lemmalaw16.FoldLeast", spec := "foldLeast", unfollowed := true, recurses := true, plainKeys := false, apart := false }
def FoldLeastSaid : Prop := foldLeastRow.holds Try.pinned (OpenSpec.ofChange foldLeastSpec)

/-- ITS FALSE NEIGHBOUR: 'it returns false'. Refute it at one input. -/
def foldLeastWrong : ChangeSpec := { name := "foldLeast", fn := fun _ => fun
  | [d] => { results := [.lit (.bool false)], args := [d] }
  | _ => none }
def FoldLeastWrongFalsely : Prop := foldLeastRow.holds Try.pinned (OpenSpec.ofChange foldLeastWrong)

/-- 'lemmalaw16.FoldLossless': WHATEVER THE INPUT: true; the input reads as it did. -/
def foldLosslessSpec : ChangeSpec := { name := "foldLossless", fn := fun _ => fun
  | [d1, d2] => { results := [.lit (.bool true)], args := [d1, d2] }
  | _ => none }
def foldLosslessRow : OpenClaim := { program := "ytkonloadedbpkaa", sum := "48c34fd19f86477996bf6e3109a90457f36079c6c95c43cb7c822668f9ef647a", func := "lemma/lemmalaw16.FoldLossless", spec := "foldLossless", unfollowed := true, recurses := true, plainKeys := false, apart := false }
def FoldLosslessSaid : Prop := foldLosslessRow.holds Try.pinned (OpenSpec.ofChange foldLosslessSpec)

/-- ITS FALSE NEIGHBOUR: 'it returns false'. Refute it at one input. -/
def foldLosslessWrong : ChangeSpec := { name := "foldLossless", fn := fun _ => fun
  | [d1, d2] => { results := [.lit (.bool false)], args := [d1, d2] }
  | _ => none }
def FoldLosslessWrongFalsely : Prop := foldLosslessRow.holds Try.pinned (OpenSpec.ofChange foldLosslessWrong)

/- THE SECOND FORM. 'bulk': how many values and letters a reading holds, each counted each time it is reached (what is shared counts as often as it is met; a slice's spare places count too). A statement '..UptoSaid' is the law's where the arguments, and the package variables that the reading takes, are together of bulk at most 1048576: NARROWER than '..Said'. Prove '..Said' where nothing that the law and all that it calls make is longer than what came in: it says more and counts as full. Else prove '..UptoSaid'. A law counts once. -/
mutual
def uptoBulk {H : Type} : DataW H → Nat
  | .lit (.string bytes) => bytes.length + 1
  | .lit _ => 1
  | .nil => 1
  | .ptr d => uptoBulk d + 1
  | .slice elems spare => uptoBulkAll elems + uptoBulkAll spare + 1
  | .agg parts => uptoBulkAll parts + 1
  | .iface _ d => uptoBulk d + 1
  | .map entries => uptoBulkEntries entries + 1
  | .held _ => 1
def uptoBulkAll {H : Type} : List (DataW H) → Nat
  | [] => 0
  | d :: r => uptoBulk d + uptoBulkAll r
def uptoBulkEntries {H : Type} : List (Lit × DataW H) → Nat
  | [] => 0
  | x :: r => uptoBulkEntry x + uptoBulkEntries r
def uptoBulkEntry {H : Type} : Lit × DataW H → Nat
  | (.string bytes, d) => bytes.length + uptoBulk d + 1
  | (_, d) => uptoBulk d + 1
 end
def uptoSmall : (H : Type) → List (DataW H) → Bool := fun _ ds => decide (uptoBulkAll ds ≤ 1048576)
def OpenSpec.upto (s : _root_.Go.ChangeSpec) : _root_.Go.OpenSpec := { _root_.Go.OpenSpec.ofChange s with cond := some uptoSmall }

/-- 'lemmalaw16.FoldDoubles', WHERE WHAT IT READS IS OF BULK AT MOST 1048576: true; the input reads as it did. -/
def foldDoublesUptoRow : OpenClaim := { program := "ytkonloadedbpkaa", sum := "48c34fd19f86477996bf6e3109a90457f36079c6c95c43cb7c822668f9ef647a", func := "lemma/lemmalaw16.FoldDoubles", spec := "foldDoubles", recurses := true, plainKeys := false, apart := false, narrowed := true }
def FoldDoublesUptoSaid : Prop := foldDoublesUptoRow.holds Try.pinned (OpenSpec.upto foldDoublesSpec)

/-- 'lemmalaw16.FoldMemory', WHERE WHAT IT READS IS OF BULK AT MOST 1048576: true; the input reads as it did. -/
def foldMemoryUptoRow : OpenClaim := { program := "ytkonloadedbpkaa", sum := "48c34fd19f86477996bf6e3109a90457f36079c6c95c43cb7c822668f9ef647a", func := "lemma/lemmalaw16.FoldMemory", spec := "foldMemory", recurses := true, plainKeys := false, apart := false, narrowed := true }
def FoldMemoryUptoSaid : Prop := foldMemoryUptoRow.holds Try.pinned (OpenSpec.upto foldMemorySpec)

/-- 'lemmalaw13.TreeLists', WHERE WHAT IT READS IS OF BULK AT MOST 1048576: true; the input reads as it did. -/
def treeListsUptoRow : OpenClaim := { program := "ytkonloadedbpkaa", sum := "48c34fd19f86477996bf6e3109a90457f36079c6c95c43cb7c822668f9ef647a", func := "lemma/lemmalaw13.TreeLists", spec := "treeLists", unfollowed := true, recurses := true, plainKeys := false, apart := false, narrowed := true }
def TreeListsUptoSaid : Prop := treeListsUptoRow.holds Try.pinned (OpenSpec.upto treeListsSpec)

/-- 'lemmalaw13.TreeShares', WHERE WHAT IT READS IS OF BULK AT MOST 1048576: true; the input reads as it did. -/
def treeSharesUptoRow : OpenClaim := { program := "ytkonloadedbpkaa", sum := "48c34fd19f86477996bf6e3109a90457f36079c6c95c43cb7c822668f9ef647a", func := "lemma/lemmalaw13.TreeShares", spec := "treeShares", unfollowed := true, recurses := true, plainKeys := false, apart := false, narrowed := true }
def TreeSharesUptoSaid : Prop := treeSharesUptoRow.holds Try.pinned (OpenSpec.upto treeSharesSpec)

/-- 'lemmalaw13.TreeDoubles', WHERE WHAT IT READS IS OF BULK AT MOST 1048576: true; the input reads as it did. -/
def treeDoublesUptoRow : OpenClaim := { program := "ytkonloadedbpkaa", sum := "48c34fd19f86477996bf6e3109a90457f36079c6c95c43cb7c822668f9ef647a", func := "lemma/lemmalaw13.TreeDoubles", spec := "treeDoubles", unfollowed := true, recurses := true, plainKeys := false, apart := false, narrowed := true }
def TreeDoublesUptoSaid : Prop := treeDoublesUptoRow.holds Try.pinned (OpenSpec.upto treeDoublesSpec)

/-- 'lemmalaw16.FoldLeast', WHERE WHAT IT READS IS OF BULK AT MOST 1048576: true; the input reads as it did. -/
def foldLeastUptoRow : OpenClaim := { program := "ytkonloadedbpkaa", sum := "48c34fd19f86477996bf6e3109a90457f36079c6c95c43cb7c822668f9ef647a", func := "lemma/lemmalaw16.FoldLeast", spec := "foldLeast", unfollowed := true, recurses := true, plainKeys := false, apart := false, narrowed := true }
def FoldLeastUptoSaid : Prop := foldLeastUptoRow.holds Try.pinned (OpenSpec.upto foldLeastSpec)

/-- 'lemmalaw16.FoldLossless', WHERE WHAT IT READS IS OF BULK AT MOST 1048576: true; the input reads as it did. -/
def foldLosslessUptoRow : OpenClaim := { program := "ytkonloadedbpkaa", sum := "48c34fd19f86477996bf6e3109a90457f36079c6c95c43cb7c822668f9ef647a", func := "lemma/lemmalaw16.FoldLossless", spec := "foldLossless", unfollowed := true, recurses := true, plainKeys := false, apart := false, narrowed := true }
def FoldLosslessUptoSaid : Prop := foldLosslessUptoRow.holds Try.pinned (OpenSpec.upto foldLosslessSpec)

end Rows
end Go.Proofs.Ytkonloadedbpkaa
