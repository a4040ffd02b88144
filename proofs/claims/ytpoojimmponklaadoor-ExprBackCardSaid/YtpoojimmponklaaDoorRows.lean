/-
  NARROWER THAN 'FOR EVERY INPUT', by the rows' own cells (each row's printed sentence says how): SymScopes: laid · SymForever: laid · SymLabels: laid · SymMemory: laid · SymFinds: laid · SymFull: laid · SymPlays: laid · ExprKeeps: laid · ExprWords: laid · ExprBack: laid.
  DERIVED. THE GIVEN ROWS OF THIS SEAT. 10 by the template 'for every input the law returns true; each argument reads behind the call as it read before'; 0 by the template 'total and deterministic' (their statements: YtpoojimmponklaaDoorTotals.lean).
  GIVEN WITH THE SEED: the statements are not yours to turn. If you find one false, say at which input.
  Laid BY PROGRAM, IN A SANDBOX (cutbox-rows.mjs): the forced cells as the released guide's own fill.sh prints them over the translation 8cfe8e9a4196a428… (all of the seat's roots in one cut). By AI agents, Wed Nov 11 2026. No macro, syntax, notation, axiom, sorry.
-/
import Derived.Test.YtpoojimmponklaaDoorChecked
import GoSem.Claim
import GoSem.ClaimJoined
import GoSem.ClaimMapViews
import Derived.JoinedTies
import Derived.KernelRfl
namespace Go.Proofs.YtpoojimmponklaaDoor
/- THE CELL 'sum', in the pinned program and in every row, IS THE sha256 OF THE DUMP (.gsa) THAT YtpoojimmponklaaDoorProg.lean LOADS. Nothing in Lean hashes anything: it is a label: what it is worth is what the hold of that sum in a sandbox is worth. -/
noncomputable def Tryd.pinned : Pinned := { name := "ytpoojimmponklaadoor", sum := "8cfe8e9a4196a428eb7752b9a8407c6cd90b4a966c49461c3646a86889ea9084", checked := Tryd.checked }
namespace Rows
def none {H : Type} : Left H := { results := [], args := [] }

/- WHAT THE LISTED PACKAGE-LEVEL VARIABLES READ AS WHEN THE CALL BEGINS. Each datum BY PROGRAM (the guide's laid-datum.mjs) off the statement by which the dump's own 'gosem.cut.vars' lays the variable. In a bare row this is a premise. The card (YtpoojimmponklaaDoorCards.lean) ties it to the program's text. -/
def laid_lemma_scan_blanks {H : Type} : DataW H := .agg [.lit (.bool false), .lit (.bool false), .lit (.bool false), .lit (.bool false), .lit (.bool false), .lit (.bool false), .lit (.bool false), .lit (.bool false), .lit (.bool false), .lit (.bool true), .lit (.bool true), .lit (.bool false), .lit (.bool true), .lit (.bool true), .lit (.bool false), .lit (.bool false), .lit (.bool false), .lit (.bool false), .lit (.bool false), .lit (.bool false), .lit (.bool false), .lit (.bool false), .lit (.bool false), .lit (.bool false), .lit (.bool false), .lit (.bool false), .lit (.bool false), .lit (.bool false), .lit (.bool false), .lit (.bool false), .lit (.bool false), .lit (.bool false), .lit (.bool true)]
def laid_math_bits_deBruijn32tab {H : Type} : DataW H := .agg [.lit (.int .u8 0), .lit (.int .u8 1), .lit (.int .u8 28), .lit (.int .u8 2), .lit (.int .u8 29), .lit (.int .u8 14), .lit (.int .u8 24), .lit (.int .u8 3), .lit (.int .u8 30), .lit (.int .u8 22), .lit (.int .u8 20), .lit (.int .u8 15), .lit (.int .u8 25), .lit (.int .u8 17), .lit (.int .u8 4), .lit (.int .u8 8), .lit (.int .u8 31), .lit (.int .u8 27), .lit (.int .u8 13), .lit (.int .u8 23), .lit (.int .u8 21), .lit (.int .u8 19), .lit (.int .u8 16), .lit (.int .u8 7), .lit (.int .u8 26), .lit (.int .u8 12), .lit (.int .u8 18), .lit (.int .u8 6), .lit (.int .u8 11), .lit (.int .u8 5), .lit (.int .u8 10), .lit (.int .u8 9)]
def laid_math_bits_deBruijn64tab {H : Type} : DataW H := .agg [.lit (.int .u8 0), .lit (.int .u8 1), .lit (.int .u8 56), .lit (.int .u8 2), .lit (.int .u8 57), .lit (.int .u8 49), .lit (.int .u8 28), .lit (.int .u8 3), .lit (.int .u8 61), .lit (.int .u8 58), .lit (.int .u8 42), .lit (.int .u8 50), .lit (.int .u8 38), .lit (.int .u8 29), .lit (.int .u8 17), .lit (.int .u8 4), .lit (.int .u8 62), .lit (.int .u8 47), .lit (.int .u8 59), .lit (.int .u8 36), .lit (.int .u8 45), .lit (.int .u8 43), .lit (.int .u8 51), .lit (.int .u8 22), .lit (.int .u8 53), .lit (.int .u8 39), .lit (.int .u8 33), .lit (.int .u8 30), .lit (.int .u8 24), .lit (.int .u8 18), .lit (.int .u8 12), .lit (.int .u8 5), .lit (.int .u8 63), .lit (.int .u8 55), .lit (.int .u8 48), .lit (.int .u8 27), .lit (.int .u8 60), .lit (.int .u8 41), .lit (.int .u8 37), .lit (.int .u8 16), .lit (.int .u8 46), .lit (.int .u8 35), .lit (.int .u8 44), .lit (.int .u8 21), .lit (.int .u8 52), .lit (.int .u8 32), .lit (.int .u8 23), .lit (.int .u8 11), .lit (.int .u8 54), .lit (.int .u8 26), .lit (.int .u8 40), .lit (.int .u8 15), .lit (.int .u8 34), .lit (.int .u8 20), .lit (.int .u8 31), .lit (.int .u8 10), .lit (.int .u8 25), .lit (.int .u8 14), .lit (.int .u8 19), .lit (.int .u8 9), .lit (.int .u8 13), .lit (.int .u8 8), .lit (.int .u8 7), .lit (.int .u8 6)]
def laid_internal_strconv_uint64pow10 {H : Type} : DataW H := .agg [.lit (.int .u64 1), .lit (.int .u64 10), .lit (.int .u64 100), .lit (.int .u64 1000), .lit (.int .u64 10000), .lit (.int .u64 100000), .lit (.int .u64 1000000), .lit (.int .u64 10000000), .lit (.int .u64 100000000), .lit (.int .u64 1000000000), .lit (.int .u64 10000000000), .lit (.int .u64 100000000000), .lit (.int .u64 1000000000000), .lit (.int .u64 10000000000000), .lit (.int .u64 100000000000000), .lit (.int .u64 1000000000000000), .lit (.int .u64 10000000000000000), .lit (.int .u64 100000000000000000), .lit (.int .u64 1000000000000000000), .lit (.int .u64 10000000000000000000)]

/-- 'lemmalaw02.SymScopes': WHATEVER THE INPUT: true; the input reads as it did. -/
def symScopesSpec : ChangeSpec := { name := "symScopes", fn := fun _ => fun
  | [d1, d2] => { results := [.lit (.bool true)], args := [d1, d2] }
  | _ => none }
def symScopesRow : OpenClaim := { program := "ytpoojimmponklaadoor", sum := "8cfe8e9a4196a428eb7752b9a8407c6cd90b4a966c49461c3646a86889ea9084", func := "lemma/lemmalaw02.SymScopes", spec := "symScopes", named := ["lemma/scan.blanks"], apart := false, laid := [("lemma/scan.blanks", laid_lemma_scan_blanks)] }
def SymScopesSaid : Prop := symScopesRow.holds Tryd.pinned (OpenSpec.ofChange symScopesSpec)

/-- ITS FALSE NEIGHBOUR: 'it returns false'. Refute it at one input. -/
def symScopesWrong : ChangeSpec := { name := "symScopes", fn := fun _ => fun
  | [d1, d2] => { results := [.lit (.bool false)], args := [d1, d2] }
  | _ => none }
def SymScopesWrongFalsely : Prop := symScopesRow.holds Tryd.pinned (OpenSpec.ofChange symScopesWrong)

/-- 'lemmalaw02.SymForever': WHATEVER THE INPUT: true; the input reads as it did. -/
def symForeverSpec : ChangeSpec := { name := "symForever", fn := fun _ => fun
  | [d] => { results := [.lit (.bool true)], args := [d] }
  | _ => none }
def symForeverRow : OpenClaim := { program := "ytpoojimmponklaadoor", sum := "8cfe8e9a4196a428eb7752b9a8407c6cd90b4a966c49461c3646a86889ea9084", func := "lemma/lemmalaw02.SymForever", spec := "symForever", named := ["lemma/scan.blanks"], apart := false, laid := [("lemma/scan.blanks", laid_lemma_scan_blanks)] }
def SymForeverSaid : Prop := symForeverRow.holds Tryd.pinned (OpenSpec.ofChange symForeverSpec)

/-- ITS FALSE NEIGHBOUR: 'it returns false'. Refute it at one input. -/
def symForeverWrong : ChangeSpec := { name := "symForever", fn := fun _ => fun
  | [d] => { results := [.lit (.bool false)], args := [d] }
  | _ => none }
def SymForeverWrongFalsely : Prop := symForeverRow.holds Tryd.pinned (OpenSpec.ofChange symForeverWrong)

/-- 'lemmalaw02.SymLabels': WHATEVER THE INPUT: true; the input reads as it did. -/
def symLabelsSpec : ChangeSpec := { name := "symLabels", fn := fun _ => fun
  | [d] => { results := [.lit (.bool true)], args := [d] }
  | _ => none }
def symLabelsRow : OpenClaim := { program := "ytpoojimmponklaadoor", sum := "8cfe8e9a4196a428eb7752b9a8407c6cd90b4a966c49461c3646a86889ea9084", func := "lemma/lemmalaw02.SymLabels", spec := "symLabels", named := ["lemma/scan.blanks"], apart := false, laid := [("lemma/scan.blanks", laid_lemma_scan_blanks)] }
def SymLabelsSaid : Prop := symLabelsRow.holds Tryd.pinned (OpenSpec.ofChange symLabelsSpec)

/-- ITS FALSE NEIGHBOUR: 'it returns false'. Refute it at one input. -/
def symLabelsWrong : ChangeSpec := { name := "symLabels", fn := fun _ => fun
  | [d] => { results := [.lit (.bool false)], args := [d] }
  | _ => none }
def SymLabelsWrongFalsely : Prop := symLabelsRow.holds Tryd.pinned (OpenSpec.ofChange symLabelsWrong)

/-- 'lemmalaw02.SymMemory': WHATEVER THE INPUT: true; the input reads as it did. -/
def symMemorySpec : ChangeSpec := { name := "symMemory", fn := fun _ => fun
  | [d] => { results := [.lit (.bool true)], args := [d] }
  | _ => none }
def symMemoryRow : OpenClaim := { program := "ytpoojimmponklaadoor", sum := "8cfe8e9a4196a428eb7752b9a8407c6cd90b4a966c49461c3646a86889ea9084", func := "lemma/lemmalaw02.SymMemory", spec := "symMemory", named := ["lemma/scan.blanks"], apart := false, laid := [("lemma/scan.blanks", laid_lemma_scan_blanks)] }
def SymMemorySaid : Prop := symMemoryRow.holds Tryd.pinned (OpenSpec.ofChange symMemorySpec)

/-- ITS FALSE NEIGHBOUR: 'it returns false'. Refute it at one input. -/
def symMemoryWrong : ChangeSpec := { name := "symMemory", fn := fun _ => fun
  | [d] => { results := [.lit (.bool false)], args := [d] }
  | _ => none }
def SymMemoryWrongFalsely : Prop := symMemoryRow.holds Tryd.pinned (OpenSpec.ofChange symMemoryWrong)

/-- 'lemmalaw02.SymFinds': WHATEVER THE INPUT: true; the input reads as it did. -/
def symFindsSpec : ChangeSpec := { name := "symFinds", fn := fun _ => fun
  | [d1, d2] => { results := [.lit (.bool true)], args := [d1, d2] }
  | _ => none }
def symFindsRow : OpenClaim := { program := "ytpoojimmponklaadoor", sum := "8cfe8e9a4196a428eb7752b9a8407c6cd90b4a966c49461c3646a86889ea9084", func := "lemma/lemmalaw02.SymFinds", spec := "symFinds", named := ["lemma/scan.blanks"], apart := false, laid := [("lemma/scan.blanks", laid_lemma_scan_blanks)] }
def SymFindsSaid : Prop := symFindsRow.holds Tryd.pinned (OpenSpec.ofChange symFindsSpec)

/-- ITS FALSE NEIGHBOUR: 'it returns false'. Refute it at one input. -/
def symFindsWrong : ChangeSpec := { name := "symFinds", fn := fun _ => fun
  | [d1, d2] => { results := [.lit (.bool false)], args := [d1, d2] }
  | _ => none }
def SymFindsWrongFalsely : Prop := symFindsRow.holds Tryd.pinned (OpenSpec.ofChange symFindsWrong)

/-- 'lemmalaw02.SymFull': WHATEVER THE INPUT: true; the input reads as it did. -/
def symFullSpec : ChangeSpec := { name := "symFull", fn := fun _ => fun
  | [d1, d2] => { results := [.lit (.bool true)], args := [d1, d2] }
  | _ => none }
def symFullRow : OpenClaim := { program := "ytpoojimmponklaadoor", sum := "8cfe8e9a4196a428eb7752b9a8407c6cd90b4a966c49461c3646a86889ea9084", func := "lemma/lemmalaw02.SymFull", spec := "symFull", named := ["lemma/scan.blanks"], apart := false, laid := [("lemma/scan.blanks", laid_lemma_scan_blanks)] }
def SymFullSaid : Prop := symFullRow.holds Tryd.pinned (OpenSpec.ofChange symFullSpec)

/-- ITS FALSE NEIGHBOUR: 'it returns false'. Refute it at one input. -/
def symFullWrong : ChangeSpec := { name := "symFull", fn := fun _ => fun
  | [d1, d2] => { results := [.lit (.bool false)], args := [d1, d2] }
  | _ => none }
def SymFullWrongFalsely : Prop := symFullRow.holds Tryd.pinned (OpenSpec.ofChange symFullWrong)

/-- 'lemmalaw02.SymPlays': WHATEVER THE INPUT: true; the input reads as it did. -/
def symPlaysSpec : ChangeSpec := { name := "symPlays", fn := fun _ => fun
  | [d] => { results := [.lit (.bool true)], args := [d] }
  | _ => none }
def symPlaysRow : OpenClaim := { program := "ytpoojimmponklaadoor", sum := "8cfe8e9a4196a428eb7752b9a8407c6cd90b4a966c49461c3646a86889ea9084", func := "lemma/lemmalaw02.SymPlays", spec := "symPlays", named := ["lemma/scan.blanks"], apart := false, laid := [("lemma/scan.blanks", laid_lemma_scan_blanks)] }
def SymPlaysSaid : Prop := symPlaysRow.holds Tryd.pinned (OpenSpec.ofChange symPlaysSpec)

/-- ITS FALSE NEIGHBOUR: 'it returns false'. Refute it at one input. -/
def symPlaysWrong : ChangeSpec := { name := "symPlays", fn := fun _ => fun
  | [d] => { results := [.lit (.bool false)], args := [d] }
  | _ => none }
def SymPlaysWrongFalsely : Prop := symPlaysRow.holds Tryd.pinned (OpenSpec.ofChange symPlaysWrong)

/-- 'lemmalaw03.ExprKeeps': WHATEVER THE INPUT: true; the input reads as it did. -/
def exprKeepsSpec : ChangeSpec := { name := "exprKeeps", fn := fun _ => fun
  | [d1, d2] => { results := [.lit (.bool true)], args := [d1, d2] }
  | _ => none }
def exprKeepsRow : OpenClaim := { program := "ytpoojimmponklaadoor", sum := "8cfe8e9a4196a428eb7752b9a8407c6cd90b4a966c49461c3646a86889ea9084", func := "lemma/lemmalaw03.ExprKeeps", spec := "exprKeeps", inPlace := ["slices.overlaps[int]"], unfollowed := true, recurses := true, named := ["lemma/scan.blanks"], apart := false, laid := [("lemma/scan.blanks", laid_lemma_scan_blanks)] }
def ExprKeepsSaid : Prop := exprKeepsRow.holds Tryd.pinned (OpenSpec.ofChange exprKeepsSpec)

/-- ITS FALSE NEIGHBOUR: 'it returns false'. Refute it at one input. -/
def exprKeepsWrong : ChangeSpec := { name := "exprKeeps", fn := fun _ => fun
  | [d1, d2] => { results := [.lit (.bool false)], args := [d1, d2] }
  | _ => none }
def ExprKeepsWrongFalsely : Prop := exprKeepsRow.holds Tryd.pinned (OpenSpec.ofChange exprKeepsWrong)

/-- 'lemmalaw03.ExprWords': WHATEVER THE INPUT: true; the input reads as it did. -/
def exprWordsSpec : ChangeSpec := { name := "exprWords", fn := fun _ => fun
  | [d1, d2, d3] => { results := [.lit (.bool true)], args := [d1, d2, d3] }
  | _ => none }
def exprWordsRow : OpenClaim := { program := "ytpoojimmponklaadoor", sum := "8cfe8e9a4196a428eb7752b9a8407c6cd90b4a966c49461c3646a86889ea9084", func := "lemma/lemmalaw03.ExprWords", spec := "exprWords", inPlace := ["internal/abi.NoEscape", "internal/bytealg.MakeNoZero"], named := ["lemma/scan.blanks", "internal/strconv.uint64pow10", "math/bits.deBruijn32tab", "math/bits.deBruijn64tab"], apart := false, laid := [("math/bits.deBruijn32tab", laid_math_bits_deBruijn32tab), ("math/bits.deBruijn64tab", laid_math_bits_deBruijn64tab), ("internal/strconv.uint64pow10", laid_internal_strconv_uint64pow10), ("lemma/scan.blanks", laid_lemma_scan_blanks)] }
def ExprWordsSaid : Prop := exprWordsRow.holds Tryd.pinned (OpenSpec.ofChange exprWordsSpec)

/-- ITS FALSE NEIGHBOUR: 'it returns false'. Refute it at one input. -/
def exprWordsWrong : ChangeSpec := { name := "exprWords", fn := fun _ => fun
  | [d1, d2, d3] => { results := [.lit (.bool false)], args := [d1, d2, d3] }
  | _ => none }
def ExprWordsWrongFalsely : Prop := exprWordsRow.holds Tryd.pinned (OpenSpec.ofChange exprWordsWrong)

/-- 'lemmalaw03.ExprBack': WHATEVER THE INPUT: true; the input reads as it did. -/
def exprBackSpec : ChangeSpec := { name := "exprBack", fn := fun _ => fun
  | [d1, d2, d3] => { results := [.lit (.bool true)], args := [d1, d2, d3] }
  | _ => none }
def exprBackRow : OpenClaim := { program := "ytpoojimmponklaadoor", sum := "8cfe8e9a4196a428eb7752b9a8407c6cd90b4a966c49461c3646a86889ea9084", func := "lemma/lemmalaw03.ExprBack", spec := "exprBack", inPlace := ["internal/abi.NoEscape", "internal/bytealg.MakeNoZero", "slices.overlaps[int]"], unfollowed := true, recurses := true, named := ["lemma/scan.blanks", "internal/strconv.uint64pow10", "math/bits.deBruijn32tab", "math/bits.deBruijn64tab"], apart := false, laid := [("math/bits.deBruijn32tab", laid_math_bits_deBruijn32tab), ("math/bits.deBruijn64tab", laid_math_bits_deBruijn64tab), ("internal/strconv.uint64pow10", laid_internal_strconv_uint64pow10), ("lemma/scan.blanks", laid_lemma_scan_blanks)] }
def ExprBackSaid : Prop := exprBackRow.holds Tryd.pinned (OpenSpec.ofChange exprBackSpec)

/-- ITS FALSE NEIGHBOUR: 'it returns false'. Refute it at one input. -/
def exprBackWrong : ChangeSpec := { name := "exprBack", fn := fun _ => fun
  | [d1, d2, d3] => { results := [.lit (.bool false)], args := [d1, d2, d3] }
  | _ => none }
def ExprBackWrongFalsely : Prop := exprBackRow.holds Tryd.pinned (OpenSpec.ofChange exprBackWrong)

/- THE SECOND FORM. 'bulk': how many values and letters a reading holds, each counted each time it is reached (what is shared counts as often as it is met; a slice's spare places count too). A statement '..UptoSaid' is the law's where the arguments, and the package variables that the reading takes, are together of bulk at most 1048576: NARROWER than '..Said'. Prove '..Said' where nothing that the law and all that it calls make is longer than what came in: it says more and counts as full. Else prove '..UptoSaid'. A law counts once. -/
mutual
def uptoBulk {H : Type} : DataW H → Nat
  | .lit (.string bytes) => bytes.length + 1
  | .lit _ => 1
  | .nil => 1
  | .ptr d => uptoBulk d + 1
  | .slice elems spare => uptoBulkAll elems + uptoBulkAll spare + 1
  | .agg parts => uptoBulkAll parts + 1
  | .iface _ d => uptoBulk d + 1
  | .map entries => uptoBulkEntries entries + 1
  | .held _ => 1
def uptoBulkAll {H : Type} : List (DataW H) → Nat
  | [] => 0
  | d :: r => uptoBulk d + uptoBulkAll r
def uptoBulkEntries {H : Type} : List (Lit × DataW H) → Nat
  | [] => 0
  | x :: r => uptoBulkEntry x + uptoBulkEntries r
def uptoBulkEntry {H : Type} : Lit × DataW H → Nat
  | (.string bytes, d) => bytes.length + uptoBulk d + 1
  | (_, d) => uptoBulk d + 1
 end
def uptoSmall : (H : Type) → List (DataW H) → Bool := fun _ ds => decide (uptoBulkAll ds ≤ 1048576)
def OpenSpec.upto (s : _root_.Go.ChangeSpec) : _root_.Go.OpenSpec := { _root_.Go.OpenSpec.ofChange s with cond := some uptoSmall }

/-- 'lemmalaw02.SymScopes', WHERE WHAT IT READS IS OF BULK AT MOST 1048576: true; the input reads as it did. -/
def symScopesUptoRow : OpenClaim := { program := "ytpoojimmponklaadoor", sum := "8cfe8e9a4196a428eb7752b9a8407c6cd90b4a966c49461c3646a86889ea9084", func := "lemma/lemmalaw02.SymScopes", spec := "symScopes", named := ["lemma/scan.blanks"], apart := false, laid := [("lemma/scan.blanks", laid_lemma_scan_blanks)], narrowed := true }
def SymScopesUptoSaid : Prop := symScopesUptoRow.holds Tryd.pinned (OpenSpec.upto symScopesSpec)

/-- 'lemmalaw02.SymForever', WHERE WHAT IT READS IS OF BULK AT MOST 1048576: true; the input reads as it did. -/
def symForeverUptoRow : OpenClaim := { program := "ytpoojimmponklaadoor", sum := "8cfe8e9a4196a428eb7752b9a8407c6cd90b4a966c49461c3646a86889ea9084", func := "lemma/lemmalaw02.SymForever", spec := "symForever", named := ["lemma/scan.blanks"], apart := false, laid := [("lemma/scan.blanks", laid_lemma_scan_blanks)], narrowed := true }
def SymForeverUptoSaid : Prop := symForeverUptoRow.holds Tryd.pinned (OpenSpec.upto symForeverSpec)

/-- 'lemmalaw02.SymLabels', WHERE WHAT IT READS IS OF BULK AT MOST 1048576: true; the input reads as it did. -/
def symLabelsUptoRow : OpenClaim := { program := "ytpoojimmponklaadoor", sum := "8cfe8e9a4196a428eb7752b9a8407c6cd90b4a966c49461c3646a86889ea9084", func := "lemma/lemmalaw02.SymLabels", spec := "symLabels", named := ["lemma/scan.blanks"], apart := false, laid := [("lemma/scan.blanks", laid_lemma_scan_blanks)], narrowed := true }
def SymLabelsUptoSaid : Prop := symLabelsUptoRow.holds Tryd.pinned (OpenSpec.upto symLabelsSpec)

/-- 'lemmalaw02.SymMemory', WHERE WHAT IT READS IS OF BULK AT MOST 1048576: true; the input reads as it did. -/
def symMemoryUptoRow : OpenClaim := { program := "ytpoojimmponklaadoor", sum := "8cfe8e9a4196a428eb7752b9a8407c6cd90b4a966c49461c3646a86889ea9084", func := "lemma/lemmalaw02.SymMemory", spec := "symMemory", named := ["lemma/scan.blanks"], apart := false, laid := [("lemma/scan.blanks", laid_lemma_scan_blanks)], narrowed := true }
def SymMemoryUptoSaid : Prop := symMemoryUptoRow.holds Tryd.pinned (OpenSpec.upto symMemorySpec)

/-- 'lemmalaw02.SymFinds', WHERE WHAT IT READS IS OF BULK AT MOST 1048576: true; the input reads as it did. -/
def symFindsUptoRow : OpenClaim := { program := "ytpoojimmponklaadoor", sum := "8cfe8e9a4196a428eb7752b9a8407c6cd90b4a966c49461c3646a86889ea9084", func := "lemma/lemmalaw02.SymFinds", spec := "symFinds", named := ["lemma/scan.blanks"], apart := false, laid := [("lemma/scan.blanks", laid_lemma_scan_blanks)], narrowed := true }
def SymFindsUptoSaid : Prop := symFindsUptoRow.holds Tryd.pinned (OpenSpec.upto symFindsSpec)

/-- 'lemmalaw02.SymFull', WHERE WHAT IT READS IS OF BULK AT MOST 1048576: true; the input reads as it did. -/
def symFullUptoRow : OpenClaim := { program := "ytpoojimmponklaadoor", sum := "8cfe8e9a4196a428eb7752b9a8407c6cd90b4a966c49461c3646a86889ea9084", func := "lemma/lemmalaw02.SymFull", spec := "symFull", named := ["lemma/scan.blanks"], apart := false, laid := [("lemma/scan.blanks", laid_lemma_scan_blanks)], narrowed := true }
def SymFullUptoSaid : Prop := symFullUptoRow.holds Tryd.pinned (OpenSpec.upto symFullSpec)

/-- 'lemmalaw02.SymPlays', WHERE WHAT IT READS IS OF BULK AT MOST 1048576: true; the input reads as it did. -/
def symPlaysUptoRow : OpenClaim := { program := "ytpoojimmponklaadoor", sum := "8cfe8e9a4196a428eb7752b9a8407c6cd90b4a966c49461c3646a86889ea9084", func := "lemma/lemmalaw02.SymPlays", spec := "symPlays", named := ["lemma/scan.blanks"], apart := false, laid := [("lemma/scan.blanks", laid_lemma_scan_blanks)], narrowed := true }
def SymPlaysUptoSaid : Prop := symPlaysUptoRow.holds Tryd.pinned (OpenSpec.upto symPlaysSpec)

/-- 'lemmalaw03.ExprKeeps', WHERE WHAT IT READS IS OF BULK AT MOST 1048576: true; the input reads as it did. -/
def exprKeepsUptoRow : OpenClaim := { program := "ytpoojimmponklaadoor", sum := "8cfe8e9a4196a428eb7752b9a8407c6cd90b4a966c49461c3646a86889ea9084", func := "lemma/lemmalaw03.ExprKeeps", spec := "exprKeeps", inPlace := ["slices.overlaps[int]"], unfollowed := true, recurses := true, named := ["lemma/scan.blanks"], apart := false, laid := [("lemma/scan.blanks", laid_lemma_scan_blanks)], narrowed := true }
def ExprKeepsUptoSaid : Prop := exprKeepsUptoRow.holds Tryd.pinned (OpenSpec.upto exprKeepsSpec)

/-- 'lemmalaw03.ExprWords', WHERE WHAT IT READS IS OF BULK AT MOST 1048576: true; the input reads as it did. -/
def exprWordsUptoRow : OpenClaim := { program := "ytpoojimmponklaadoor", sum := "8cfe8e9a4196a428eb7752b9a8407c6cd90b4a966c49461c3646a86889ea9084", func := "lemma/lemmalaw03.ExprWords", spec := "exprWords", inPlace := ["internal/abi.NoEscape", "internal/bytealg.MakeNoZero"], named := ["lemma/scan.blanks", "internal/strconv.uint64pow10", "math/bits.deBruijn32tab", "math/bits.deBruijn64tab"], apart := false, laid := [("math/bits.deBruijn32tab", laid_math_bits_deBruijn32tab), ("math/bits.deBruijn64tab", laid_math_bits_deBruijn64tab), ("internal/strconv.uint64pow10", laid_internal_strconv_uint64pow10), ("lemma/scan.blanks", laid_lemma_scan_blanks)], narrowed := true }
def ExprWordsUptoSaid : Prop := exprWordsUptoRow.holds Tryd.pinned (OpenSpec.upto exprWordsSpec)

/-- 'lemmalaw03.ExprBack', WHERE WHAT IT READS IS OF BULK AT MOST 1048576: true; the input reads as it did. -/
def exprBackUptoRow : OpenClaim := { program := "ytpoojimmponklaadoor", sum := "8cfe8e9a4196a428eb7752b9a8407c6cd90b4a966c49461c3646a86889ea9084", func := "lemma/lemmalaw03.ExprBack", spec := "exprBack", inPlace := ["internal/abi.NoEscape", "internal/bytealg.MakeNoZero", "slices.overlaps[int]"], unfollowed := true, recurses := true, named := ["lemma/scan.blanks", "internal/strconv.uint64pow10", "math/bits.deBruijn32tab", "math/bits.deBruijn64tab"], apart := false, laid := [("math/bits.deBruijn32tab", laid_math_bits_deBruijn32tab), ("math/bits.deBruijn64tab", laid_math_bits_deBruijn64tab), ("internal/strconv.uint64pow10", laid_internal_strconv_uint64pow10), ("lemma/scan.blanks", laid_lemma_scan_blanks)], narrowed := true }
def ExprBackUptoSaid : Prop := exprBackUptoRow.holds Tryd.pinned (OpenSpec.upto exprBackSpec)

end Rows
end Go.Proofs.YtpoojimmponklaaDoor
