/- NameW, WriteW. -/
import Derived.Test.YtkonloadedbpkaaZ0
import Derived.StillTailTactics
import Derived.IntWalk
import Derived.Deep.RegionHeld3
import Derived.Deep.AppendLies
namespace Go.Proofs.Ytkonloadedbpkaa.NameW
open Go.RowKit Go.Maps Go.Proofs.Ytkonloadedbpkaa.Sep Go.Proofs.Ytkonloadedbpkaa.FMaps Go.Proofs.Ytkonloadedbpkaa.FoldPure Go.Proofs.Ytkonloadedbpkaa.FoldMem Go.Proofs.Ytkonloadedbpkaa.FoldRun
open Go.Proofs.YtkonloadedbpkaaW.PrintWords
open Go.Proofs.YtkonloadedbpkaaW.PrintLast
set_option linter.unusedVariables false
set_option linter.unusedSimpArgs false

end Go.Proofs.Ytkonloadedbpkaa.NameW

namespace Go.Proofs.Ytkonloadedbpkaa.WriteW
open Go.RowKit Go.Maps Go.Proofs.Ytkonloadedbpkaa.Sep Go.Proofs.Ytkonloadedbpkaa.FMaps Go.Proofs.Ytkonloadedbpkaa.FoldPure Go.Proofs.Ytkonloadedbpkaa.FoldMem Go.Proofs.Ytkonloadedbpkaa.FoldRun Go.Proofs.Ytkonloadedbpkaa.NameW
open Go.Proofs.YtkonloadedbpkaaW.PrintWords
open Go.Proofs.YtkonloadedbpkaaW.PrintLast
set_option linter.unusedVariables false
set_option linter.unusedSimpArgs false


/-! ### the walk -/
/-- What holds of what is being written. -/
structure WOk (s : WS) : Prop where
  saves : s.saves ≤ s.codes.length
  nums : ∀ x ∈ s.nums, -1 ≤ x ∧ x ≤ (s.codes.length : Int)
theorem cell_far {w w3 : World} {a : Addr} (h : w3.heap[a.block]? = w.heap[a.block]?) : w3.cell? a = w.cell? a ∧ w3.frozen? a = w.frozen? a := by
  constructor
  · simp [World.cell?, h]
  · simp [World.frozen?, h]
end Go.Proofs.Ytkonloadedbpkaa.WriteW
