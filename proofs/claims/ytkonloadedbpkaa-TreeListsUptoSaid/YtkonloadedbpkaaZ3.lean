/- NodesMem, NodesW. -/
import Derived.Test.YtkonloadedbpkaaZ1
import Derived.Test.YtkonloadedbpkaaZ2
import Derived.BigQuiet
import Derived.OwnWalk
namespace Go.Proofs.Ytkonloadedbpkaa.NodesMem
open Go.RowKit Go.Maps Go.Proofs.Ytkonloadedbpkaa.Sep Go.Proofs.Ytkonloadedbpkaa.FMaps Go.Proofs.Ytkonloadedbpkaa.FoldPure Go.Proofs.Ytkonloadedbpkaa.FoldMem Go.Proofs.Ytkonloadedbpkaa.FoldRun Go.Proofs.Ytkonloadedbpkaa.Reached Go.Proofs.Ytkonloadedbpkaa.NodesPure Go.Proofs.Ytkonloadedbpkaa.NameW Go.Proofs.Ytkonloadedbpkaa.WriteW
open Go.Proofs.Ytkonloadedbpkaa.PFoldDoubles
open Go.Proofs.YtkonloadedbpkaaW.PrintWords
set_option linter.unusedVariables false

/-! ### the mandatory hypotheses -/
/-! ### orders -/
end Go.Proofs.Ytkonloadedbpkaa.NodesMem

namespace Go.Proofs.Ytkonloadedbpkaa.NodesW
open Go.RowKit Go.Maps Go.Proofs.Ytkonloadedbpkaa.Sep Go.Proofs.Ytkonloadedbpkaa.FMaps Go.Proofs.Ytkonloadedbpkaa.FoldPure Go.Proofs.Ytkonloadedbpkaa.FoldMem Go.Proofs.Ytkonloadedbpkaa.FoldRun Go.Proofs.Ytkonloadedbpkaa.Reached Go.Proofs.Ytkonloadedbpkaa.NodesPure Go.Proofs.Ytkonloadedbpkaa.NameW Go.Proofs.Ytkonloadedbpkaa.WriteW Go.Proofs.Ytkonloadedbpkaa.NodesMem Go.Proofs.Ytkonloadedbpkaa.Gather
open Go.Proofs.YtkonloadedbpkaaW.PrintWords
open Go.Proofs.YtkonloadedbpkaaW.PrintLast
set_option linter.unusedVariables false
set_option linter.unusedSimpArgs false

end Go.Proofs.Ytkonloadedbpkaa.NodesW
