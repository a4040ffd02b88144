/- What Nodes makes of alive's nodes. -/
import Derived.Test.YtkonloadedbpkaaFoldAll
namespace Go.Proofs.Ytkonloadedbpkaa.AliveP
open Go.Proofs.Ytkonloadedbpkaa.FoldPure Go.Proofs.Ytkonloadedbpkaa.NodesPure Go.Proofs.Ytkonloadedbpkaa.FoldRun
def wpS : ByteArray := { data := #[119, 112] }
def wiS : ByteArray := { data := #[119, 105] }
def aliveN : List Nd := [(wpS, []), (wiS, [0, 0]), (wiS, [1, 1]), (wiS, [2, 2])]
theorem alive_codes : (codesL [wpS] aliveN).codes = [0, 0, 1, -1, 2, 1, -1, 3, 1] := by decide +kernel
theorem alive_names : (namesL [wpS] aliveN).labels = [wiS] := by decide +kernel
end Go.Proofs.Ytkonloadedbpkaa.AliveP
