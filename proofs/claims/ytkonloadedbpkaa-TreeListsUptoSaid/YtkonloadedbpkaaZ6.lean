/- Kept. -/
import Derived.Test.YtkonloadedbpkaaZ3
import Derived.Test.YtkonloadedbpkaaZ5
import Derived.OwnWalk
namespace Go.Proofs.Ytkonloadedbpkaa.Kept
open Go.RowKit Go.Maps Go.Proofs.Ytkonloadedbpkaa.Sep Go.Proofs.Ytkonloadedbpkaa.FMaps Go.Proofs.Ytkonloadedbpkaa.FoldPure Go.Proofs.Ytkonloadedbpkaa.FoldMem Go.Proofs.Ytkonloadedbpkaa.FoldRun Go.Proofs.Ytkonloadedbpkaa.NodesPure Go.Proofs.Ytkonloadedbpkaa.NodesMem Go.Proofs.Ytkonloadedbpkaa.NodesW Go.Proofs.Ytkonloadedbpkaa.FoldCount
open Go.Proofs.YtkonloadedbpkaaW.PrintWords
set_option linter.unusedVariables false

theorem read_hold {W w : World} {C : World → Prop} {rs : List Res} (h : Sep W w (readR W C :: rs)) : ∀ w', (∀ k, k < w.heap.size → w'.heap[k]? = w.heap[k]?) → C w' := by
  obtain ⟨f, hf, hb⟩ := h.head
  intro w' hw
  exact hf w' (fun k hk => (hw k (Nat.lt_of_lt_of_le hk h.1.size)).trans (h.1.block k hk)) (fun k hk hl => hw k hl)
end Go.Proofs.Ytkonloadedbpkaa.Kept
