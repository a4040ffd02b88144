/- What Nodes makes of nodes, as plain functions; and what is to hold of it. -/
import Derived.Test.YtkonloadedbpkaaReached
import Derived.Test.YtkonloadedbpkaaFoldRun
namespace Go.Proofs.Ytkonloadedbpkaa.NodesPure
open Go.RowKit Go.Proofs.Ytkonloadedbpkaa.FoldPure Go.Proofs.Ytkonloadedbpkaa.FoldRun Go.Proofs.Ytkonloadedbpkaa.Reached
set_option linter.unusedVariables false

def partsL (l : List Nd) : List Part := (gatherTo l (onT l) l.length).1
def rootN (l : List Nd) : Nat := (gatherTo l (onT l) l.length).2.getD (l.length - 1) 0
def atW (f : ByteArray → Option Nat) (s : ByteArray) : Nat := (f s).getD 0
def names0 (P : List Part) (ms : List ByteArray) : NS := ⟨List.replicate P.length false, ix ms, []⟩
def codes0 (P : List Part) : WS := ⟨List.replicate P.length (-1), 0, []⟩
def namesL (ms : List ByteArray) (l : List Nd) : NS := nameT (partsL l) ms.length (rootN l + 1) (rootN l) (names0 (partsL l) ms)
def codesL (ms : List ByteArray) (l : List Nd) : WS := writeT (partsL l) (atW (namesL ms l).at_) (ms.length + (namesL ms l).labels.length) (rootN l + 1) (rootN l) (codes0 (partsL l))
structure Fine (ms : List ByteArray) (l : List Nd) : Prop where
  root : rootN l < (partsL l).length
  few : (partsL l).length ≤ 4194304
  strict : ∀ (i : Nat) (q : Part), (partsL l)[i]? = some q → ∀ k ∈ q.kids, k < i
  labs : ∀ q ∈ partsL l, q.label.size ≤ maxLen
  kids : ∀ q ∈ partsL l, q.kids.length ≤ 4194304
  names : (namesL ms l).labels.length ≤ 4194304
  codes : (codesL ms l).codes.length ≤ 1099511627776
theorem ix_more {l : List ByteArray} {s : ByteArray} (h : s ∈ l) : ix (l ++ [s]) = ix l := by
  funext t
  induction l with
  | nil => simp at h
  | cons x l ih =>
    simp only [List.cons_append, ix]
    by_cases e : x = t
    · simp [e]
    · rw [if_neg e, if_neg e]
      by_cases hs : s ∈ l
      · rw [ih hs]
      · have hx : s = x := by simpa [hs] using h
        congr 1
        subst hx
        rw [ix_snoc hs, if_neg (fun h => e h.symm)]
end Go.Proofs.Ytkonloadedbpkaa.NodesPure
