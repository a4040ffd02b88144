/- FoldAll. -/
import Derived.Test.YtkonloadedbpkaaZ1
namespace Go.Proofs.Ytkonloadedbpkaa.FoldFacts
open Go.RowKit Go.Proofs.Ytkonloadedbpkaa.FoldPure Go.Proofs.Ytkonloadedbpkaa.FoldRun Go.Proofs.Ytkonloadedbpkaa.Gather Go.Proofs.Ytkonloadedbpkaa.Reached Go.Proofs.Ytkonloadedbpkaa.NodesPure
set_option linter.unusedVariables false

/-! ### which nodes the last one leads to -/
/-! ### the parts -/
structure GF (l : List Nd) (on : List Bool) (i : Nat) (P : List Part) (num : List Nat) : Prop where
  len : num.length = l.length
  few : P.length ≤ i
  strict : ∀ (j : Nat) (q : Part), P[j]? = some q → ∀ k ∈ q.kids, k < j
  here : ∀ (j : Nat) (hj : j < l.length), j < i → on.getD j false = true → ∃ q, P[num.getD j 0]? = some q ∧ core q = (l[j].1, l[j].2.map (num.getD · 0))
  nodup : (P.map core).Nodup
  labs : ∀ q ∈ P, ∃ x ∈ l, q.label = x.1 ∧ q.kids.length = x.2.length
  sum : ((P.map Part.kids).map List.length).sum ≤ edges l i
  places : ∀ (n : Nat) (q : Part), P[n]? = some q → q.places = ((P.map Part.kids).map (List.count n)).sum
end Go.Proofs.Ytkonloadedbpkaa.FoldFacts

namespace Go.Proofs.Ytkonloadedbpkaa.FoldCount
open Go.RowKit Go.Proofs.Ytkonloadedbpkaa.FoldPure Go.Proofs.Ytkonloadedbpkaa.FoldRun Go.Proofs.Ytkonloadedbpkaa.Gather Go.Proofs.Ytkonloadedbpkaa.Reached Go.Proofs.Ytkonloadedbpkaa.NodesPure Go.Proofs.Ytkonloadedbpkaa.FoldFacts
set_option linter.unusedVariables false
set_option linter.unusedSimpArgs false

/-! ### names -/
/-! ### codes: what is called, what is gone through -/
structure TS where
  w : WS
  ex : List Nat
  ca : List Nat
/-- What a call adds. -/
structure Adds (P : List Part) (hs : List Nat) (t t' : TS) (e c : List Nat) : Prop where
  ex : t'.ex = t.ex ++ e
  ca : t'.ca = t.ca ++ c
  count : ∀ x, c.count x = hs.count x + (e.map (fun m => (partOf P m).kids.count x)).sum
  len : c.length = hs.length + (e.map (fun m => (partOf P m).kids.length)).sum
  codes : t'.w.codes.length ≤ t.w.codes.length + 2 * c.length
  sub : ∀ x, e.count x ≤ c.count x
  low : ∀ x ∈ c, ∃ h ∈ hs, x ≤ h
/-- Parts that are saved are gone through once; A: those that are being gone through. -/
structure Once (P : List Part) (A : List Nat) (t : TS) : Prop where
  len : t.w.nums.length = P.length
  done : ∀ q, isSaved (partOf P q) = true → q ∉ A → q ∈ t.ex → 0 ≤ t.w.nums.getD q (-1)
  one : ∀ q, isSaved (partOf P q) = true → t.ex.count q ≤ 1
/-! ### sums -/
end Go.Proofs.Ytkonloadedbpkaa.FoldCount

namespace Go.Proofs.Ytkonloadedbpkaa.FoldExact
open Go.RowKit Go.Proofs.Ytkonloadedbpkaa.FoldPure Go.Proofs.Ytkonloadedbpkaa.FoldRun Go.Proofs.Ytkonloadedbpkaa.Gather Go.Proofs.Ytkonloadedbpkaa.Reached Go.Proofs.Ytkonloadedbpkaa.NodesPure Go.Proofs.Ytkonloadedbpkaa.FoldFacts Go.Proofs.Ytkonloadedbpkaa.FoldCount
set_option linter.unusedVariables false
set_option linter.unusedSimpArgs false

def sv (P : List Part) (m : Nat) : Nat := if isSaved (partOf P m) then 1 else 0
/-- What is gone through has its number, and nothing else; every number is at least -1. -/
structure Seen (t : TS) : Prop where
  num : ∀ q, 0 ≤ t.w.nums.getD q (-1) → q ∈ t.ex
structure Exact (P : List Part) (t t' : TS) (e c : List Nat) : Prop where
  codes : t'.w.codes.length = t.w.codes.length + c.length + (e.map (sv P)).sum
  marks : t'.w.codes.count (-1) = t.w.codes.count (-1) + (e.map (sv P)).sum
  seen : Seen t'
  all : ∀ x ∈ c, x ∈ t'.ex
end Go.Proofs.Ytkonloadedbpkaa.FoldExact

namespace Go.Proofs.Ytkonloadedbpkaa.FoldSame
open Go.RowKit Go.Proofs.Ytkonloadedbpkaa.FoldPure Go.Proofs.Ytkonloadedbpkaa.FoldRun Go.Proofs.Ytkonloadedbpkaa.Gather Go.Proofs.Ytkonloadedbpkaa.Reached Go.Proofs.Ytkonloadedbpkaa.NodesPure Go.Proofs.Ytkonloadedbpkaa.FoldFacts Go.Proofs.Ytkonloadedbpkaa.FoldCount Go.Proofs.Ytkonloadedbpkaa.FoldExact
set_option linter.unusedVariables false
set_option linter.unusedSimpArgs false

/-- Each node but the last is a kid of some node. -/
def AllLed (l : List Nd) : Prop := ∀ j, j + 1 < l.length → ∃ (r : Nat) (hr : r < l.length), j ∈ l[r].2
theorem mem_le_sum {x : Nat} : ∀ {l : List Nat}, x ∈ l → x ≤ l.sum
  | a :: l, h => by
    rw [List.sum_cons]
    rcases List.mem_cons.1 h with rfl | h
    · omega
    · have := mem_le_sum h
      omega
end Go.Proofs.Ytkonloadedbpkaa.FoldSame
