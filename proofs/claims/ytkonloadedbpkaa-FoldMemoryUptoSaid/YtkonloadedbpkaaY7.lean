/- KindsAll. -/
import Derived.Test.YtkonloadedbpkaaY1
import Derived.Test.YtkonloadedbpkaaY3
import Derived.Test.YtkonloadedbpkaaY0
import Derived.Test.YtkonloadedbpkaaWMore
namespace Go.Proofs.Ytkonloadedbpkaa.KindsP
open Go.Proofs.Ytkonloadedbpkaa.FoldPure Go.Proofs.Ytkonloadedbpkaa.Gather
set_option linter.unusedVariables false

/-- A tree: its label, its kids' numbers; a path likewise. -/
abbrev Kt := ByteArray × List Nat
def placeT (T : List Kt) (c : Kt) : List Kt × Nat := match ix T c with | some n => (T, n) | none => (T ++ [c], T.length)
def kidsK (ns : List Nat) (x : Nd) : List Nat := x.2.map (fun k => ns.getD k 0)
def kStep (st : List Kt × List Nat) (i : Nat) (x : Nd) : List Kt × List Nat := ((placeT st.1 (x.1, kidsK st.2 x)).1, st.2.set i (placeT st.1 (x.1, kidsK st.2 x)).2)
def kTo (l : List Nd) (T0 : List Kt) : Nat → List Kt × List Nat
  | 0 => (T0, List.replicate l.length 0)
  | i + 1 => match l[i]? with
    | some x => kStep (kTo l T0 i) i x
    | none => kTo l T0 i
/-! ### paths -/
structure Pths (PL : List Kt) : Prop where
  apart : PL.Nodup
  ahead : ∀ s p k, (s, p ++ [k]) ∈ PL → (s, p) ∈ PL
/-! ### what holds while trees are numbered -/
structure KI (l : List Nd) (T0 : List Kt) (P0 i : Nat) (PL : List Kt) : Prop where
  pths : Pths PL
  sub : ∀ c ∈ (kTo l T0 i).1, c ∈ PL
  few : PL.length ≤ P0 + i + edges l i
  less : (kTo l T0 i).1.length ≤ T0.length + i
  nums : ∀ n ∈ (kTo l T0 i).2, n < (kTo l T0 i).1.length ∨ n = 0
/-- In the midst of a node's kids. -/
structure KIn (s : ByteArray) (ns : List Nat) (T : List Kt) (E a j : Nat) (PL : List Kt) : Prop where
  pths : Pths PL
  sub : ∀ c ∈ T, c ∈ PL
  here : PL[a]? = some (s, ns.take j)
  few : PL.length ≤ E + 1 + j
end Go.Proofs.Ytkonloadedbpkaa.KindsP

namespace Go.Proofs.Ytkonloadedbpkaa.KindsW
open Go.RowKit Go.Maps Go.Proofs.Ytkonloadedbpkaa.Sep Go.Proofs.Ytkonloadedbpkaa.FMaps Go.Proofs.Ytkonloadedbpkaa.FoldPure Go.Proofs.Ytkonloadedbpkaa.FoldMem Go.Proofs.Ytkonloadedbpkaa.Gather Go.Proofs.Ytkonloadedbpkaa.KindsP Go.Proofs.Ytkonloadedbpkaa.NodesMem
open Go.ChangeShapes Go.WideShapes Go.Joins
open Go.Proofs.YtkonloadedbpkaaW.PrintWords
set_option linter.unusedVariables false
set_option linter.unusedSimpArgs false
set_option maxRecDepth 100000

end Go.Proofs.Ytkonloadedbpkaa.KindsW

namespace Go.Proofs.Ytkonloadedbpkaa.KindsS
open Go.Proofs.Ytkonloadedbpkaa.FoldPure Go.Proofs.Ytkonloadedbpkaa.Gather Go.Proofs.Ytkonloadedbpkaa.KindsP
set_option linter.unusedVariables false

def StrictT (T : List Kt) : Prop := ∀ (n : Nat) (c : Kt), T[n]? = some c → ∀ m ∈ c.2, m < n
/-- What holds when i nodes have been numbered. -/
structure KS (l : List Nd) (T0 : List Kt) (i : Nat) (T : List Kt) (ns : List Nat) : Prop where
  strict : StrictT T
  apart : T.Nodup
  more : ∃ t, T = T0 ++ t
  len : ns.length = l.length
  at_ : ∀ j (hj : j < l.length), j < i → T[ns.getD j 0]? = some (l[j].1, kidsK ns l[j])
end Go.Proofs.Ytkonloadedbpkaa.KindsS

namespace Go.Proofs.Ytkonloadedbpkaa.TreeW
open Go.RowKit Go.Maps Go.Proofs.Ytkonloadedbpkaa.Sep Go.Proofs.Ytkonloadedbpkaa.FMaps Go.Proofs.Ytkonloadedbpkaa.FoldPure Go.Proofs.Ytkonloadedbpkaa.FoldMem Go.Proofs.Ytkonloadedbpkaa.Gather Go.Proofs.Ytkonloadedbpkaa.KindsP Go.Proofs.Ytkonloadedbpkaa.NodesMem Go.Proofs.Ytkonloadedbpkaa.KindsW
open Go.Proofs.YtkonloadedbpkaaW.PrintWords
open Go.Proofs.YtkonloadedbpkaaW.PrintMore
attribute [local go_sem] max2_int min2_int
set_option linter.unusedVariables false
set_option linter.unusedSimpArgs false
set_option maxRecDepth 100000

/-! ### sizes -/
def cap2 (n : Nat) : Nat := if 2001 < n then 2001 else n
/-! ### depths -/
end Go.Proofs.Ytkonloadedbpkaa.TreeW
