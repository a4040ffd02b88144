/- A table of symbols in memory: which blocks it takes, what they hold, and that it stays while other blocks turn. -/
import Derived.Test.YtpoojimmponklaaDoorTab
import Derived.Test.YtpoojimmponklaaDoorWN
import Derived.Test.YtpoojimmponklaaDoorProg
import Derived.WalkKit
import Derived.Maps.Own
import Derived.Maps.OwnSet
import Derived.Maps.OwnOps
import Derived.Maps.AppendAt
import Derived.Maps.Views
namespace Go.Proofs.YtpoojimmponklaaDoor.SymHeap
open Go.RowKit Go.Maps Go.Proofs.YtpoojimmponklaaDoor.SymTab
open Go.Proofs.YtpoojimmponklaaDoorW.PrintWords (own_move own_typed)

/-! ### maps from names to numbers -/
def keyL (s : ByteArray) : Lit := .string s.data.toList
theorem keyL_key (s : ByteArray) : WideAt.IsKeyLit (keyL s) := trivial
theorem keyL_inj {s t : ByteArray} (h : keyL s = keyL t) : s = t := by
  cases s; cases t
  simp [keyL] at h
  rw [h]
abbrev litI (n : Int) : DataW Unit := .lit (.int .i64 n)
theorem litI_inj {a b : Int} (h : litI a = litI b) : a = b := by
  injection h with h
  injection h
def num (o : Option Nat) : Int := match o with | some n => (n : Int) | none => 0
def MapIs (w : World) (b g : Nat) (f : ByteArray → Option Nat) : Prop :=
  ∃ D : DataW Unit, w.ownsMap Tryd.prog 9 (plainElem Tryd.prog 3) b g D ∧ ∀ s, Maps.has D (keyL s) = (f s).isSome ∧ D.atKey (keyL s) (litI 0) = litI (num (f s))

theorem law9 : Keyed Tryd.prog 9 := string_keyed Tryd.underlying9
theorem zero3 (w : World) : (zeroValue 3).run Tryd.prog w = .ok (.int .i64 0) w := by kernel_rfl
theorem key9 {s : ByteArray} (h : s.size ≤ maxLen) : keyOf Tryd.prog 9 (.string s) = some (keyL s) := Go.WideMaps.keyOf_string_mk Tryd.underlying9 h

theorem MapIs.lt {w : World} {b g : Nat} {f : ByteArray → Option Nat} (h : MapIs w b g f) : b < w.heap.size := by
  obtain ⟨D, h, _⟩ := h
  exact h.lt
theorem MapIs.block {w : World} {b g : Nat} {f : ByteArray → Option Nat} (h : MapIs w b g f) : ∃ es clock, w.heap[b]? = some (.map es clock) := by
  obtain ⟨D, ⟨es, clock, hb, _⟩, _⟩ := h
  exact ⟨es, clock, hb⟩
theorem MapIs.move {w w' : World} {b g : Nat} {f : ByteArray → Option Nat} (h : MapIs w b g f) (hm : w'.heap[b]? = w.heap[b]?) : MapIs w' b g f := by
  obtain ⟨D, ⟨es, clock, hb, r⟩, hf⟩ := h
  exact ⟨D, ⟨es, clock, hm.trans hb, r⟩, hf⟩
theorem MapIs.more {w : World} {b g g' : Nat} {f : ByteArray → Option Nat} (h : MapIs w b g f) (hg : g ≤ g') : MapIs w b g' f := by
  obtain ⟨D, h, hf⟩ := h
  exact ⟨D, h.mono hg, hf⟩
theorem MapIs.made (w : World) : MapIs (w.alloc (.map #[] 0)) w.heap.size 0 (fun _ => none) :=
  ⟨.map [], World.ownsMap_made _ _ _ _, fun _ => ⟨rfl, rfl⟩⟩
theorem put_is {D : DataW Unit} {f : ByteArray → Option Nat} (hm : IsMap D) (hf : ∀ s, Maps.has D (keyL s) = (f s).isSome ∧ D.atKey (keyL s) (litI 0) = litI (num (f s))) (s : ByteArray) (n : Nat) :
    ∀ t, Maps.has (D.put (keyL s) (litI (n : Int))) (keyL t) = (upd f s n t).isSome ∧ (D.put (keyL s) (litI (n : Int))).atKey (keyL t) (litI 0) = litI (num (upd f s n t)) := by
  intro t
  unfold upd
  by_cases e : t = s
  · subst e
    rw [if_pos rfl]
    exact ⟨has_put_same hm (keyL_key _) _, atKey_put_same hm (keyL_key _) _ _⟩
  · rw [if_neg e]
    have hne : keyL t ≠ keyL s := fun h => e (keyL_inj h)
    rw [has_put_other hne, atKey_put_other hne]
    exact hf t
theorem del_is {D : DataW Unit} {f : ByteArray → Option Nat} (hf : ∀ s, Maps.has D (keyL s) = (f s).isSome ∧ D.atKey (keyL s) (litI 0) = litI (num (f s))) (s : ByteArray) :
    ∀ t, Maps.has (D.del (keyL s)) (keyL t) = (del f s t).isSome ∧ (D.del (keyL s)).atKey (keyL t) (litI 0) = litI (num (del f s t)) := by
  intro t
  unfold del
  by_cases e : t = s
  · subst e
    rw [if_pos rfl]
    exact ⟨has_del_same, atKey_del_same _⟩
  · rw [if_neg e]
    have hne : keyL t ≠ keyL s := fun h => e (keyL_inj h)
    rw [has_del_other hne, atKey_del_other hne]
    exact hf t

/-- What 'v, ok := m[s]' gives. -/
theorem MapIs.look {w : World} {b g : Nat} {f : ByteArray → Option Nat} (h : MapIs w b g f) {s : ByteArray} (hs : s.size ≤ maxLen) :
    (Instr.lookup 85 (.map (some b)) (.string s) true).run Tryd.prog w = .ok (.tuple #[.int .i64 (num (f s)), .bool (f s).isSome]) w := by
  obtain ⟨D, hown, hD⟩ := h
  obtain ⟨v, ps, hrun, hv⟩ := hown.look_ok law9 Tryd.underlying85 (zero3 _) (plainElem_int (H := Unit) Tryd.underlying3 (a := 0) (q := .i64) (WalkArith.wf_i64 (by omega))) (key9 hs)
  obtain ⟨h1, h2⟩ := hD s
  rw [h2] at hv
  obtain ⟨c, rfl, hc, _⟩ := plainElem_int_inv Tryd.underlying3 hv
  have h3 : litI (num (f s)) = litI c := congrArg Prod.fst hc
  rw [hrun, h1, litI_inj h3]
theorem wf_small {n : Nat} (h : n ≤ 1048576) : (Lit.int .i64 (n : Int)).wf = true := WalkArith.wf_i64 (by omega)
section
variable {ops : Array Oper} {rest : List Oper} {o : Oper} {a : Act} {Q : Exit → Act → World → Prop}
/-- 'm[s] = n' at the operation. -/
theorem wp_store {w : World} (hgd : o.guard = none) (m x v : Operand) (hop : o.op = Op.mapUpdate 85 m x v) {b g : Nat} {f : ByteArray → Option Nat} {s : ByteArray} {n : Nat}
    (hm : a.eval m = .map (some b)) (hx : a.eval x = .string s) (hv : a.eval v = .int .i64 (n : Int)) (h : MapIs w b g f) (hs : s.size ≤ maxLen) (hg : g < maxLen) (hn : n ≤ 1048576)
    (hK : ∀ w', MapIs w' b (g + 1) (upd f s n) → w.grownBy w' (some b) → wpList Tryd.prog ops Q rest (a.put o.dst undef) w') : wpList Tryd.prog ops Q (o :: rest) a w := by
  obtain ⟨D, hown, hD⟩ := h
  refine wpList_mapUpdate_own w hgd m x v 85 hop 9 3 law9 Tryd.underlying85 (plainElem Tryd.prog 3) b g D hm hown hg _ _ _ hx hv (key9 hs) (litI n) [] (plainElem_int Tryd.underlying3 (wf_small hn)) ?_
  intro w' h1 h2
  exact hK w' ⟨_, h1, put_is hown.isMap hD s n⟩ h2
/-- 'delete(m, s)' at the operation. -/
theorem wp_delete {w : World} (hgd : o.guard = none) (m x : Operand) (hop : o.op = Op.call { callee := Callee.builtin Builtin.delete, args := #[m, x], argTypes := #[85, 9] }) {b g : Nat} {f : ByteArray → Option Nat} {s : ByteArray}
    (hm : a.eval m = .map (some b)) (hx : a.eval x = .string s) (h : MapIs w b g f) (hs : s.size ≤ maxLen)
    (hK : ∀ w', MapIs w' b g (del f s) → w.grownBy w' (some b) → wpList Tryd.prog ops Q rest (a.put o.dst (.tuple #[])) w') : wpList Tryd.prog ops Q (o :: rest) a w := by
  obtain ⟨D, hown, hD⟩ := h
  refine wpList_delete_own w hgd m x 85 9 hop 3 law9 Tryd.underlying85 (plainElem Tryd.prog 3) b g D hm hown _ _ hx (key9 hs) ?_
  intro w' h1 h2
  exact hK w' ⟨_, h1, del_is hD s⟩ h2.grown
end

/-! ### what turns: the blocks of one footprint, and new ones -/
structure Turns (fp : Nat → Prop) (w w' : World) : Prop where
  os : w'.os = w.os
  tape : w'.tape = w.tape
  output : w'.output = w.output
  size : w.heap.size ≤ w'.heap.size
  block : ∀ k, k < w.heap.size → ¬ fp k → w'.heap[k]? = w.heap[k]?
theorem Turns.refl (fp : Nat → Prop) (w : World) : Turns fp w w := ⟨rfl, rfl, rfl, Nat.le_refl _, fun _ _ _ => rfl⟩
theorem Turns.trans {fp fp' : Nat → Prop} {a b c : World} (h : Turns fp a b) (k : Turns fp' b c) (hf : ∀ k, fp' k → fp k ∨ a.heap.size ≤ k) : Turns fp a c :=
  ⟨k.os.trans h.os, k.tape.trans h.tape, k.output.trans h.output, Nat.le_trans h.size k.size, fun i hi hn =>
    (k.block i (Nat.lt_of_lt_of_le hi h.size) (fun e => by rcases hf i e with h | h; exact hn h; omega)).trans (h.block i hi hn)⟩
theorem Turns.mono {fp fp' : Nat → Prop} {a b : World} (h : Turns fp a b) (hf : ∀ k, fp k → fp' k) : Turns fp' a b :=
  ⟨h.os, h.tape, h.output, h.size, fun i hi hn => h.block i hi (fun e => hn (hf i e))⟩
theorem Turns.of_grown {fp : Nat → Prop} {a b : World} {row : Option Nat} (h : a.grownBy b row) (hf : ∀ k, row = some k → fp k) : Turns fp a b :=
  ⟨h.os, h.tape, h.output, h.size, fun i hi hn => h.block i hi (fun e => hn (hf i e.symm))⟩
theorem Turns.alloc (fp : Nat → Prop) (w : World) (o : Obj) : Turns fp w (w.alloc o) := Turns.of_grown (World.grownBy_alloc w o none) (fun _ h => by cases h)
theorem Turns.setCell {fp : Nat → Prop} (w : World) (a : Addr) (u : Value) (h : fp a.block) : Turns fp w (w.setCell a u) :=
  ⟨rfl, rfl, rfl, by simp [World.setCell], fun k _ hn => Below.heap_setCell w a u k (fun e => hn (e ▸ h))⟩
theorem Turns.drewN {fp : Nat → Prop} (w : World) (n : Nat) : Turns fp w (w.drewN n) := ⟨rfl, rfl, rfl, Nat.le_refl _, fun _ _ _ => rfl⟩
theorem Turns.below {fp : Nat → Prop} {a b : World} (h : Turns fp a b) {B : Nat} (hB : B ≤ a.heap.size) (hf : ∀ k, fp k → B ≤ k) : Below B a b :=
  ⟨h.os, h.tape, h.output, h.size, fun k hk => h.block k (by omega) (fun e => by have := hf k e; omega)⟩

/-! ### the table -/
def symCells (l : List (ByteArray × Bool)) : List Value := l.flatMap fun x => [.string x.1, .bool x.2]
theorem symCells_length (l : List (ByteArray × Bool)) : (symCells l).length = l.length * 2 := by
  induction l with
  | nil => rfl
  | cons x l ih => simp only [symCells, List.flatMap_cons, List.length_append, List.length_cons] at ih ⊢; simp only [List.length_nil]; omega
theorem symCells_snoc (l : List (ByteArray × Bool)) (x : ByteArray × Bool) : symCells (l ++ [x]) = symCells l ++ [.string x.1, .bool x.2] := by simp [symCells]
theorem symCells_name {l : List (ByteArray × Bool)} {n : Nat} (h : n < l.length) : (symCells l)[2 * n]? = some (.string (l.getD n (ByteArray.empty, false)).1) ∧ (symCells l)[2 * n + 1]? = some (.bool (l.getD n (ByteArray.empty, false)).2) := by
  induction l generalizing n with
  | nil => simp at h
  | cons x l ih =>
    cases n with
    | zero => simp [symCells]
    | succ n =>
      have h' : n < l.length := by simpa using h
      obtain ⟨h1, h2⟩ := ih h'
      have e1 : 2 * (n + 1) = 2 * n + 2 := by omega
      have e2 : 2 * (n + 1) + 1 = (2 * n + 1) + 2 := by omega
      simp only [symCells, List.flatMap_cons] at h1 h2 ⊢
      rw [e2, e1]
      constructor
      · rw [show ([Value.string x.1, Value.bool x.2] ++ List.flatMap (fun x => [Value.string x.1, Value.bool x.2]) l)[2 * n + 2]? = (List.flatMap (fun x => [Value.string x.1, Value.bool x.2]) l)[2 * n]? from by simp]
        rw [h1]; simp
      · rw [show ([Value.string x.1, Value.bool x.2] ++ List.flatMap (fun x => [Value.string x.1, Value.bool x.2]) l)[(2 * n + 1) + 2]? = (List.flatMap (fun x => [Value.string x.1, Value.bool x.2]) l)[2 * n + 1]? from by simp]
        rw [h2]; simp

/-- The rows of numbers that the scopes hold: each its own. -/
def Vars (w : World) (vals : List Value) (l : List (List Nat)) : Prop :=
  vals.length = l.length ∧ (∀ (j : Nat) (v : Value) (xs : List Nat), vals[j]? = some v → l[j]? = some xs → w.ownsRow 0 3 1 v xs.length (xs.map fun (n : Nat) => Value.int .i64 (n : Int))) ∧
    vals.Pairwise fun u v => ∀ k, u.ownBlock = some k → v.ownBlock ≠ some k

structure Parts where
  vs : Value
  bn : Nat
  ba : Nat
  vc : Value
  bt : Nat
  vl : Value
  vals : List Value

structure Holds (w : World) (p g : Nat) (T : Tab) (q : Parts) : Prop where
  cells : w.heap[p]? = some (.cells #[q.vs, .map (some q.bn), .map (some q.ba), q.vc, .map (some q.bt), q.vl] 88 (0, 0))
  syms : w.ownsRow 0 93 2 q.vs T.syms.length (symCells T.syms)
  numbers : MapIs w q.bn g (idx T.syms)
  active : MapIs w q.ba g T.act
  taken : MapIs w q.bt g (labIdx T.labels)
  na : q.bn ≠ q.ba
  nt : q.bn ≠ q.bt
  at_ : q.ba ≠ q.bt
  scopes : w.ownsRow 0 90 1 q.vc T.scopes.length q.vals
  vars : Vars w q.vals T.scopes
  labels : w.ownsRow 0 9 1 q.vl T.labels.length (T.labels.map Value.string)

/-- The blocks that a table takes. -/
def Parts.has (q : Parts) (p : Nat) (k : Nat) : Prop :=
  k = p ∨ k = q.bn ∨ k = q.ba ∨ k = q.bt ∨ q.vs.ownBlock = some k ∨ q.vc.ownBlock = some k ∨ q.vl.ownBlock = some k ∨ ∃ v, v ∈ q.vals ∧ v.ownBlock = some k

def TabIs (w : World) (p g : Nat) (T : Tab) (fp : Nat → Prop) : Prop := WF T ∧ ∃ q, Holds w p g T q ∧ ∀ k, q.has p k → fp k

theorem Holds.move {w w' : World} {p g : Nat} {T : Tab} {q : Parts} (h : Holds w p g T q) (hm : ∀ k, q.has p k → w'.heap[k]? = w.heap[k]?) : Holds w' p g T q := by
  refine ⟨(hm p (.inl rfl)).trans h.cells, own_move h.syms (fun k hk => hm k (by simp [Parts.has, hk])), h.numbers.move (hm _ (by simp [Parts.has])), h.active.move (hm _ (by simp [Parts.has])), h.taken.move (hm _ (by simp [Parts.has])), h.na, h.nt, h.at_,
    own_move h.scopes (fun k hk => hm k (by simp [Parts.has, hk])), ⟨h.vars.1, fun j v xs hv hx => own_move (h.vars.2.1 j v xs hv hx) (fun k hk => hm k ?_), h.vars.2.2⟩, own_move h.labels (fun k hk => hm k (by simp [Parts.has, hk]))⟩
  exact .inr (.inr (.inr (.inr (.inr (.inr (.inr ⟨v, List.mem_of_getElem? hv, hk⟩))))))
theorem TabIs.move {w w' : World} {p g : Nat} {T : Tab} {fp : Nat → Prop} (h : TabIs w p g T fp) (hm : ∀ k, fp k → w'.heap[k]? = w.heap[k]?) : TabIs w' p g T fp := by
  obtain ⟨hw, q, hq, hf⟩ := h
  exact ⟨hw, q, hq.move (fun k hk => hm k (hf k hk)), hf⟩
theorem TabIs.mono {w : World} {p g : Nat} {T : Tab} {fp fp' : Nat → Prop} (h : TabIs w p g T fp) (hf : ∀ k, fp k → fp' k) : TabIs w p g T fp' := by
  obtain ⟨hw, q, hq, hf'⟩ := h
  exact ⟨hw, q, hq, fun k hk => hf k (hf' k hk)⟩
theorem Holds.lt {w : World} {p g : Nat} {T : Tab} {q : Parts} (h : Holds w p g T q) : ∀ k, q.has p k → k < w.heap.size := by
  intro k hk
  rcases hk with rfl | rfl | rfl | rfl | hk | hk | hk | ⟨v, hv, hk⟩
  · exact (Array.getElem?_eq_some_iff.1 h.cells).1
  · exact h.numbers.lt
  · exact h.active.lt
  · exact h.taken.lt
  · exact (h.syms.lt k hk).2
  · exact (h.scopes.lt k hk).2
  · exact (h.labels.lt k hk).2
  · obtain ⟨j, hj⟩ := List.mem_iff_getElem?.1 hv
    have hjl : j < T.scopes.length := by rw [← h.vars.1]; exact (List.getElem?_eq_some_iff.1 hj).1
    exact ((h.vars.2.1 j v _ hj (List.getElem?_eq_getElem hjl)).lt k hk).2
/-- A table's footprint, cut down to blocks that are there. -/
theorem TabIs.bound {w : World} {p g : Nat} {T : Tab} {fp : Nat → Prop} (h : TabIs w p g T fp) : TabIs w p g T (fun k => fp k ∧ k < w.heap.size) := by
  obtain ⟨hw, q, hq, hf⟩ := h
  exact ⟨hw, q, hq, fun k hk => ⟨hf k hk, hq.lt k hk⟩⟩
theorem TabIs.kept {w w' : World} {p g : Nat} {T : Tab} {fp fp' : Nat → Prop} (h : TabIs w p g T fp) (ht : Turns fp' w w') (hd : ∀ k, fp k → ¬ fp' k) : TabIs w' p g T fp := by
  have hb := h.bound
  exact (hb.move (fun k hk => ht.block k hk.2 (hd k hk.1))).mono (fun _ hk => hk.1)
theorem Holds.more {w : World} {p g g' : Nat} {T : Tab} {q : Parts} (h : Holds w p g T q) (hg : g ≤ g') : Holds w p g' T q :=
  ⟨h.cells, h.syms, h.numbers.more hg, h.active.more hg, h.taken.more hg, h.na, h.nt, h.at_, h.scopes, h.vars, h.labels⟩
theorem TabIs.more {w : World} {p g g' : Nat} {T : Tab} {fp : Nat → Prop} (h : TabIs w p g T fp) (hg : g ≤ g') : TabIs w p g' T fp := by
  obtain ⟨hw, q, hq, hf⟩ := h
  exact ⟨hw, q, hq.more hg, hf⟩

/-! ### what kind of block each part is -/
def tyOf (w : World) (k : Nat) : Option TypeId := match w.heap[k]? with | some (.cells _ t _) => some t | _ => none
theorem tyOf_cells {w : World} {k : Nat} {c : Array Value} {t : TypeId} {f : Nat × Nat} (h : w.heap[k]? = some (.cells c t f)) : tyOf w k = some t := by simp [tyOf, h]
theorem tyOf_map {w : World} {b g : Nat} {f : ByteArray → Option Nat} (h : MapIs w b g f) : tyOf w b = none := by
  obtain ⟨es, c, hb⟩ := h.block
  simp [tyOf, hb]
theorem tyOf_row {w : World} {base e size n : Nat} {v : Value} {xs : List Value} (h : w.ownsRow base e size v n xs) {k : Nat} (hk : v.ownBlock = some k) : tyOf w k = some e := by
  obtain ⟨c, hc⟩ := own_typed h k hk
  exact tyOf_cells hc
theorem ne_ty {w : World} {a b : Nat} {x y : Option TypeId} (ha : tyOf w a = x) (hb : tyOf w b = y) (h : x ≠ y) : a ≠ b := by
  rintro rfl
  exact h (ha.symm.trans hb)
theorem Holds.tp {w : World} {p g : Nat} {T : Tab} {q : Parts} (h : Holds w p g T q) : tyOf w p = some 88 := tyOf_cells h.cells
theorem Holds.tvars {w : World} {p g : Nat} {T : Tab} {q : Parts} (h : Holds w p g T q) {v : Value} (hv : v ∈ q.vals) {k : Nat} (hk : v.ownBlock = some k) : tyOf w k = some 3 := by
  obtain ⟨j, hj⟩ := List.mem_iff_getElem?.1 hv
  have hjl : j < T.scopes.length := by rw [← h.vars.1]; exact (List.getElem?_eq_some_iff.1 hj).1
  exact tyOf_row (h.vars.2.1 j v _ hj (List.getElem?_eq_getElem hjl)) hk
theorem Vars.move {w w' : World} {vals : List Value} {l : List (List Nat)} (h : Vars w vals l) (hm : ∀ v, v ∈ vals → ∀ k, v.ownBlock = some k → w'.heap[k]? = w.heap[k]?) : Vars w' vals l :=
  ⟨h.1, fun j v xs hv hx => own_move (h.2.1 j v xs hv hx) (fun k hk => hm v (List.mem_of_getElem? hv) k hk), h.2.2⟩
theorem set_block {w : World} {p : Nat} {c : Array Value} {t : TypeId} {f : Nat × Nat} (h : w.heap[p]? = some (.cells c t f)) (i : Nat) (u : Value) : (w.setCell ⟨p, i, none⟩ u).heap[p]? = some (.cells (c.setIfInBounds i u) t f) := by
  simp [World.setCell, Array.getElem?_modify, h]
theorem tyOf_same {w w' : World} {k : Nat} (h : w'.heap[k]? = w.heap[k]?) : tyOf w' k = tyOf w k := by simp [tyOf, h]
/-- What a call has made of a table: parts that are its old ones or new, and nothing else has turned. -/
def TabSteps (w w' : World) (p g : Nat) (T : Tab) (q : Parts) : Prop := ∃ q', Holds w' p g T q' ∧ (∀ k, q'.has p k → q.has p k ∨ w.heap.size ≤ k) ∧ Turns (q.has p) w w'

/-! ### two blocks of different types are two blocks -/
theorem ne_of_cells {w : World} {a b : Nat} {ca cb : Array Value} {ta tb : TypeId} {fa fb : Nat × Nat} (ha : w.heap[a]? = some (.cells ca ta fa)) (hb : w.heap[b]? = some (.cells cb tb fb)) (h : ta ≠ tb) : a ≠ b := by
  rintro rfl
  rw [ha] at hb
  simp only [Option.some.injEq, Obj.cells.injEq] at hb
  exact h hb.2.1
theorem ne_of_map {w : World} {a b : Nat} {ca : Array Value} {ta : TypeId} {fa : Nat × Nat} {es : Array MapEntry} {c : Nat} (ha : w.heap[a]? = some (.cells ca ta fa)) (hb : w.heap[b]? = some (.map es c)) : a ≠ b := by
  rintro rfl
  rw [ha] at hb
  simp at hb
end Go.Proofs.YtpoojimmponklaaDoor.SymHeap
