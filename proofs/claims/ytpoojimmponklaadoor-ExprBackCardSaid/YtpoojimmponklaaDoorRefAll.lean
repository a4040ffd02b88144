/- PlaysPure, Ref, RefDoes, RefNames, RefMore, RefVar, RefLabel, Pair: in one text. -/
import Derived.Test.YtpoojimmponklaaDoorTabAll
import Derived.Test.YtpoojimmponklaaDoorPSymPlaysx3
import Derived.Test.YtpoojimmponklaaDoorPSymPlaysx4
import Derived.Laws.AppendOwnNone
namespace Go.Proofs.YtpoojimmponklaaDoor.SymTab
set_option linter.unusedVariables false

def statStep (n : Nat) (st : Option Nat) (a : Int) : Option Nat :=
  if a = (n : Int) then some 0 else if a = -1 then st.map (· + 1) else if a = -2 then (match st with | none => none | some 0 => none | some (j + 1) => some j) else st
def stat (n : Nat) (acts : List Int) : Option Nat := acts.foldl (statStep n) none
def depthStep (d : Int) (a : Int) : Int := if a = -1 then d + 1 else if a = -2 then d - 1 else d
def depthL (acts : List Int) : Int := acts.foldl depthStep 0
def varAt (T : Tab) (n : Nat) : Bool := (T.syms.getD n (ByteArray.empty, false)).2
/-- What the log says of n. -/
def Says (T : Tab) (n : Nat) : Option Nat → Prop
  | none => T.act (nameOf T n) = none
  | some j => T.act (nameOf T n) = some n ∧ j ≤ T.scopes.length ∧ ∀ i l, T.scopes[i]? = some l → (n ∈ l ↔ i + 1 + j = T.scopes.length)
structure Rel (T : Tab) (acts : List Int) : Prop where
  depth : depthL acts = T.scopes.length
  says : ∀ n, n < T.syms.length → varAt T n = true → Says T n (stat n acts)

theorem rel_empty : Rel empty [] := ⟨rfl, fun n hn => by simp [empty] at hn⟩

/-! ### how the log is read -/
end Go.Proofs.YtpoojimmponklaaDoor.SymTab

namespace Go.Proofs.YtpoojimmponklaaDoor.SymRef
open Go.RowKit Go.Maps Go.Proofs.YtpoojimmponklaaDoor.SymTab Go.Proofs.YtpoojimmponklaaDoor.SymHeap Go.Proofs.YtpoojimmponklaaDoor.SymReads Go.Proofs.YtpoojimmponklaaDoor.SymApi
open Go.Proofs.YtpoojimmponklaaDoorW.PrintWords (Aside0 Drawn0 own_move)
set_option linter.unusedVariables false

structure Ref where
  syms : List (ByteArray × Bool)
  acts : List Int
  taken : List ByteArray
def actCells (l : List Int) : List Value := l.map (Value.int .i64)
structure RParts where
  vs : Value
  va : Value
  vt : Value
structure RHolds (w : World) (p g : Nat) (R : Ref) (q : RParts) : Prop where
  cells : w.heap[p]? = some (.cells #[q.vs, q.va, q.vt] 99 (0, 0))
  syms : w.ownsRow 0 101 2 q.vs R.syms.length (symCells R.syms)
  acts : w.ownsRow 0 3 1 q.va R.acts.length (actCells R.acts)
  taken : w.ownsRow 0 9 1 q.vt R.taken.length (R.taken.map Value.string)
  few : R.acts.length ≤ g
def RParts.has (q : RParts) (p k : Nat) : Prop := k = p ∨ q.vs.ownBlock = some k ∨ q.va.ownBlock = some k ∨ q.vt.ownBlock = some k
def RefIs (w : World) (p g : Nat) (R : Ref) (fp : Nat → Prop) : Prop := ∃ q, RHolds w p g R q ∧ ∀ k, q.has p k → fp k

theorem RHolds.move {w w' : World} {p g : Nat} {R : Ref} {q : RParts} (h : RHolds w p g R q) (hm : ∀ k, q.has p k → w'.heap[k]? = w.heap[k]?) : RHolds w' p g R q :=
  ⟨(hm p (.inl rfl)).trans h.cells, own_move h.syms (fun k hk => hm k (.inr (.inl hk))), own_move h.acts (fun k hk => hm k (.inr (.inr (.inl hk)))), own_move h.taken (fun k hk => hm k (.inr (.inr (.inr hk)))), h.few⟩
theorem RHolds.lt {w : World} {p g : Nat} {R : Ref} {q : RParts} (h : RHolds w p g R q) : ∀ k, q.has p k → k < w.heap.size := by
  intro k hk
  rcases hk with rfl | hk | hk | hk
  · exact (Array.getElem?_eq_some_iff.1 h.cells).1
  · exact (h.syms.lt k hk).2
  · exact (h.acts.lt k hk).2
  · exact (h.taken.lt k hk).2
theorem RefIs.move {w w' : World} {p g : Nat} {R : Ref} {fp : Nat → Prop} (h : RefIs w p g R fp) (hm : ∀ k, fp k → w'.heap[k]? = w.heap[k]?) : RefIs w' p g R fp := by
  obtain ⟨q, hq, hf⟩ := h
  exact ⟨q, hq.move (fun k hk => hm k (hf k hk)), hf⟩
theorem RefIs.mono {w : World} {p g : Nat} {R : Ref} {fp fp' : Nat → Prop} (h : RefIs w p g R fp) (hf : ∀ k, fp k → fp' k) : RefIs w p g R fp' := by
  obtain ⟨q, hq, hf'⟩ := h
  exact ⟨q, hq, fun k hk => hf k (hf' k hk)⟩
theorem RefIs.bound {w : World} {p g : Nat} {R : Ref} {fp : Nat → Prop} (h : RefIs w p g R fp) : RefIs w p g R (fun k => fp k ∧ k < w.heap.size) := by
  obtain ⟨q, hq, hf⟩ := h
  exact ⟨q, hq, fun k hk => ⟨hf k hk, hq.lt k hk⟩⟩
theorem RefIs.more {w : World} {p g g' : Nat} {R : Ref} {fp : Nat → Prop} (h : RefIs w p g R fp) (hg : g ≤ g') : RefIs w p g' R fp := by
  obtain ⟨q, ⟨a, b, c, d, e⟩, hf⟩ := h
  exact ⟨q, ⟨a, b, c, d, by omega⟩, hf⟩
theorem RefIs.drawn {w w' : World} {p g : Nat} {R : Ref} {fp : Nat → Prop} (h : RefIs w p g R fp) (hd : Drawn0 w w') : RefIs w' p g R fp := by
  obtain ⟨n, rfl⟩ := hd
  exact h.move (fun _ _ => rfl)
theorem RHolds.tp {w : World} {p g : Nat} {R : Ref} {q : RParts} (h : RHolds w p g R q) : tyOf w p = some 99 := tyOf_cells h.cells

/-! ### the log -/
/-! ### numbers -/
theorem str_eqb (s t : ByteArray) : (s.toList == t.toList) = decide (s = t) := by
  rw [ByteArray.toList_eq, ByteArray.toList_eq, Bool.eq_iff_iff, beq_iff_eq, decide_eq_true_eq]
  constructor
  · intro h
    cases s; cases t
    simpa using h
  · intro h
    rw [h]
/-! ### what is open, what is active -/
/-! ### Count, Name, IsVar -/
end Go.Proofs.YtpoojimmponklaaDoor.SymRef

namespace Go.Proofs.YtpoojimmponklaaDoor.SymRefDoes
open Go.RowKit Go.Maps Go.Proofs.YtpoojimmponklaaDoor.SymTab Go.Proofs.YtpoojimmponklaaDoor.SymHeap Go.Proofs.YtpoojimmponklaaDoor.SymReads Go.Proofs.YtpoojimmponklaaDoor.SymAdd Go.Proofs.YtpoojimmponklaaDoor.SymConst Go.Proofs.YtpoojimmponklaaDoor.SymApi Go.Proofs.YtpoojimmponklaaDoor.SymRef
open Go.Proofs.YtpoojimmponklaaDoorW.PrintWords (Aside0 Drawn0 own_move)
set_option linter.unusedVariables false

def RSteps (w w' : World) (p g : Nat) (R : Ref) (q : RParts) : Prop := ∃ q', RHolds w' p g R q' ∧ (∀ k, q'.has p k → q.has p k ∨ w.heap.size ≤ k) ∧ Turns (q.has p) w w'
theorem RSteps.drawn {w w' w'' : World} {p g : Nat} {R : Ref} {q : RParts} (h : RSteps w w' p g R q) (hd : Drawn0 w' w'') : RSteps w w'' p g R q := by
  obtain ⟨n, rfl⟩ := hd
  obtain ⟨q', a, b, c⟩ := h
  exact ⟨q', a.move (w' := w'.drewN n) (fun _ _ => rfl), b, ⟨c.os, c.tape, c.output, c.size, c.block⟩⟩
theorem RSteps.before {w w' w'' : World} {p g : Nat} {R : Ref} {q : RParts} (h : RSteps w' w'' p g R q) (hd : Drawn0 w w') : RSteps w w'' p g R q := by
  obtain ⟨n, rfl⟩ := hd
  obtain ⟨q', a, b, c⟩ := h
  exact ⟨q', a, b, ⟨c.os, c.tape, c.output, c.size, c.block⟩⟩
theorem info3 : (Tryd.prog.info? 3).map (fun i => (i.zero, i.size, i.bytes)) = some (some (.int .i64 0), 1, 8) := by kernel_rfl
/-! ### Open, Close -/
end Go.Proofs.YtpoojimmponklaaDoor.SymRefDoes

namespace Go.Proofs.YtpoojimmponklaaDoor.SymRefNames
open Go.RowKit Go.Proofs.YtpoojimmponklaaDoor.SymTab Go.Proofs.YtpoojimmponklaaDoor.SymScan Go.Proofs.YtpoojimmponklaaDoor.SymName Go.Proofs.YtpoojimmponklaaDoor.PSymPlays Go.Proofs.YtpoojimmponklaaDoorW.PrintWords
set_option linter.unusedVariables false

end Go.Proofs.YtpoojimmponklaaDoor.SymRefNames

namespace Go.Proofs.YtpoojimmponklaaDoor.SymRefMore
open Go.RowKit Go.Maps Go.Proofs.YtpoojimmponklaaDoor.SymTab Go.Proofs.YtpoojimmponklaaDoor.SymHeap Go.Proofs.YtpoojimmponklaaDoor.SymReads Go.Proofs.YtpoojimmponklaaDoor.SymAdd Go.Proofs.YtpoojimmponklaaDoor.SymConst Go.Proofs.YtpoojimmponklaaDoor.SymApi Go.Proofs.YtpoojimmponklaaDoor.SymRef Go.Proofs.YtpoojimmponklaaDoor.SymRefDoes Go.Proofs.YtpoojimmponklaaDoor.SymRefNames
open Go.Proofs.YtpoojimmponklaaDoorW.PrintWords
set_option linter.unusedVariables false

/-- The document's table tells what the program's does. -/
structure Mir (T : Tab) (R : Ref) : Prop where
  syms : R.syms = T.syms
  taken : R.taken = T.labels
  rel : Rel T R.acts
  wf : WF T

section
variable {w : World} {p g : Nat} {R : Ref} {q : RParts}
end

/-! ### Const -/
section
variable {w : World} {p g : Nat} {T : Tab} {R : Ref} {q : RParts}
end

end Go.Proofs.YtpoojimmponklaaDoor.SymRefMore

namespace Go.Proofs.YtpoojimmponklaaDoor.SymRefVar
open Go.RowKit Go.Maps Go.Proofs.YtpoojimmponklaaDoor.SymTab Go.Proofs.YtpoojimmponklaaDoor.SymHeap Go.Proofs.YtpoojimmponklaaDoor.SymReads Go.Proofs.YtpoojimmponklaaDoor.SymAdd Go.Proofs.YtpoojimmponklaaDoor.SymConst Go.Proofs.YtpoojimmponklaaDoor.SymApi Go.Proofs.YtpoojimmponklaaDoor.SymRef Go.Proofs.YtpoojimmponklaaDoor.SymRefDoes Go.Proofs.YtpoojimmponklaaDoor.SymRefNames Go.Proofs.YtpoojimmponklaaDoor.SymRefMore
open Go.Proofs.YtpoojimmponklaaDoorW.PrintWords
set_option linter.unusedVariables false
section
variable {w : World} {p g : Nat} {T : Tab} {R : Ref} {q : RParts}
variable {s : ByteArray}
end
end Go.Proofs.YtpoojimmponklaaDoor.SymRefVar

namespace Go.Proofs.YtpoojimmponklaaDoor.SymRefLabel
open Go.RowKit Go.Maps Go.Proofs.YtpoojimmponklaaDoor.SymTab Go.Proofs.YtpoojimmponklaaDoor.SymHeap Go.Proofs.YtpoojimmponklaaDoor.SymReads Go.Proofs.YtpoojimmponklaaDoor.SymAdd Go.Proofs.YtpoojimmponklaaDoor.SymConst Go.Proofs.YtpoojimmponklaaDoor.SymApi Go.Proofs.YtpoojimmponklaaDoor.SymRef Go.Proofs.YtpoojimmponklaaDoor.SymRefDoes Go.Proofs.YtpoojimmponklaaDoor.SymRefNames Go.Proofs.YtpoojimmponklaaDoor.SymRefMore Go.Proofs.YtpoojimmponklaaDoor.SymRefVar Go.Proofs.YtpoojimmponklaaDoor.SymNew
open Go.Proofs.YtpoojimmponklaaDoorW.PrintWords
set_option linter.unusedVariables false
section
variable {w : World} {p g : Nat} {T : Tab} {R : Ref} {q : RParts}
/-! ### Labels, New -/
theorem mir_empty : Mir empty ⟨[], [], []⟩ := ⟨rfl, rfl, rel_empty, WF.empty⟩
end
end Go.Proofs.YtpoojimmponklaaDoor.SymRefLabel

namespace Go.Proofs.YtpoojimmponklaaDoor.SymPair
open Go.RowKit Go.Maps Go.Proofs.YtpoojimmponklaaDoor.SymTab Go.Proofs.YtpoojimmponklaaDoor.SymHeap Go.Proofs.YtpoojimmponklaaDoor.SymReads Go.Proofs.YtpoojimmponklaaDoor.SymApi Go.Proofs.YtpoojimmponklaaDoor.SymRef Go.Proofs.YtpoojimmponklaaDoor.SymRefDoes Go.Proofs.YtpoojimmponklaaDoor.SymRefMore Go.Proofs.YtpoojimmponklaaDoor.SymRefVar Go.Proofs.YtpoojimmponklaaDoor.SymRefLabel Go.Proofs.YtpoojimmponklaaDoor.SymNew
open Go.Proofs.YtpoojimmponklaaDoorW.PrintWords
set_option linter.unusedVariables false

/-- The two tables lie in F, apart from each other. -/
def Two (w : World) (p g : Nat) (T : Tab) (r gr : Nat) (R : Ref) (F : Nat → Prop) : Prop :=
  ∃ F1 F2, TabIs w p g T F1 ∧ RefIs w r gr R F2 ∧ (∀ k, F1 k → ¬ F2 k) ∧ (∀ k, F1 k → F k ∧ k < w.heap.size) ∧ (∀ k, F2 k → F k ∧ k < w.heap.size)
/-- They lie in F and in what was made since W. -/
def Twos (W w : World) (F : Nat → Prop) (p g : Nat) (T : Tab) (r gr : Nat) (R : Ref) : Prop := Two w p g T r gr R (More F W.heap.size) ∧ Turns F W w

section
variable {W w w' : World} {F : Nat → Prop} {p g g' r gr gr' : Nat} {T T' : Tab} {R R' : Ref}
theorem Two.mono {F' : Nat → Prop} (h : Two w p g T r gr R F) (hf : ∀ k, k < w.heap.size → F k → F' k) : Two w p g T r gr R F' := by
  obtain ⟨F1, F2, a, b, c, d, e⟩ := h
  exact ⟨F1, F2, a, b, c, fun k hk => ⟨hf k (d k hk).2 (d k hk).1, (d k hk).2⟩, fun k hk => ⟨hf k (e k hk).2 (e k hk).1, (e k hk).2⟩⟩
theorem Two.move (h : Two w p g T r gr R F) (hm : ∀ k, k < w.heap.size → F k → w'.heap[k]? = w.heap[k]?) (hs : w.heap.size ≤ w'.heap.size) : Two w' p g T r gr R F := by
  obtain ⟨F1, F2, a, b, c, d, e⟩ := h
  exact ⟨F1, F2, a.move (fun k hk => hm k (d k hk).2 (d k hk).1), b.move (fun k hk => hm k (e k hk).2 (e k hk).1), c, fun k hk => ⟨(d k hk).1, Nat.lt_of_lt_of_le (d k hk).2 hs⟩, fun k hk => ⟨(e k hk).1, Nat.lt_of_lt_of_le (e k hk).2 hs⟩⟩
theorem Two.wf (h : Two w p g T r gr R F) : WF T := by
  obtain ⟨_, _, a, _⟩ := h
  exact a.1
theorem Two.more (h : Two w p g T r gr R F) (hg : g ≤ g') (hr : gr ≤ gr') : Two w p g' T r gr' R F := by
  obtain ⟨F1, F2, a, b, c⟩ := h
  exact ⟨F1, F2, a.more hg, b.more hr, c⟩
theorem Two.start (h : Two w p g T r gr R F) : Twos w w F p g T r gr R := ⟨h.mono (fun k hk hf => .inl hf), Turns.refl _ _⟩
theorem Twos.past (h : Twos W w F p g T r gr R) (ht : Turns None w w') : Twos W w' F p g T r gr R :=
  ⟨h.1.move (fun k hk _ => ht.block k hk (fun x => x.elim)) ht.size, h.2.trans ht (fun k hk => hk.elim)⟩
theorem Twos.drawn (h : Twos W w F p g T r gr R) (hd : Drawn0 w w') : Twos W w' F p g T r gr R := by
  obtain ⟨n, rfl⟩ := hd
  exact h.past (Turns.drewN w n)
theorem Twos.more (h : Twos W w F p g T r gr R) (hg : g ≤ g') (hr : gr ≤ gr') : Twos W w F p g' T r gr' R := ⟨h.1.more hg hr, h.2⟩
/-- The box of a call's own argument lies apart. -/
theorem Twos.box (h : Twos W w F p g T r gr R) {b : Nat} (hb : b < W.heap.size) (hf : ¬ F b) (i : Nat) : w.cell? ⟨b, i, none⟩ = W.cell? ⟨b, i, none⟩ := by
  simp [World.cell?, h.2.block b hb hf]

theorem does_drawn {fp : Nat → Prop} (h : TabIs w p g T fp) (hd : Drawn0 w w') : Does w w' p g T fp := by
  obtain ⟨n, rfl⟩ := hd
  exact ⟨(h.move (w' := w.drewN n) (fun _ _ => rfl)).mono (fun k hk => .inl hk), Turns.drewN w n⟩
theorem tab_step {F1 F2 : Nat → Prop} (b : RefIs w r gr R F2) (c : ∀ k, F1 k → ¬ F2 k) (d : ∀ k, F1 k → More F W.heap.size k ∧ k < w.heap.size) (e : ∀ k, F2 k → More F W.heap.size k ∧ k < w.heap.size) (ht : Turns F W w) (hdo : Does w w' p g' T' F1) : Twos W w' F p g' T' r gr R := by
  obtain ⟨a', t'⟩ := hdo
  have hs := t'.size
  refine ⟨⟨fun k => More F1 w.heap.size k ∧ k < w'.heap.size, F2, a'.bound, b.move (fun k hk => t'.block k (e k hk).2 (fun hf => c k hf hk)), fun k hk hk2 => ?_, fun k hk => ⟨?_, hk.2⟩, fun k hk => ⟨(e k hk).1, Nat.lt_of_lt_of_le (e k hk).2 hs⟩⟩, ht.trans t' (fun k hk => (d k hk).1)⟩
  · rcases hk.1 with hk | hk
    · exact c k hk hk2
    · have := (e k hk2).2
      omega
  · rcases hk.1 with hk | hk
    · exact (d k hk).1
    · exact .inr (Nat.le_trans ht.size hk)
theorem Twos.tabCalls {f : FuncId} {args : Array Value} {P : Ending → Prop} (h : Twos W w F p g T r gr R) (hd : ∀ F1, TabIs w p g T F1 → Calls Tryd.prog f args w fun e w' => P e ∧ Does w w' p g' T' F1) :
    Calls Tryd.prog f args w fun e w' => P e ∧ Twos W w' F p g' T' r gr R := by
  obtain ⟨⟨F1, F2, a, b, c, d, e⟩, ht⟩ := h
  exact (hd F1 a).mono fun _ w' ⟨he, hdo⟩ => ⟨he, tab_step b c d e ht hdo⟩
/-! ### the calls on the program's table -/
theorem Twos.blanks (h : Twos W w F p g T r gr R) (hb : SymScan.Blanks W) (hF : ¬ F 0) : SymScan.Blanks w := blanks_turns hb h.2 hF
theorem t_active (h : Twos W w F p g T r gr R) (n : Int) : Calls Tryd.prog 21 #[.pointer (some ⟨p, 0, none⟩), .int .i64 n] w fun e w' => e = .returned (.bool (activeT T n)) ∧ Twos W w' F p g T r gr R :=
  h.tabCalls fun F1 h => (active_calls h n).mono fun e w' ⟨he, hd⟩ => ⟨he, does_drawn h hd⟩
theorem t_count (h : Twos W w F p g T r gr R) : Calls Tryd.prog 20 #[.pointer (some ⟨p, 0, none⟩)] w fun e w' => e = .returned (.int .i64 (T.syms.length : Int)) ∧ Twos W w' F p g T r gr R :=
  h.tabCalls fun F1 h => (count_calls h).mono fun e w' ⟨he, hd⟩ => ⟨he, does_drawn h hd⟩
/-! ### the calls on the document's -/
end
end Go.Proofs.YtpoojimmponklaaDoor.SymPair
