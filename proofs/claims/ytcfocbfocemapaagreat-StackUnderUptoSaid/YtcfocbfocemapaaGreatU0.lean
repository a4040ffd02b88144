/- Sep, Mem. -/
import Derived.Test.YtcfocbfocemapaaGreatWN
import Derived.Test.YtcfocbfocemapaaGreatProg
import Derived.WalkKit
import Derived.Maps.Own
import Derived.Maps.OwnSet
import Derived.Maps.OwnOps
import Derived.Maps.AppendAt
import Derived.Maps.Views
import Derived.Laws.AppendOwnNone
import Derived.Lib.Hide
import Derived.Deep.QuietTactic
import Derived.BigQuiet
import Derived.WalkLawsBesides
import Derived.WalkSpells
import Derived.OwnWalk
import Derived.Outline
import Derived.Test.YtcfocbfocemapaaGreatWLast
import Derived.Laws.OwnMore
import Derived.Laws.Rows
import Derived.ArgAppend
namespace Go.Proofs.YtcfocbfocemapaaGreat.Sep
open Go.RowKit Go.Maps
open Go.Proofs.YtcfocbfocemapaaGreatW.PrintWords (Aside0 Drawn0 own_move)
set_option linter.unusedVariables false

/-! ### what turns: the blocks of one footprint, and new ones -/
structure Turns (fp : Nat → Prop) (w w' : World) : Prop where
  os : w'.os = w.os
  tape : w'.tape = w.tape
  output : w'.output = w.output
  size : w.heap.size ≤ w'.heap.size
  block : ∀ k, k < w.heap.size → ¬ fp k → w'.heap[k]? = w.heap[k]?
theorem Turns.refl (fp : Nat → Prop) (w : World) : Turns fp w w := ⟨rfl, rfl, rfl, Nat.le_refl _, fun _ _ _ => rfl⟩
theorem Turns.trans {fp fp' : Nat → Prop} {a b c : World} (h : Turns fp a b) (k : Turns fp' b c) (hf : ∀ k, fp' k → fp k ∨ a.heap.size ≤ k) : Turns fp a c :=
  ⟨k.os.trans h.os, k.tape.trans h.tape, k.output.trans h.output, Nat.le_trans h.size k.size, fun i hi hn =>
    (k.block i (Nat.lt_of_lt_of_le hi h.size) (fun e => by rcases hf i e with h | h; exact hn h; omega)).trans (h.block i hi hn)⟩
theorem Turns.mono {fp fp' : Nat → Prop} {a b : World} (h : Turns fp a b) (hf : ∀ k, fp k → fp' k) : Turns fp' a b :=
  ⟨h.os, h.tape, h.output, h.size, fun i hi hn => h.block i hi (fun e => hn (hf i e))⟩
theorem Turns.of_grown {fp : Nat → Prop} {a b : World} {row : Option Nat} (h : a.grownBy b row) (hf : ∀ k, row = some k → fp k) : Turns fp a b :=
  ⟨h.os, h.tape, h.output, h.size, fun i hi hn => h.block i hi (fun e => hn (hf i e.symm))⟩
theorem Turns.alloc (fp : Nat → Prop) (w : World) (o : Obj) : Turns fp w (w.alloc o) := Turns.of_grown (World.grownBy_alloc w o none) (fun _ h => by cases h)
theorem Turns.setCell {fp : Nat → Prop} (w : World) (a : Addr) (u : Value) (h : fp a.block) : Turns fp w (w.setCell a u) :=
  ⟨rfl, rfl, rfl, by simp [World.setCell], fun k _ hn => Below.heap_setCell w a u k (fun e => hn (e ▸ h))⟩
theorem Turns.drewN {fp : Nat → Prop} (w : World) (n : Nat) : Turns fp w (w.drewN n) := ⟨rfl, rfl, rfl, Nat.le_refl _, fun _ _ _ => rfl⟩
theorem Turns.below {fp : Nat → Prop} {a b : World} (h : Turns fp a b) {B : Nat} (hB : B ≤ a.heap.size) (hf : ∀ k, fp k → B ≤ k) : Below B a b :=
  ⟨h.os, h.tape, h.output, h.size, fun k hk => h.block k (by omega) (fun e => by have := hf k e; omega)⟩

theorem set_block {w : World} {p : Nat} {c : Array Value} {t : TypeId} {f : Nat × Nat} (h : w.heap[p]? = some (.cells c t f)) (i : Nat) (u : Value) : (w.setCell ⟨p, i, none⟩ u).heap[p]? = some (.cells (c.setIfInBounds i u) t f) := by
  simp [World.setCell, Array.getElem?_modify, h]
theorem row_slice {w : World} {base e size n : Nat} {v : Value} {xs : List Value} (h : w.ownsRow base e size v n xs) : ∃ A cap, v = .slice A n cap ∧ n ≤ cap := by
  rcases h.2 with ⟨rfl, rfl⟩ | ⟨g, cap, cur, rfl, _, _, hn, _⟩
  · exact ⟨_, _, rfl, Nat.le_refl _⟩
  · exact ⟨_, _, rfl, hn⟩
theorem row_some {w : World} {base e size n : Nat} {v : Value} {xs : List Value} (h : w.ownsRow base e size v n xs) (hn : 0 < n) :
    ∃ g cap, v = .slice (some ⟨g, 0, none⟩) n cap ∧ n ≤ cap ∧ (∀ j u, xs[j]? = some u → w.cell? ⟨g, j, none⟩ = some u) ∧ (∀ j, w.frozen? ⟨g, j, none⟩ = false) ∧ ∃ cur, w.heap[g]? = some (.cells cur e (0, 0)) := by
  have hc := fun (k : Nat) (hk : v.ownBlock = some k) => h.cells hk
  rcases h.2 with ⟨rfl, rfl⟩ | ⟨g, cap, cur, rfl, _, hg, hnc, _⟩
  · omega
  · refine ⟨g, cap, rfl, hnc, fun j u hu => ?_, fun j => ?_, cur, hg⟩
    · have := hc g rfl j u hu
      rw [show (⟨g, 0, none⟩ : Addr).add j = ⟨g, j, none⟩ from by unfold Addr.add; split <;> simp_all] at this
      exact this
    · simp [World.frozen?, hg]
theorem cell_at {w : World} {p : Nat} {cs : Array Value} {t : TypeId} (h : w.heap[p]? = some (.cells cs t (0, 0))) (i : Nat) : w.cell? ⟨p, i, none⟩ = cs[i]? ∧ w.frozen? ⟨p, i, none⟩ = false := by
  constructor
  · simp [World.cell?, h]
  · simp [World.frozen?, h]

theorem cells_two_new (w : World) (x y : Value) (t : TypeId) : ∀ j u, [x, y][j]? = some u → (w.alloc (.cells #[x, y] t)).cell? ((⟨w.heap.size, 0, none⟩ : Addr).add j) = some u := by
  intro j u hu
  match j, hu with
  | 0, hu => simp at hu; subst hu; simp [Addr.add]
  | 1, hu => simp at hu; subst hu; simp [Addr.add]

/-- A footprint, and all that is made from now on. -/
def More (fp : Nat → Prop) (n : Nat) : Nat → Prop := fun k => fp k ∨ n ≤ k
/-- A thing in memory: what it says of a world, of the blocks that it takes (and of no others). -/
structure Res where
  at_ : World → (Nat → Prop) → Prop
  move : ∀ {w w' : World} {f : Nat → Prop}, at_ w f → (∀ k, f k → w'.heap[k]? = w.heap[k]?) → at_ w' f
  mono : ∀ {w : World} {f g : Nat → Prop}, at_ w f → (∀ k, f k → g k) → at_ w g
  bound : ∀ {w : World} {f : Nat → Prop}, at_ w f → at_ w (fun k => f k ∧ k < w.heap.size)
def SepF (N : Nat) (w : World) : List Res → (Nat → Prop) → Prop
  | [], _ => True
  | r :: rs, fp => ∃ f g, r.at_ w f ∧ SepF N w rs g ∧ (∀ k, f k → ¬ g k) ∧ (∀ k, f k → fp k ∧ N ≤ k ∧ k < w.heap.size) ∧ (∀ k, g k → fp k)
/-- W: the world in which the law began. -/
def Sep (W w : World) (rs : List Res) : Prop := Below W.heap.size W w ∧ ∃ fp, SepF W.heap.size w rs fp ∧ ∀ k, fp k → W.heap.size ≤ k ∧ k < w.heap.size

section
variable {W w w' : World} {N : Nat} {r r' a b : Res} {rs : List Res}
theorem SepF.move {fp : Nat → Prop} (h : SepF N w rs fp) (hm : ∀ k, fp k → w'.heap[k]? = w.heap[k]?) (hs : w.heap.size ≤ w'.heap.size) : SepF N w' rs fp := by
  induction rs generalizing fp with
  | nil => trivial
  | cons r rs ih =>
    obtain ⟨f, g, h1, h2, h3, h4, h5⟩ := h
    exact ⟨f, g, r.move h1 (fun k hk => hm k (h4 k hk).1), ih h2 (fun k hk => hm k (h5 k hk)), h3, fun k hk => ⟨(h4 k hk).1, (h4 k hk).2.1, Nat.lt_of_lt_of_le (h4 k hk).2.2 hs⟩, h5⟩
theorem SepF.mono {fp fp' : Nat → Prop} (h : SepF N w rs fp) (hm : ∀ k, fp k → fp' k) : SepF N w rs fp' := by
  cases rs with
  | nil => trivial
  | cons r rs =>
    obtain ⟨f, g, h1, h2, h3, h4, h5⟩ := h
    exact ⟨f, g, h1, h2, h3, fun k hk => ⟨hm k (h4 k hk).1, (h4 k hk).2⟩, fun k hk => hm k (h5 k hk)⟩
theorem Sep.start (W : World) : Sep W W [] := ⟨Below.refl _ _, fun _ => False, trivial, fun _ h => h.elim⟩
theorem Sep.past (h : Sep W w rs) (ht : Turns (fun _ => False) w w') : Sep W w' rs := by
  obtain ⟨hB, fp, h1, h2⟩ := h
  exact ⟨hB.trans (ht.below hB.size (fun _ h => h.elim)), fp, h1.move (fun k hk => ht.block k (h2 k hk).2 (fun x => x)) ht.size, fun k hk => ⟨(h2 k hk).1, Nat.lt_of_lt_of_le (h2 k hk).2 ht.size⟩⟩
theorem Sep.drawn (h : Sep W w rs) (hd : Drawn0 w w') : Sep W w' rs := by
  obtain ⟨n, rfl⟩ := hd
  exact h.past (Turns.drewN w n)
theorem Sep.below (h : Sep W w rs) (hb : Below w.heap.size w w') : Sep W w' rs := h.past ⟨hb.os, hb.tape, hb.output, hb.size, fun k hk _ => hb.block k hk⟩
theorem Sep.alloc (h : Sep W w rs) (o : Obj) : Sep W (w.alloc o) rs := h.past (Turns.alloc _ w o)
theorem Sep.tail (h : Sep W w (r :: rs)) : Sep W w rs := by
  obtain ⟨hB, fp, ⟨f, g, h1, h2, h3, h4, h5⟩, h6⟩ := h
  exact ⟨hB, g, h2, fun k hk => h6 k (h5 k hk)⟩
theorem Sep.swap (h : Sep W w (a :: b :: rs)) : Sep W w (b :: a :: rs) := by
  obtain ⟨hB, fp, ⟨f, g, h1, ⟨f2, g2, k1, k2, k3, k4, k5⟩, h3, h4, h5⟩, h6⟩ := h
  refine ⟨hB, fp, ⟨f2, fun k => f k ∨ g2 k, k1, ⟨f, g2, h1, k2, fun k hk hk2 => h3 k hk (k5 k hk2), fun k hk => ⟨.inl hk, (h4 k hk).2⟩, fun k hk => .inr hk⟩, fun k hk => ?_, fun k hk => ⟨h5 k (k4 k hk).1, (k4 k hk).2⟩, fun k hk => ?_⟩, h6⟩
  · rintro (hk2 | hk2)
    · exact h3 k hk2 (k4 k hk).1
    · exact k3 k hk hk2
  · rcases hk with hk | hk
    · exact (h4 k hk).1
    · exact h5 k (k5 k hk)
theorem Sep.swap3 {c : Res} (h : Sep W w (a :: b :: c :: rs)) : Sep W w (c :: a :: b :: rs) := by
  obtain ⟨hB, fp, ⟨f, g, h1, h2, h3, h4, h5⟩, h6⟩ := h
  have t : Sep W w (b :: c :: rs) := ⟨hB, g, h2, fun k hk => h6 k (h5 k hk)⟩
  have s : Sep W w (a :: c :: b :: rs) := by
    obtain ⟨f2, g2, k1, ⟨f3, g3, l1, l2, l3, l4, l5⟩, k3, k4, k5⟩ := h2
    refine ⟨hB, fp, ⟨f, g, h1, ⟨f3, fun k => f2 k ∨ g3 k, l1, ⟨f2, g3, k1, l2, fun k hk hk2 => k3 k hk (l5 k hk2), fun k hk => ⟨.inl hk, (k4 k hk).2⟩, fun k hk => .inr hk⟩, fun k hk => ?_, fun k hk => ⟨k5 k (l4 k hk).1, (l4 k hk).2⟩, fun k hk => ?_⟩, h3, h4, h5⟩, h6⟩
    · rintro (hk2 | hk2)
      · exact k3 k hk2 (l4 k hk).1
      · exact l3 k hk hk2
    · rcases hk with hk | hk
      · exact (k4 k hk).1
      · exact k5 k (l5 k hk)
  exact s.swap
theorem SepF.swap {fp : Nat → Prop} (h : SepF N w (a :: b :: rs) fp) : SepF N w (b :: a :: rs) fp := by
  obtain ⟨f, g, h1, ⟨f2, g2, k1, k2, k3, k4, k5⟩, h3, h4, h5⟩ := h
  refine ⟨f2, fun k => f k ∨ g2 k, k1, ⟨f, g2, h1, k2, fun k hk hk2 => h3 k hk (k5 k hk2), fun k hk => ⟨.inl hk, (h4 k hk).2⟩, fun k hk => .inr hk⟩, fun k hk => ?_, fun k hk => ⟨h5 k (k4 k hk).1, (k4 k hk).2⟩, fun k hk => ?_⟩
  · rintro (hk2 | hk2)
    · exact h3 k hk2 (k4 k hk).1
    · exact k3 k hk hk2
  · rcases hk with hk | hk
    · exact (h4 k hk).1
    · exact h5 k (k5 k hk)
theorem SepF.perm {rs rs' : List Res} (hp : rs.Perm rs') : ∀ {fp : Nat → Prop}, SepF N w rs fp → SepF N w rs' fp := by
  induction hp with
  | nil => exact fun h => h
  | cons r _ ih =>
    rintro fp ⟨f, g, h1, h2, h3⟩
    exact ⟨f, g, h1, ih h2, h3⟩
  | swap a b l => exact fun h => h.swap
  | trans _ _ ih1 ih2 => exact fun h => ih2 (ih1 h)
theorem Sep.perm {rs rs' : List Res} (h : Sep W w rs) (hp : rs.Perm rs') : Sep W w rs' := by
  obtain ⟨hB, fp, h1, h2⟩ := h
  exact ⟨hB, fp, h1.perm hp, h2⟩
theorem pull_perm {α : Type} : ∀ (l : List α) (i : Nat) (hi : i < l.length), l.Perm (l[i] :: l.eraseIdx i)
  | a :: l, 0, _ => List.Perm.refl _
  | a :: l, i + 1, hi => (List.Perm.cons a (pull_perm l i (by simpa using hi))).trans (List.Perm.swap _ _ _)
/-- One of the things taken to the front. -/
theorem Sep.pull {rs : List Res} (h : Sep W w rs) (i : Nat) (hi : i < rs.length) : Sep W w (rs[i] :: rs.eraseIdx i) := h.perm (pull_perm rs i hi)
/-- The first thing turns. -/
theorem Sep.turn (h : Sep W w (r :: rs)) (hd : ∀ f, r.at_ w f → r'.at_ w' (More f w.heap.size) ∧ Turns f w w') : Sep W w' (r' :: rs) := by
  obtain ⟨hB, fp, ⟨f, g, h1, h2, h3, h4, h5⟩, h6⟩ := h
  obtain ⟨h7, ht⟩ := hd f h1
  have hs := ht.size
  have hs1 := hB.size
  refine ⟨hB.trans (ht.below hs1 (fun k hk => (h4 k hk).2.1)), fun k => (fp k ∨ w.heap.size ≤ k) ∧ k < w'.heap.size, ⟨fun k => More f w.heap.size k ∧ k < w'.heap.size, g, r'.bound h7, h2.move (fun k hk => ht.block k (h6 k (h5 k hk)).2 (fun hf => h3 k hf hk)) hs, fun k hk hk2 => ?_, fun k hk => ⟨⟨?_, hk.2⟩, ?_, hk.2⟩, fun k hk => ⟨.inl (h5 k hk), Nat.lt_of_lt_of_le (h6 k (h5 k hk)).2 hs⟩⟩, fun k hk => ⟨?_, hk.2⟩⟩
  · rcases hk.1 with hk | hk
    · exact h3 k hk hk2
    · have := (h6 k (h5 k hk2)).2
      omega
  · rcases hk.1 with hk | hk
    · exact .inl (h4 k hk).1
    · exact .inr hk
  · rcases hk.1 with hk | hk
    · exact (h4 k hk).2.1
    · omega
  · rcases hk.1 with hk | hk
    · exact (h6 k hk).1
    · omega
/-- A new thing. -/
theorem Sep.fresh (h : Sep W w rs) (ht : Turns (fun _ => False) w w') {f : Nat → Prop} (hr : r.at_ w' f) (hf : ∀ k, f k → w.heap.size ≤ k) : Sep W w' (r :: rs) := by
  have h' := h.past ht
  obtain ⟨hB, fp, h1, h2⟩ := h
  have hs := ht.size
  have hs1 := hB.size
  refine ⟨h'.1, fun k => (fp k ∨ w.heap.size ≤ k) ∧ k < w'.heap.size, ⟨fun k => f k ∧ k < w'.heap.size, fp, r.bound hr, h1.move (fun k hk => ht.block k (h2 k hk).2 (fun x => x)) hs, fun k hk hk2 => ?_, fun k hk => ⟨⟨.inr (hf k hk.1), hk.2⟩, ?_, hk.2⟩, fun k hk => ⟨.inl hk, Nat.lt_of_lt_of_le (h2 k hk).2 hs⟩⟩, fun k hk => ⟨?_, hk.2⟩⟩
  · have := hf k hk.1
    have := (h2 k hk2).2
    omega
  · have := hf k hk.1; omega
  · rcases hk.1 with hk | hk
    · exact (h2 k hk).1
    · omega
theorem Sep.head (h : Sep W w (r :: rs)) : ∃ f, r.at_ w f ∧ ∀ k, f k → W.heap.size ≤ k ∧ k < w.heap.size := by
  obtain ⟨hB, fp, ⟨f, g, h1, h2, h3, h4, h5⟩, h6⟩ := h
  exact ⟨f, h1, fun k hk => (h4 k hk).2⟩
/-- Two things taken as one; one thing told otherwise. -/
theorem Sep.join (h : Sep W w (a :: b :: rs)) (hj : ∀ f g, a.at_ w f → b.at_ w g → r.at_ w (fun k => f k ∨ g k)) : Sep W w (r :: rs) := by
  obtain ⟨hB, fp, ⟨f, g, h1, ⟨f2, g2, k1, k2, k3, k4, k5⟩, h3, h4, h5⟩, h6⟩ := h
  refine ⟨hB, fp, ⟨fun k => f k ∨ f2 k, g2, hj f f2 h1 k1, k2, fun k hk hk2 => ?_, fun k hk => ?_, fun k hk => h5 k (k5 k hk)⟩, h6⟩
  · rcases hk with hk | hk
    · exact h3 k hk (k5 k hk2)
    · exact k3 k hk hk2
  · rcases hk with hk | hk
    · exact h4 k hk
    · exact ⟨h5 k (k4 k hk).1, (k4 k hk).2⟩
theorem Sep.told (h : Sep W w (a :: rs)) (hj : ∀ f, a.at_ w f → r.at_ w f) : Sep W w (r :: rs) := by
  obtain ⟨hB, fp, ⟨f, g, h1, h2⟩, h6⟩ := h
  exact ⟨hB, fp, ⟨f, g, hj f h1, h2⟩, h6⟩
theorem Sep.calls {f : FuncId} {args : Array Value} {P : Ending → Prop} (h : Sep W w (r :: rs)) (hd : ∀ F1, r.at_ w F1 → Calls Tryz.prog f args w fun e w' => P e ∧ r'.at_ w' (More F1 w.heap.size) ∧ Turns F1 w w') :
    Calls Tryz.prog f args w fun e w' => P e ∧ Sep W w' (r' :: rs) := by
  have h' := h
  obtain ⟨hB, fp, ⟨F1, g, h1, h2, h3, h4, h5⟩, h6⟩ := h'
  refine (hd F1 h1).mono fun e w' ⟨he, hx, ht⟩ => ⟨he, ?_⟩
  have hs := ht.size
  have hs1 := hB.size
  refine ⟨hB.trans (ht.below hs1 (fun k hk => (h4 k hk).2.1)), fun k => (fp k ∨ w.heap.size ≤ k) ∧ k < w'.heap.size, ⟨fun k => More F1 w.heap.size k ∧ k < w'.heap.size, g, r'.bound hx, h2.move (fun k hk => ht.block k (h6 k (h5 k hk)).2 (fun hf => h3 k hf hk)) hs, fun k hk hk2 => ?_, fun k hk => ⟨⟨?_, hk.2⟩, ?_, hk.2⟩, fun k hk => ⟨.inl (h5 k hk), Nat.lt_of_lt_of_le (h6 k (h5 k hk)).2 hs⟩⟩, fun k hk => ⟨?_, hk.2⟩⟩
  · rcases hk.1 with hk | hk
    · exact h3 k hk hk2
    · have := (h6 k (h5 k hk2)).2
      omega
  · rcases hk.1 with hk | hk
    · exact .inl (h4 k hk).1
    · exact .inr hk
  · rcases hk.1 with hk | hk
    · exact (h4 k hk).2.1
    · omega
  · rcases hk.1 with hk | hk
    · exact (h6 k hk).1
    · omega
end

/-- A row: a list of one's own. -/
def RowAt (w : World) (e : TypeId) (size : Nat) (v : Value) (n : Nat) (xs : List Value) (f : Nat → Prop) : Prop := w.ownsRow 0 e size v n xs ∧ ∀ k, v.ownBlock = some k → f k
def rowR (e : TypeId) (size : Nat) (v : Value) (n : Nat) (xs : List Value) : Res :=
  ⟨fun w f => RowAt w e size v n xs f, fun h hm => ⟨own_move h.1 (fun k hk => hm k (h.2 k hk)), h.2⟩, fun h hm => ⟨h.1, fun k hk => hm k (h.2 k hk)⟩, fun h => ⟨h.1, fun k hk => ⟨h.2 k hk, (h.1.lt k hk).2⟩⟩⟩

section
variable {W w w' : World} {rs : List Res} {e size n m : Nat} {v v' : Value} {xs ys : List Value}
theorem Sep.row (h : Sep W w (rowR e size v n xs :: rs)) : w.ownsRow 0 e size v n xs := by
  obtain ⟨f, h1, _⟩ := h.head
  exact h1.1
theorem Sep.row_lt (h : Sep W w (rowR e size v n xs :: rs)) {k : Nat} (hk : v.ownBlock = some k) : W.heap.size ≤ k ∧ k < w.heap.size := by
  obtain ⟨f, h1, h2⟩ := h.head
  exact h2 k (h1.2 k hk)
/-- Behind the law of append. -/
theorem Sep.appended (h : Sep W w (rowR e size v n xs :: rs)) (hown : w'.ownsRow 0 e size v' m ys) (hgrow : w.grownBy w' v.ownBlock) (hat : v'.ownBlock = v.ownBlock ∨ v'.ownBlock = some w.heap.size) : Sep W w' (rowR e size v' m ys :: rs) := by
  refine h.turn fun f ⟨h1, h2⟩ => ⟨⟨hown, fun k hk => ?_⟩, Turns.of_grown hgrow (fun k hk => h2 k hk)⟩
  rcases hat with e | e
  · rw [e] at hk
    exact .inl (h2 k hk)
  · rw [e] at hk
    right
    have := Option.some.inj hk
    omega
/-- Behind a store into it. -/
theorem Sep.stored {b c j : Nat} {u : Value} (h : Sep W w (rowR e 1 (.slice (some ⟨b, 0, none⟩) n c) n xs :: rs)) (hj : j < n) (hu : u.oneCell' = true) :
    Sep W (w.setCell ⟨b, j, none⟩ u) (rowR e 1 (.slice (some ⟨b, 0, none⟩) n c) n (xs.set j u) :: rs) := by
  refine h.turn fun f ⟨h1, h2⟩ => ⟨⟨?_, fun k hk => .inl (h2 k hk)⟩, Turns.setCell w ⟨b, j, none⟩ u (h2 b rfl)⟩
  refine ⟨by have := h1.1; simpa using this, .inr ?_⟩
  rcases h1.2 with ⟨e1, _⟩ | ⟨g', cap', cur, e1, hb, hgg, hn, hc, hsz, htk⟩
  · cases e1
  · simp only [Value.slice.injEq, Option.some.injEq, Addr.mk.injEq, and_true, true_and] at e1
    obtain ⟨rfl, rfl⟩ := e1
    refine ⟨b, c, cur.setIfInBounds j u, rfl, hb, set_block hgg _ _, hn, hc, by simpa using hsz, ?_⟩
    rw [Array.toList_setIfInBounds, List.take_set, htk]
end
theorem owns_zero {w : World} {b e size n : Nat} {v : Value} {xs : List Value} (h : w.ownsRow b e size v n xs) : w.ownsRow 0 e size v n xs := by
  refine ⟨h.1, ?_⟩
  rcases h.2 with h2 | ⟨g, cap, cur, e1, hb, r⟩
  · exact .inl h2
  · exact .inr ⟨g, cap, cur, e1, Nat.zero_le _, r⟩
theorem RowAt.move {w w' : World} {e size n : Nat} {v : Value} {xs : List Value} {f : Nat → Prop} (h : RowAt w e size v n xs f) (hm : ∀ k, f k → w'.heap[k]? = w.heap[k]?) : RowAt w' e size v n xs f := ⟨own_move h.1 (fun k hk => hm k (h.2 k hk)), h.2⟩
theorem RowAt.mono {w : World} {e size n : Nat} {v : Value} {xs : List Value} {f g : Nat → Prop} (h : RowAt w e size v n xs f) (hm : ∀ k, f k → g k) : RowAt w e size v n xs g := ⟨h.1, fun k hk => hm k (h.2 k hk)⟩
theorem RowAt.bound {w : World} {e size n : Nat} {v : Value} {xs : List Value} {f : Nat → Prop} (h : RowAt w e size v n xs f) : RowAt w e size v n xs (fun k => f k ∧ k < w.heap.size) := ⟨h.1, fun k hk => ⟨h.2 k hk, (h.1.lt k hk).2⟩⟩

/-- A block of one's own. -/
def boxR (b : Nat) (t : TypeId) (cs : Array Value) : Res :=
  ⟨fun w f => w.heap[b]? = some (.cells cs t (0, 0)) ∧ f b, fun h hm => ⟨(hm b h.2).trans h.1, h.2⟩, fun h hm => ⟨h.1, hm b h.2⟩, fun {w _} h => ⟨h.1, h.2, (Array.getElem?_eq_some_iff.1 h.1).1⟩⟩
theorem box_fresh {W w : World} {rs : List Res} (h : Sep W w rs) (t : TypeId) (cs : Array Value) : Sep W (w.alloc (.cells cs t)) (boxR w.heap.size t cs :: rs) :=
  h.fresh (f := fun k => w.heap.size ≤ k) (Turns.alloc _ w _) ⟨heap_alloc_new _ _, Nat.le_refl _⟩ (fun _ hk => hk)
theorem box_at {W w : World} {rs : List Res} {b : Nat} {t : TypeId} {cs : Array Value} (h : Sep W w (boxR b t cs :: rs)) : w.heap[b]? = some (.cells cs t (0, 0)) := by
  obtain ⟨f, hf, _⟩ := h.head
  exact hf.1
theorem box_set {W w : World} {rs : List Res} {b : Nat} {t : TypeId} {cs : Array Value} (h : Sep W w (boxR b t cs :: rs)) (j : Nat) (u : Value) : Sep W (w.setCell ⟨b, j, none⟩ u) (boxR b t (cs.setIfInBounds j u) :: rs) :=
  h.turn fun f ⟨h1, h2⟩ => ⟨⟨set_block h1 _ _, .inl h2⟩, Turns.setCell w ⟨b, j, none⟩ u h2⟩

end Go.Proofs.YtcfocbfocemapaaGreat.Sep

namespace Go.Proofs.YtcfocbfocemapaaGreat.Mem
open Go.RowKit Go.Maps Go.Proofs.YtcfocbfocemapaaGreat.Sep
open Go.Proofs.YtcfocbfocemapaaGreatW.PrintWords
open Go.Proofs.YtcfocbfocemapaaGreatW.PrintLast
set_option linter.unusedVariables false
set_option linter.unusedSimpArgs false
set_option maxRecDepth 100000

abbrev num (n : Int) : Value := .int .i64 n
def nat (n : Nat) : Value := .int .i64 (n : Int)

theorem erase_set {α : Type} (r : α) : ∀ (l : List α) (i : Nat), (l.set i r).eraseIdx i = l.eraseIdx i
  | [], i => by simp
  | a :: l, 0 => rfl
  | a :: l, i + 1 => by simp [erase_set r l i]
theorem push {W w : World} {r' : Res} {l : List Res} {i : Nat} (h : Sep W w (r' :: l.eraseIdx i)) (hi : i < l.length) : Sep W w (l.set i r') := by
  refine h.perm ?_
  have h1 : i < (l.set i r').length := by simpa using hi
  have hp := pull_perm (l.set i r') i h1
  have e1 : (l.set i r')[i] = r' := by simp
  have e2 := erase_set r' l i
  rw [e1, e2] at hp
  exact hp.symm
/-- The thing at place i turns. -/
theorem at_ {W w w' : World} {r' : Res} {l : List Res} (h : Sep W w l) (i : Nat) (hi : i < l.length) (hd : ∀ rs, Sep W w (l[i] :: rs) → Sep W w' (r' :: rs)) : Sep W w' (l.set i r') := push (hd _ (h.pull i hi)) hi

/-- W: the world in which the law began. C holds while what lay there, and the thing's own blocks, stay. -/
def readR (W : World) (C : World → Prop) : Res :=
  ⟨fun w f => ∀ w', (∀ k, k < W.heap.size → w'.heap[k]? = W.heap[k]?) → (∀ k, f k → k < w.heap.size → w'.heap[k]? = w.heap[k]?) → C w',
   fun {w w1 f} h hm w' h1 h2 => h w' h1 (fun k hk hl => by
     have e := hm k hk
     have hl1 : k < w1.heap.size := by
       rcases Nat.lt_or_ge k w1.heap.size with h | h
       · exact h
       · rw [Array.getElem?_eq_none h, Array.getElem?_eq_getElem hl] at e
         cases e
     exact (h2 k hk hl1).trans e),
   fun h hm w' h1 h2 => h w' h1 (fun k hk => h2 k (hm k hk)),
   fun h w' h1 h2 => h w' h1 (fun k hk hl => h2 k ⟨hk, hl⟩ hl)⟩
theorem read_at {W w : World} {C : World → Prop} {rs : List Res} (h : Sep W w (readR W C :: rs)) : C w := by
  obtain ⟨f, hf, _⟩ := h.head
  exact hf w (fun k hk => h.1.block k hk) (fun _ _ _ => rfl)
/-- What lay there when the law began. -/
theorem read_old {W w : World} {C : World → Prop} {rs : List Res} (h : Sep W w rs) (hC : ∀ w', (∀ k, k < W.heap.size → w'.heap[k]? = W.heap[k]?) → C w') : Sep W w (readR W C :: rs) :=
  h.fresh (w' := w) (f := fun _ => False) (Turns.refl _ _) (fun w' h1 _ => hC w' h1) (fun _ h => h.elim)

/-- A cell that the thing always has lies in its own blocks, or lay there when the law began: it stays. -/
theorem read_cell {W w : World} {C : World → Prop} {rs : List Res} (h : Sep W w (readR W C :: rs)) (a : Addr) (hC : ∀ w', C w' → ∃ u, w'.cell? a = some u) {u : Value} (hu : w.cell? a = some u) :
    Sep W w (readR W (fun w' => C w' ∧ w'.cell? a = some u) :: rs) := by
  have hB := h.1
  refine h.told fun f hf w' h1 h2 => ⟨hf w' h1 h2, ?_⟩
  have hl : a.block < w.heap.size := World.block_lt_of_cell? w _ hu
  by_cases ho : a.block < W.heap.size
  · have e : w'.heap[a.block]? = w.heap[a.block]? := (h1 _ ho).trans (hB.block _ ho).symm
    unfold World.cell? at hu ⊢
    rw [e]
    exact hu
  by_cases hfa : f a.block
  · have e := h2 _ hfa hl
    unfold World.cell? at hu ⊢
    rw [e]
    exact hu
  · obtain ⟨v, hv⟩ := hC { w with heap := w.heap.setIfInBounds a.block (.map #[] 0) } (hf _ (fun k hk => by
      show (w.heap.setIfInBounds a.block (.map #[] 0))[k]? = _
      rw [Array.getElem?_setIfInBounds_ne (by omega)]
      exact hB.block k hk) (fun k hk _ => by
      show (w.heap.setIfInBounds a.block (.map #[] 0))[k]? = _
      rw [Array.getElem?_setIfInBounds_ne (by rintro rfl; exact hfa hk)]))
    exfalso
    unfold World.cell? at hv
    have e : (w.heap.setIfInBounds a.block (Obj.map #[] 0))[a.block]? = some (Obj.map #[] 0) := by simp [hl]
    simp only [e] at hv
    cases hv

/-- A store into a list of one's own. -/
theorem stored_n {W w : World} {rs : List Res} {e size n c b j : Nat} {u : Value} {xs : List Value} (h : Sep W w (rowR e size (.slice (some ⟨b, 0, none⟩) n c) n xs :: rs)) (hj : j < n * size) (hu : u.oneCell' = true) :
    Sep W (w.setCell ⟨b, j, none⟩ u) (rowR e size (.slice (some ⟨b, 0, none⟩) n c) n (xs.set j u) :: rs) := by
  refine h.turn fun f ⟨h1, h2⟩ => ⟨⟨?_, fun k hk => .inl (h2 k hk)⟩, Turns.setCell w ⟨b, j, none⟩ u (h2 b rfl)⟩
  refine ⟨by have := h1.1; simpa using this, .inr ?_⟩
  rcases h1.2 with ⟨e1, _⟩ | ⟨g', cap', cur, e1, hb, hgg, hn, hc, hsz, htk⟩
  · cases e1
  · simp only [Value.slice.injEq, Option.some.injEq, Addr.mk.injEq, and_true, true_and] at e1
    obtain ⟨rfl, rfl⟩ := e1
    refine ⟨b, c, cur.setIfInBounds j u, rfl, hb, set_block hgg _ _, hn, hc, by simpa using hsz, ?_⟩
    rw [Array.toList_setIfInBounds, List.take_set, htk]
theorem row_nil {W w : World} {rs : List Res} (h : Sep W w rs) (e size : Nat) : Sep W w (rowR e size (.slice none 0 0) 0 [] :: rs) :=
  h.fresh (w' := w) (f := fun _ => False) (Turns.refl _ _) ⟨World.ownsRow_nil _ _ _ _, fun k hk => by simp [Value.ownBlock] at hk⟩ (fun _ h => h.elim)
theorem row_cell {W w : World} {rs : List Res} {e size b n c : Nat} {xs : List Value} (h : Sep W w (rowR e size (.slice (some ⟨b, 0, none⟩) n c) n xs :: rs)) {j : Nat} {u : Value} (hu : xs[j]? = some u) : w.cell? ⟨b, j, none⟩ = some u := by
  have ho := h.row
  have hl := ho.1
  have hj := (List.getElem?_eq_some_iff.1 hu).1
  have hn : 0 < n := by
    rcases Nat.eq_zero_or_pos n with h0 | h0
    · rw [h0] at hl; simp at hl; rw [hl] at hj; simp at hj
    · exact h0
  obtain ⟨g, cap, e1, _, hc, _⟩ := row_some ho hn
  simp only [Value.slice.injEq, Option.some.injEq, Addr.mk.injEq, and_true, true_and] at e1
  rw [e1.1]
  exact hc j u hu
theorem box_cell {W w : World} {rs : List Res} {b : Nat} {t : TypeId} {cs : Array Value} (h : Sep W w (boxR b t cs :: rs)) {j : Nat} {u : Value} (hu : cs[j]? = some u) : w.cell? ⟨b, j, none⟩ = some u ∧ w.frozen? ⟨b, j, none⟩ = false :=
  ⟨(blk_cell (box_at h) j).trans hu, blk_frozen (box_at h) j⟩
/-- A block of one's own and a list of one's own lie apart. -/
theorem ne_row {W w : World} {rs : List Res} {b : Nat} {t : TypeId} {cs : Array Value} {e size n : Nat} {v : Value} {xs : List Value} (h : Sep W w (boxR b t cs :: rowR e size v n xs :: rs)) : v.ownBlock ≠ some b := by
  obtain ⟨_, fp, ⟨f, g, h1, ⟨f2, g2, k1, _, _, k4, _⟩, h3, _⟩, _⟩ := h
  intro hv
  exact h3 b h1.2 (k4 b (k1.2 b hv)).1
/-- Two lists of one's own lie apart. -/
theorem ne_rows {W w : World} {rs : List Res} {e size n c b : Nat} {xs : List Value} {e' size' n' : Nat} {v : Value} {ys : List Value} (h : Sep W w (rowR e size (.slice (some ⟨b, 0, none⟩) n c) n xs :: rowR e' size' v n' ys :: rs)) : v.ownBlock ≠ some b := by
  obtain ⟨_, fp, ⟨f, g, h1, ⟨f2, g2, k1, _, _, k4, _⟩, h3, _⟩, _⟩ := h
  intro hv
  exact h3 b (h1.2 b rfl) (k4 b (k1.2 b hv)).1
theorem read_weak {W w : World} {C C' : World → Prop} {rs : List Res} (h : Sep W w (readR W C :: rs)) (hC : ∀ w', C w' → C' w') : Sep W w (readR W C' :: rs) := h.told fun f hf w' h1 h2 => hC w' (hf w' h1 h2)
theorem row_free {W w : World} {rs : List Res} {e size b n c : Nat} {xs : List Value} (h : Sep W w (rowR e size (.slice (some ⟨b, 0, none⟩) n c) n xs :: rs)) (hn : 0 < n) (j : Nat) : w.frozen? ⟨b, j, none⟩ = false := by
  obtain ⟨g, cap, e1, _, _, hf, _⟩ := row_some h.row hn
  simp only [Value.slice.injEq, Option.some.injEq, Addr.mk.injEq, and_true, true_and] at e1
  rw [e1.1]
  exact hf j
theorem new_cell (w : World) (u : Value) (t : TypeId) : (w.alloc (.cells #[u] t)).cell? ⟨w.heap.size, 0, none⟩ = some u := by simp
theorem new_cell' (w : World) (u : Value) (t : TypeId) {n : Nat} (h : w.heap.size = n) : (w.alloc (.cells #[u] t)).cell? ⟨n, 0, none⟩ = some u := by subst h; simp
/-- 'append(l, u)' at the operation, l a list of one's own, of elements of one cell. -/
theorem wp_one {ops : Array Oper} {rest : List Oper} {o : Oper} {a : Act} {Q : Exit → Act → World → Prop} {W w : World} {rs : List Res} {v : Value} {n : Nat} {xs : List Value} {e : TypeId} (M : Sep W w (rowR e 1 v n xs :: rs)) (hgd : o.guard = none) (sl x : Operand) (t : TypeId) {z : Value} {b : Nat}
    (hop : o.op = .call { callee := .builtin .append, args := #[sl, x], argTypes := #[t, t] }) (ht : Tryz.prog.underlying t = some (.slice e)) (hi : (Tryz.prog.info? e).map (fun i => (i.zero, i.size, i.bytes)) = some (some z, 1, b)) (hz : z.cells.size = 1) (hs : a.eval sl = v)
    {ad : Addr} {c2 : Nat} {u : Value} (hx : a.eval x = .slice (some ad) 1 c2) (hnew : w.cell? ad = some u) (hu : u.oneCell' = true) (hb : b ≤ 16) (hn : n ≤ 4398046511104)
    (h : ∀ A c w', n + 1 ≤ c → Sep W w' (rowR e 1 (.slice A (n + 1) c) (n + 1) (xs ++ [u]) :: rs) → wpList Tryz.prog ops Q rest (a.put o.dst (.slice A (n + 1) c)) w') : wpList Tryz.prog ops Q (o :: rest) a w := by
  obtain ⟨i0, hi0, hz0, hz1, hz2⟩ := info_parts hi
  refine wpList_append_own_at w hgd sl x t hop 0 e i0 z 1 b ht hi0 hz0 hz1 hz2 hz (by decide) v n xs hs M.row ad 1 c2 [u] hx rfl ?_ (by intro y hy; simp at hy; subst hy; exact hu) (by unfold maxLen; omega) ?_ (Nat.zero_le _) ?_
  · intro j y hj
    cases j with
    | zero =>
      have : u = y := by simpa using hj
      subst this
      rw [show ad.add 0 = ad from by simp [Addr.add]]
      exact hnew
    | succ j => simp at hj
  · have : (n + 1) * b ≤ (n + 1) * 16 := Nat.mul_le_mul_left _ hb
    omega
  intro v' w' hown hgrow _ hat
  have M2 := M.appended hown hgrow hat
  obtain ⟨A, c, e2, hc⟩ := row_slice hown
  subst e2
  exact h A c w' hc M2
/-- 'make([]T, n)' at the operation, T of one cell. -/
theorem wp_make {ops : Array Oper} {rest : List Oper} {o : Oper} {a : Act} {Q : Exit → Act → World → Prop} {W w : World} {rs : List Res} (M : Sep W w rs) (hgd : o.guard = none) (lo co : Operand) (t e : TypeId) {z : Value} {b : Nat} (hop : o.op = Op.makeSlice t lo co) (ht : Tryz.prog.underlying t = some (.slice e))
    (hi : (Tryz.prog.info? e).map (fun i => (i.zero, i.size, i.bytes)) = some (some z, 1, b)) (hz : z.cells = #[z]) {n : Nat} (hl : a.eval lo = .int .i64 (n : Int)) (hc : a.eval co = .int .i64 (n : Int)) (hb : b ≤ 16) (hn : n ≤ 8796093022208)
    (h : ∀ w', Sep W w' (rowR e 1 (.slice (some ⟨w.heap.size, 0, none⟩) n n) n (List.replicate n z) :: rs) → wpList Tryz.prog ops Q rest (a.put o.dst (.slice (some ⟨w.heap.size, 0, none⟩) n n)) w') : wpList Tryz.prog ops Q (o :: rest) a w := by
  obtain ⟨i0, hi0, hz0, hz1, hz2⟩ := info_parts hi
  refine wpList_make_full w hgd lo co t hop 0 e i0 z 1 ht hi0 hz0 hz1 .i64 .i64 (n : Int) (n : Int) n hl hc rfl rfl ?_ (by unfold maxLen; omega) (Nat.zero_le _) ?_
  · rw [hz2]
    have : b * n ≤ 16 * n := Nat.mul_le_mul_right _ hb
    omega
  intro w' hown hgrow
  refine h w' (M.fresh (f := fun k => w.heap.size ≤ k) (Turns.of_grown hgrow (fun k hk => by cases hk)) ⟨?_, fun k hk => ?_⟩ (fun _ hk => hk))
  · rw [hz, Nat.mul_one, toList_madeCells_one] at hown
    exact hown
  · have : w.heap.size = k := by simpa [Value.ownBlock] using hk
    omega
theorem add0 (b j : Nat) : (⟨b, 0, none⟩ : Addr).add j = ⟨b, j, none⟩ := by unfold Addr.add; split <;> simp_all
/-- A literal of n elements of so many cells each. -/
theorem row_lits {W w : World} {rs : List Res} (h : Sep W w rs) (e size n : Nat) (us : Array Value) (hn : us.size = n * size) (hs : n ≤ maxLen) : Sep W (w.alloc (.cells us e)) (rowR e size (.slice (some ⟨w.heap.size, 0, none⟩) n n) n us.toList :: rs) :=
  h.fresh (f := fun k => w.heap.size ≤ k) (Turns.alloc _ w _) ⟨⟨by rw [Array.length_toList]; exact hn, .inr ⟨w.heap.size, n, us, rfl, Nat.zero_le _, box_at (box_fresh h e us), Nat.le_refl _, hs, hn, by rw [List.take_of_length_le]; rw [Array.length_toList, hn]; exact Nat.le_refl _⟩⟩, fun k hk => by
    have : w.heap.size = k := by simpa [Value.ownBlock] using hk
    omega⟩ (fun _ hk => hk)
/-- A list of one's own, of elements of one cell, as what the printed contracts read. -/
theorem row_C1 {α : Type} {w : World} {K : Kd α} {e : TypeId} {n c : Nat} {A : Option Addr} {enc : α → Value} (hsz : K.sz = 1) (hK : ∀ x, K.K w x [enc x]) {xs : List α} (h : w.ownsRow 0 e 1 (.slice A n c) n (xs.map enc)) (hn : n ≤ 9223372036854775807) : n ≤ c ∧ Kd.C K w A n xs := by
  obtain ⟨A2, c2, e2, hc⟩ := row_slice h
  simp only [Value.slice.injEq, true_and] at e2
  obtain ⟨rfl, rfl⟩ := e2
  have hl := h.1
  simp only [List.length_map, Nat.mul_one] at hl
  refine ⟨hc, hl, hn, fun hp => ?_⟩
  obtain ⟨b, cap, e3, _, hcell, _⟩ := row_some h hp
  simp only [Value.slice.injEq, true_and] at e3
  refine ⟨⟨b, 0, none⟩, e3.1, fun j p hp => ⟨[enc p], by rw [hsz]; rfl, hK p, fun i u hu => ?_⟩⟩
  have hi : i = 0 := by
    have := (List.getElem?_eq_some_iff.1 hu).1
    simpa using this
  subst hi
  simp at hu
  subst hu
  have := hcell j (enc p) (by rw [List.getElem?_map, hp]; rfl)
  rw [hsz, Nat.mul_one, Nat.add_zero, add0]
  exact this
theorem row_Cs {w : World} {n c : Nat} {A : Option Addr} {xs : List ByteArray} (h : w.ownsRow 0 9 1 (.slice A n c) n (xs.map Value.string)) (hn : n ≤ 9223372036854775807) : n ≤ c ∧ Kd.C Kd.string w A n xs :=
  row_C1 rfl (fun _ => rfl) h hn
theorem row_Ci {w : World} {n c : Nat} {A : Option Addr} {xs : List Int} (h : w.ownsRow 0 3 1 (.slice A n c) n (xs.map num)) (hn : n ≤ 9223372036854775807) : n ≤ c ∧ Kd.C (Kd.int .i64) w A n xs :=
  row_C1 rfl (fun _ => rfl) h hn
/-- The same of a block that is known whole. -/
theorem lit_Cs {w : World} {b n : Nat} {us : Array Value} {xs : List ByteArray} (h : w.heap[b]? = some (.cells us 9 (0, 0))) (hu : us.toList = xs.map Value.string) (hn : xs.length = n) (hm : n ≤ 9223372036854775807) : Kd.C Kd.string w (some ⟨b, 0, none⟩) n xs := by
  have hs : us.size = xs.length := by have := congrArg List.length hu; simpa using this
  have ho : w.ownsRow 0 9 1 (.slice (some ⟨b, 0, none⟩) n n) n (xs.map Value.string) := ⟨by simp [hn], .inr ⟨b, n, us, rfl, Nat.zero_le _, h, Nat.le_refl _, by unfold maxLen; omega, by omega, by rw [List.take_of_length_le (by simp; omega), hu]⟩⟩
  exact (row_Cs ho hm).2
theorem lit_Ci {w : World} {b n : Nat} {us : Array Value} {xs : List Int} (h : w.heap[b]? = some (.cells us 3 (0, 0))) (hu : us.toList = xs.map num) (hn : xs.length = n) (hm : n ≤ 9223372036854775807) : Kd.C (Kd.int .i64) w (some ⟨b, 0, none⟩) n xs := by
  have hs : us.size = xs.length := by have := congrArg List.length hu; simpa using this
  have ho : w.ownsRow 0 3 1 (.slice (some ⟨b, 0, none⟩) n n) n (xs.map num) := ⟨by simp [hn], .inr ⟨b, n, us, rfl, Nat.zero_le _, h, Nat.le_refl _, by unfold maxLen; omega, by omega, by rw [List.take_of_length_le (by simp; omega), hu]⟩⟩
  exact (row_Ci ho hm).2
/-- 'append(l, xs...)' at the operation, l of one's own, xs a list of elements of one cell that lies anywhere. -/
theorem wp_many {ops : Array Oper} {rest : List Oper} {o : Oper} {a : Act} {Q : Exit → Act → World → Prop} {W w : World} {rs : List Res} {v : Value} {n : Nat} {xs : List Value} {e : TypeId} (M : Sep W w (rowR e 1 v n xs :: rs)) (hgd : o.guard = none) (sl x : Operand) (t : TypeId) {z : Value} {b : Nat}
    (hop : o.op = .call { callee := .builtin .append, args := #[sl, x], argTypes := #[t, t] }) (ht : Tryz.prog.underlying t = some (.slice e)) (hi : (Tryz.prog.info? e).map (fun i => (i.zero, i.size, i.bytes)) = some (some z, 1, b)) (hz : z.cells.size = 1) (hs : a.eval sl = v)
    {A : Option Addr} {m c2 : Nat} {news : List Value} (hx : a.eval x = .slice A m c2) (hl : news.length = m) (hA : A = none → m = 0) (hnew : ∀ ad, A = some ad → ∀ j u, news[j]? = some u → w.cell? (ad.add j) = some u) (hu : ∀ u ∈ news, u.oneCell' = true) (hb : b ≤ 16) (hn : n + m ≤ 4398046511104)
    (h : ∀ v' w', Sep W w' (rowR e 1 v' (n + m) (xs ++ news) :: rs) → wpList Tryz.prog ops Q rest (a.put o.dst v') w') : wpList Tryz.prog ops Q (o :: rest) a w := by
  obtain ⟨i0, hi0, hz0, hz1, hz2⟩ := info_parts hi
  rcases A with _ | ad
  · have h0 := hA rfl
    subst h0
    obtain rfl : news = [] := List.eq_nil_of_length_eq_zero hl
    refine wpList_plain hgd fun K hK => ?_
    have hown := M.row
    have hrun : (Builtin.append_ #[t, t] o.type #[v, .slice none 0 c2]).run Tryz.prog w = .ok v w := by
      rcases hown.2 with ⟨rfl, hn0⟩ | ⟨g, cap, cur, rfl, _, _, hnc, _⟩
      · simp [Builtin.append_, run_underlying ht, sizeOf, typeInfo, hi0, Builtin.lenOf, Builtin.firstCells]
      · simp [Builtin.append_, run_underlying ht, sizeOf, typeInfo, hi0, Builtin.lenOf, Builtin.firstCells, hnc, storeCells]
    unfold Oper.wp
    simp [execOp, hop, resolve, invoke, builtin, hs, hx, hrun, Result.andThen]
    refine hK _ _ (h v w ?_)
    rw [List.append_nil]
    exact M
  · refine wpList_append_own_at w hgd sl x t hop 0 e i0 z 1 b ht hi0 hz0 hz1 hz2 hz (by decide) v n xs hs M.row ad m c2 news hx (by omega) (hnew ad rfl) hu (by unfold maxLen; omega) ?_ (Nat.zero_le _) ?_
    · have : (n + m) * b ≤ 4398046511104 * 16 := Nat.mul_le_mul hn hb
      omega
    intro v' w' hown hgrow _ hat
    exact h v' w' (M.appended hown hgrow hat)
/-- A list of one's own, as what is appended elsewhere. -/
theorem row_src {w : World} {e n : Nat} {v : Value} {xs : List Value} (h : w.ownsRow 0 e 1 v n xs) : ∃ A c, v = .slice A n c ∧ n ≤ c ∧ (A = none → n = 0) ∧ ∀ ad, A = some ad → ∀ j u, xs[j]? = some u → w.cell? (ad.add j) = some u := by
  obtain ⟨A, c, e1, hc⟩ := row_slice h
  subst e1
  refine ⟨A, c, rfl, hc, fun hA => ?_, fun ad hA j u hu => ?_⟩
  · rcases Nat.eq_zero_or_pos n with h0 | h0
    · exact h0
    · obtain ⟨g, cap, e2, _⟩ := row_some h h0
      rw [hA] at e2
      simp at e2
  · have hl := h.1
    have hn : 0 < n := by
      have := (List.getElem?_eq_some_iff.1 hu).1
      omega
    obtain ⟨g, cap, e2, _, hcell, _⟩ := row_some h hn
    rw [hA] at e2
    simp only [Value.slice.injEq, Option.some.injEq, true_and] at e2
    rw [e2.1, add0]
    exact hcell j u hu
theorem row_src' {w : World} {e n c : Nat} {A : Option Addr} {xs : List Value} (h : w.ownsRow 0 e 1 (.slice A n c) n xs) : (A = none → n = 0) ∧ ∀ ad, A = some ad → ∀ j u, xs[j]? = some u → w.cell? (ad.add j) = some u := by
  obtain ⟨A2, c2, e1, _, h1, h2⟩ := row_src h
  simp only [Value.slice.injEq, true_and] at e1
  obtain ⟨rfl, rfl⟩ := e1
  exact ⟨h1, h2⟩
theorem wp_one24 {ops : Array Oper} {rest : List Oper} {o : Oper} {a : Act} {Q : Exit → Act → World → Prop} {W w : World} {rs : List Res} {v : Value} {n : Nat} {xs : List Value} {e : TypeId} (M : Sep W w (rowR e 1 v n xs :: rs)) (hgd : o.guard = none) (sl x : Operand) (t : TypeId) {z : Value} {b : Nat}
    (hop : o.op = .call { callee := .builtin .append, args := #[sl, x], argTypes := #[t, t] }) (ht : Tryz.prog.underlying t = some (.slice e)) (hi : (Tryz.prog.info? e).map (fun i => (i.zero, i.size, i.bytes)) = some (some z, 1, b)) (hz : z.cells.size = 1) (hs : a.eval sl = v)
    {ad : Addr} {c2 : Nat} {u : Value} (hx : a.eval x = .slice (some ad) 1 c2) (hnew : w.cell? ad = some u) (hu : u.oneCell' = true) (hb : b ≤ 24) (hn : n ≤ 4398046511104)
    (h : ∀ A c w', n + 1 ≤ c → Sep W w' (rowR e 1 (.slice A (n + 1) c) (n + 1) (xs ++ [u]) :: rs) → wpList Tryz.prog ops Q rest (a.put o.dst (.slice A (n + 1) c)) w') : wpList Tryz.prog ops Q (o :: rest) a w := by
  obtain ⟨i0, hi0, hz0, hz1, hz2⟩ := info_parts hi
  refine wpList_append_own_at w hgd sl x t hop 0 e i0 z 1 b ht hi0 hz0 hz1 hz2 hz (by decide) v n xs hs M.row ad 1 c2 [u] hx rfl ?_ (by intro y hy; simp at hy; subst hy; exact hu) (by unfold maxLen; omega) ?_ (Nat.zero_le _) ?_
  · intro j y hj
    cases j with
    | zero =>
      have : u = y := by simpa using hj
      subst this
      rw [show ad.add 0 = ad from by simp [Addr.add]]
      exact hnew
    | succ j => simp at hj
  · have : (n + 1) * b ≤ (n + 1) * 24 := Nat.mul_le_mul_left _ hb
    omega
  intro v' w' hown hgrow _ hat
  have M2 := M.appended hown hgrow hat
  obtain ⟨A, c, e2, hc⟩ := row_slice hown
  subst e2
  exact h A c w' hc M2
/-- 'append(l[:k:k], u)': a new list, the old one is let go. -/
theorem wp_cutcap {ops : Array Oper} {rest : List Oper} {o : Oper} {a : Act} {Q : Exit → Act → World → Prop} {W w : World} {rs : List Res} {A : Option Addr} {n c k : Nat} {xs : List Value} {e : TypeId} (M : Sep W w (rowR e 1 (.slice A n c) n xs :: rs)) (hgd : o.guard = none) (sl x : Operand) (t : TypeId) {z : Value} {b : Nat}
    (hop : o.op = .call { callee := .builtin .append, args := #[sl, x], argTypes := #[t, t] }) (ht : Tryz.prog.underlying t = some (.slice e)) (hi : (Tryz.prog.info? e).map (fun i => (i.zero, i.size, i.bytes)) = some (some z, 1, b)) (hz : z.cells.size = 1) (hk : k ≤ n) (hs : a.eval sl = .slice A k k)
    {ad : Addr} {c2 : Nat} {u : Value} (hx : a.eval x = .slice (some ad) 1 c2) (hnew : w.cell? ad = some u) (hu : u.oneCell' = true) (hb : b ≤ 24) (hn : n ≤ 4398046511104)
    (h : ∀ A c w', k + 1 ≤ c → Sep W w' (rowR e 1 (.slice A (k + 1) c) (k + 1) (xs.take k ++ [u]) :: rs) → wpList Tryz.prog ops Q rest (a.put o.dst (.slice A (k + 1) c)) w') : wpList Tryz.prog ops Q (o :: rest) a w := by
  obtain ⟨i0, hi0, hz0, hz1, hz2⟩ := info_parts hi
  obtain ⟨h0, h1⟩ := row_src' M.row
  have hxl := M.row.1
  have hbb : (k + 1) * b ≤ 140737488355328 := by
    have : (k + 1) * b ≤ (k + 1) * 24 := Nat.mul_le_mul_left _ hb
    omega
  have hnews : ∀ (j : Nat) (y : Value), [u][j]? = some y → w.cell? (ad.add j) = some y := by
    intro j y hj
    cases j with
    | zero =>
      have : u = y := by simpa using hj
      subst this
      rw [show ad.add 0 = ad from by simp [Addr.add]]
      exact hnew
    | succ j => simp at hj
  rcases A with _ | ad0
  · have hn0 := h0 rfl
    subst hn0
    obtain rfl : k = 0 := by omega
    refine wp_one24 (row_nil M.tail e 1) hgd sl x t hop ht hi hz hs hx hnew hu hb (by omega) ?_
    intro A' c' w' hc' hm
    refine h A' c' w' hc' ?_
    rw [List.take_zero]
    exact hm
  · refine wpList_plain hgd fun K hK => ?_
    obtain ⟨v', w', hrun, r1, r2⟩ := run_append_arg_grows (P := Tryz.prog) w t o.type e i0 z 1 b ht hi0 hz0 hz1 hz2 hz (by decide) ad0 k k (xs.take k) (by rw [List.length_take]; omega) (fun j y hj => by
      refine h1 ad0 rfl j y ?_
      rw [List.getElem?_take] at hj
      split at hj
      · exact hj
      · cases hj) ad 1 c2 [u] rfl hnews (by omega) (by unfold maxLen; omega) hbb
    obtain ⟨A', c', e2, hc'⟩ := row_slice r1
    subst e2
    unfold Oper.wp execOp
    simp only [hop, resolve, invoke, builtin, Sem.run_bind, Sem.run_pure, Result.andThen_ok, List.map_toArray, List.map_cons, List.map_nil, hs, hx, hrun]
    refine hK _ _ (h A' c' w' hc' ?_)
    exact M.tail.fresh (f := fun k => w.heap.size ≤ k) (Turns.of_grown r2 (fun _ h => by cases h)) ⟨owns_zero r1, fun k hk => (r1.lt k hk).1⟩ (fun _ hk => hk)
/-- A list that is read, cell by cell. -/
theorem C1_at {α : Type} {w : World} {K : Kd α} {n : Nat} {A : Option Addr} {xs : List α} {enc : α → Value} (hsz : K.sz = 1) (hK : ∀ x cs, K.K w x cs → cs = [enc x]) (h : Kd.C K w A n xs) {j : Nat} {p : α} (hj : xs[j]? = some p) : ∃ ad, A = some ad ∧ w.cell? (ad.add j) = some (enc p) := by
  have hl := h.1
  have hn : 0 < n := by
    have := (List.getElem?_eq_some_iff.1 hj).1
    omega
  obtain ⟨ad, e, hc⟩ := h.2.2 hn
  obtain ⟨cs, h1, h2, h3⟩ := hc j p hj
  have e2 := hK p cs h2
  subst e2
  have := h3 0 (enc p) rfl
  rw [hsz, Nat.mul_one, Nat.add_zero] at this
  exact ⟨ad, e, this⟩
theorem Cs_at {w : World} {n : Nat} {A : Option Addr} {xs : List ByteArray} (h : Kd.C Kd.string w A n xs) {j : Nat} {p : ByteArray} (hj : xs[j]? = some p) : ∃ ad, A = some ad ∧ w.cell? (ad.add j) = some (.string p) := C1_at (enc := Value.string) rfl (fun x cs h => h) h hj
theorem Ci_at {w : World} {n : Nat} {A : Option Addr} {xs : List Int} (h : Kd.C (Kd.int .i64) w A n xs) {j : Nat} {p : Int} (hj : xs[j]? = some p) : ∃ ad, A = some ad ∧ w.cell? (ad.add j) = some (num p) := C1_at (enc := num) rfl (fun x cs h => h) h hj
theorem Cs_all {w : World} {n : Nat} {A : Option Addr} {xs : List ByteArray} (h : Kd.C Kd.string w A n xs) : (A = none → n = 0) ∧ ∀ ad, A = some ad → ∀ j u, (xs.map Value.string)[j]? = some u → w.cell? (ad.add j) = some u := by
  refine ⟨fun hA => ?_, fun ad hA j u hu => ?_⟩
  · rcases Nat.eq_zero_or_pos n with h0 | h0
    · exact h0
    · obtain ⟨ad, e, _⟩ := h.2.2 h0
      rw [hA] at e
      cases e
  · rw [List.getElem?_map] at hu
    obtain ⟨s, hs, rfl⟩ := Option.map_eq_some_iff.1 hu
    obtain ⟨ad2, e, hc⟩ := Cs_at h hs
    rw [hA] at e
    cases e
    exact hc
/-- Lists of one's own, in every world that has them as they are. -/
theorem row_hold {W w : World} {rs : List Res} {e size n : Nat} {v : Value} {xs : List Value} (h : Sep W w (rowR e size v n xs :: rs)) : ∀ w' : World, (∀ k, k < w.heap.size → w'.heap[k]? = w.heap[k]?) → w'.ownsRow 0 e size v n xs := by
  intro w' hw
  exact own_move h.row fun k hk => hw k (h.row_lt hk).2
def BothC (A : Option Addr) (xs : List Value) (g : Nat) (ys : List Value) (w : World) : Prop :=
  (∀ ad, A = some ad → ∀ j u, xs[j]? = some u → w.cell? (ad.add j) = some u) ∧ ∀ j u, ys[j]? = some u → w.cell? ⟨g, j, none⟩ = some u
theorem row_cellsAt {w : World} {e g k c : Nat} {ys : List Value} {f : Nat → Prop} (h : RowAt w e 1 (.slice (some ⟨g, 0, none⟩) k c) k ys f) : ∀ j u, ys[j]? = some u → w.cell? ⟨g, j, none⟩ = some u := by
  intro j u hu
  have hl := h.1.1
  have hk : 0 < k := by
    have := (List.getElem?_eq_some_iff.1 hu).1
    omega
  obtain ⟨g2, cap, e2, _, hcell, _⟩ := row_some h.1 hk
  simp only [Value.slice.injEq, Option.some.injEq, Addr.mk.injEq, and_true, true_and] at e2
  rw [e2.1]
  exact hcell j u hu
theorem one_told {W w : World} {rs : List Res} {e g k c : Nat} {A : Option Addr} {xs ys : List Value} (h : Sep W w (rowR e 1 (.slice (some ⟨g, 0, none⟩) k c) k ys :: rs)) (hx : ∀ ad : Addr, A = some ad → ad = ⟨g, 0, none⟩ ∧ ∀ (j : Nat) (u : Value), xs[j]? = some u → ys[j]? = some u) : Sep W w (readR W (BothC A xs g ys) :: rs) := by
  refine h.told fun f hf w' _ hw => ?_
  have hc := row_cellsAt ((RowAt.bound hf).move (w' := w') fun k hk => hw k hk.1 hk.2)
  refine ⟨fun ad hA j u hu => ?_, hc⟩
  obtain ⟨rfl, h2⟩ := hx ad hA
  rw [add0]
  exact hc j u (h2 j u hu)
theorem two_told {W w : World} {rs : List Res} {e g g0 k c n cap : Nat} {xs ys : List Value} (h : Sep W w (rowR e 1 (.slice (some ⟨g, 0, none⟩) k c) k ys :: rowR e 1 (.slice (some ⟨g0, 0, none⟩) n cap) n xs :: rs)) : Sep W w (readR W (BothC (some ⟨g0, 0, none⟩) xs g ys) :: rs) := by
  refine h.join fun f f2 hf hf2 w' _ hw => ?_
  have hc := row_cellsAt ((RowAt.bound hf).move (w' := w') fun k hk => hw k (.inl hk.1) hk.2)
  have hc2 := row_cellsAt ((RowAt.bound hf2).move (w' := w') fun k hk => hw k (.inr hk.1) hk.2)
  refine ⟨fun ad hA j u hu => ?_, hc⟩
  cases hA
  rw [add0]
  exact hc2 j u hu
theorem wp_onto {ops : Array Oper} {rest : List Oper} {o : Oper} {a : Act} {Q : Exit → Act → World → Prop} {W w : World} {rs : List Res} {A : Option Addr} {n cap : Nat} {xs : List Value} {e : TypeId} (M : Sep W w (rowR e 1 (.slice A n cap) n xs :: rs)) (hgd : o.guard = none) (sl x : Operand) (t : TypeId) {z : Value} {b : Nat}
    (hop : o.op = .call { callee := .builtin .append, args := #[sl, x], argTypes := #[t, t] }) (ht : Tryz.prog.underlying t = some (.slice e)) (hi : (Tryz.prog.info? e).map (fun i => (i.zero, i.size, i.bytes)) = some (some z, 1, b)) (hz : z.cells.size = 1) (hs : a.eval sl = .slice A n cap)
    {nb m c2 : Nat} {news : List Value} (hx : a.eval x = .slice (some ⟨nb, 0, none⟩) m c2) (hl : news.length = m) (hm : 0 < m) (hnew : ∀ j u, news[j]? = some u → w.cell? ((⟨nb, 0, none⟩ : Addr).add j) = some u) (hu : ∀ u ∈ news, u.oneCell' = true) (hb : b ≤ 16) (hn : n + m ≤ 4398046511104)
    (h : ∀ g c w', n + m ≤ c → Sep W w' (readR W (BothC A xs g (xs ++ news)) :: rs) → wpList Tryz.prog ops Q rest (a.put o.dst (.slice (some ⟨g, 0, none⟩) (n + m) c)) w') : wpList Tryz.prog ops Q (o :: rest) a w := by
  obtain ⟨i0, hi0, hz0, hz1, hz2⟩ := info_parts hi
  have hbb : (n + m) * b ≤ 140737488355328 := by
    have : (n + m) * b ≤ 4398046511104 * 16 := Nat.mul_le_mul hn hb
    omega
  have hmx : n + m ≤ maxLen := by unfold maxLen; omega
  have hown := M.row
  refine wpList_plain hgd fun K hK => ?_
  obtain ⟨v', w', hr, h2, h3, h4, h5⟩ := run_append_own_at (P := Tryz.prog) w 0 t o.type e i0 z 1 b ht hi0 hz0 hz1 hz2 hz (by decide) (.slice A n cap) n xs hown ⟨nb, 0, none⟩ m c2 news (by omega) hnew hu hmx hbb (Nat.zero_le _)
  obtain ⟨g, c, rfl, hc, hcell, _⟩ := row_some h2 (by omega)
  have key : Sep W w' (readR W (BothC A xs g (xs ++ news)) :: rs) := by
    have hA : A = none ∨ ∃ g0, A = some ⟨g0, 0, none⟩ := by
      rcases hown.2 with ⟨e1, _⟩ | ⟨g0, cap0, cur, e1, _⟩
      · exact .inl (by simp only [Value.slice.injEq] at e1; exact e1.1)
      · exact .inr ⟨g0, by simp only [Value.slice.injEq] at e1; exact e1.1⟩
    have happ := M.appended h2 h3 h5
    have hpre : ∀ j u, xs[j]? = some u → (xs ++ news)[j]? = some u := fun j u hu => by
      rw [List.getElem?_append_left (List.getElem?_eq_some_iff.1 hu).1]
      exact hu
    rcases hA with rfl | ⟨g0, rfl⟩
    · exact one_told happ fun ad hA => by cases hA
    · rcases hown.2 with ⟨e1, _⟩ | ⟨g1, cap1, cur, e1, _, hg, hnc, hcm, hsz, htk⟩
      · cases e1
      · simp only [Value.slice.injEq, Option.some.injEq, Addr.mk.injEq, and_true, true_and] at e1
        obtain ⟨rfl, rfl⟩ := e1
        by_cases hroom : n + m ≤ cap
        · have hr2 := run_append_room_cells (P := Tryz.prog) (w := w) t o.type e i0 ht hi0 g0 0 n cap ⟨nb, 0, none⟩ m c2 news (by rw [hz1, Nat.mul_one]; exact hl) hnew hu hroom (fun j hj => by
            rw [(cell_at hg _).1, hz1]
            simp
            omega) (fun j hj => (cell_at hg _).2)
          rw [hr] at hr2
          have hg2 : g = g0 := by
            injection hr2 with e1 e2
            simp only [Value.slice.injEq, Option.some.injEq, Addr.mk.injEq, and_true, true_and] at e1
            exact e1.1
          subst hg2
          exact one_told happ fun ad hA => ⟨(Option.some.inj hA).symm, hpre⟩
        · obtain ⟨v2, w2, hr2, o2, g2⟩ := run_append_arg_grows (P := Tryz.prog) (w := w) t o.type e i0 z 1 b ht hi0 hz0 hz1 hz2 hz (by decide) ⟨g0, 0, none⟩ n cap xs (by have := hown.1; exact this) (fun j u hu => by rw [add0]; exact row_cellsAt (f := fun _ => True) ⟨hown, fun _ _ => trivial⟩ j u hu) ⟨nb, 0, none⟩ m c2 news (by omega) hnew (by omega) hmx hbb
          rw [hr] at hr2
          injection hr2 with e1 e2
          subst e1
          subst e2
          have hge := (o2.lt g rfl).1
          exact two_told (M.fresh (f := fun k => w.heap.size ≤ k) (Turns.of_grown g2 (fun _ h => by cases h)) (r := rowR e 1 (.slice (some ⟨g, 0, none⟩) (n + m) c) (n + m) (xs ++ news)) ⟨owns_zero o2, fun k hk => by
            have : g = k := by simpa [Value.ownBlock] using hk
            omega⟩ (fun _ hk => hk))
  unfold Oper.wp execOp
  simp only [hop, resolve, invoke, builtin, Sem.run_bind, Sem.run_pure, Result.andThen_ok, List.map_toArray, List.map_cons, List.map_nil, hs, hx, hr]
  exact hK _ _ (h g c w' hc key)
/-- Two things as one. -/
def bothR (a b : Res) : Res where
  at_ w f := ∃ f1 f2, a.at_ w f1 ∧ b.at_ w f2 ∧ (∀ k, f1 k → f k) ∧ (∀ k, f2 k → f k) ∧ (∀ k, f1 k → ¬ f2 k)
  move := fun ⟨f1, f2, h1, h2, h3, h4, h5⟩ hm => ⟨f1, f2, a.move h1 (fun k hk => hm k (h3 k hk)), b.move h2 (fun k hk => hm k (h4 k hk)), h3, h4, h5⟩
  mono := fun ⟨f1, f2, h1, h2, h3, h4, h5⟩ hm => ⟨f1, f2, h1, h2, fun k hk => hm k (h3 k hk), fun k hk => hm k (h4 k hk), h5⟩
  bound := fun {w f} ⟨f1, f2, h1, h2, h3, h4, h5⟩ => ⟨fun k => f1 k ∧ k < w.heap.size, fun k => f2 k ∧ k < w.heap.size, a.bound h1, b.bound h2, fun k hk => ⟨h3 k hk.1, hk.2⟩, fun k hk => ⟨h4 k hk.1, hk.2⟩, fun k hk hk2 => h5 k hk.1 hk2.1⟩
theorem split {W w : World} {a b : Res} {rs : List Res} (h : Sep W w (bothR a b :: rs)) : Sep W w (a :: b :: rs) := by
  obtain ⟨hB, fp, ⟨f, g, ⟨f1, f2, h1, h2, h3, h4, h5⟩, k2, k3, k4, k5⟩, h6⟩ := h
  refine ⟨hB, fp, ⟨f1, fun k => f2 k ∨ g k, h1, ⟨f2, g, h2, k2, fun k hk hg => k3 k (h4 k hk) hg, fun k hk => ⟨.inl hk, (k4 k (h4 k hk)).2⟩, fun k hk => .inr hk⟩, fun k hk hk2 => ?_, fun k hk => k4 k (h3 k hk), fun k hk => ?_⟩, h6⟩
  · rcases hk2 with hk2 | hk2
    · exact h5 k hk hk2
    · exact k3 k (h3 k hk) hk2
  · rcases hk with hk | hk
    · exact (k4 k (h4 k hk)).1
    · exact k5 k hk
theorem read_both {W w : World} {C D : World → Prop} {rs : List Res} (h : Sep W w (readR W C :: readR W D :: rs)) : Sep W w (readR W (fun w' => C w' ∧ D w') :: rs) :=
  h.join fun f g hf hg w' h1 h2 => ⟨hf w' h1 fun k hk hl => h2 k (.inl hk) hl, hg w' h1 fun k hk hl => h2 k (.inr hk) hl⟩
theorem sepF_append {N N2 M : Nat} {w : World} {rs : List Res} {fp : Nat → Prop} (h1 : SepF N w rs fp) (hf1 : ∀ k, fp k → k < M) (hN : N ≤ M) : ∀ (rs2 : List Res) (fp2 : Nat → Prop), SepF N2 w rs2 fp2 → (∀ k, fp2 k → M ≤ k) → SepF N w (rs2 ++ rs) (fun k => fp2 k ∨ fp k)
  | [], fp2, _, _ => SepF.mono h1 fun k hk => .inr hk
  | r :: rs2, fp2, h, hf => by
    obtain ⟨f, g, a1, a2, a3, a4, a5⟩ := h
    refine ⟨f, fun k => g k ∨ fp k, a1, sepF_append h1 hf1 hN rs2 g a2 (fun k hk => hf k (a5 k hk)), fun k hk hk2 => ?_, fun k hk => ⟨.inl (a4 k hk).1, ?_, (a4 k hk).2.2⟩, fun k hk => ?_⟩
    · rcases hk2 with hk2 | hk2
      · exact a3 k hk hk2
      · have := hf k (a4 k hk).1
        have := hf1 k hk2
        omega
    · have := hf k (a4 k hk).1
      omega
    · rcases hk with hk | hk
      · exact .inl (a5 k hk)
      · exact .inr hk
/-- What is made behind a world, beside what was there. -/
theorem sep_over {W w w' : World} {rs rs2 : List Res} (h1 : Sep W w rs) (h2 : Sep w w' rs2) : Sep W w' (rs2 ++ rs) := by
  obtain ⟨b1, fp, s1, f1⟩ := h1
  obtain ⟨b2, fp2, s2, f2⟩ := h2
  have hs := b1.size
  have hs2 := b2.size
  refine ⟨b1.trans (b2.mono hs), fun k => fp2 k ∨ fp k, sepF_append (M := w.heap.size) (s1.move (fun k hk => b2.block k (f1 k hk).2) hs2) (fun k hk => (f1 k hk).2) hs rs2 fp2 s2 (fun k hk => (f2 k hk).1), fun k hk => ?_⟩
  rcases hk with hk | hk
  · have := f2 k hk
    omega
  · have := f1 k hk
    omega
theorem read_hold {W w : World} {C : World → Prop} {rs : List Res} (h : Sep W w (readR W C :: rs)) : ∀ w', (∀ k, k < w.heap.size → w'.heap[k]? = w.heap[k]?) → C w' := by
  obtain ⟨f, hf, hb⟩ := h.head
  intro w' hw
  exact hf w' (fun k hk => (hw k (Nat.lt_of_lt_of_le hk h.1.size)).trans (h.1.block k hk)) (fun k hk hl => hw k hl)
end Go.Proofs.YtcfocbfocemapaaGreat.Mem
