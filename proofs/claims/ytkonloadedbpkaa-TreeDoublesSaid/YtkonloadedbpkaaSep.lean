/- Things in memory that lie apart from each other, each of which may be turned while the others stay. -/
import Derived.Test.YtkonloadedbpkaaWN
import Derived.Test.YtkonloadedbpkaaProg
import Derived.WalkKit
import Derived.Maps.Own
import Derived.Maps.OwnSet
import Derived.Maps.OwnOps
import Derived.Maps.AppendAt
import Derived.Maps.Views
import Derived.Laws.AppendOwnNone
import Derived.Lib.Hide
import Derived.Deep.QuietTactic
import Derived.BigQuiet
import Derived.WalkLawsBesides
import Derived.WalkSpells
import Derived.OwnWalk
import Derived.Outline
namespace Go.Proofs.Ytkonloadedbpkaa.Sep
open Go.RowKit Go.Maps
open Go.Proofs.YtkonloadedbpkaaW.PrintWords (Aside0 Drawn0 own_move)
set_option linter.unusedVariables false

/-! ### what turns: the blocks of one footprint, and new ones -/
structure Turns (fp : Nat → Prop) (w w' : World) : Prop where
  os : w'.os = w.os
  tape : w'.tape = w.tape
  output : w'.output = w.output
  size : w.heap.size ≤ w'.heap.size
  block : ∀ k, k < w.heap.size → ¬ fp k → w'.heap[k]? = w.heap[k]?
theorem Turns.refl (fp : Nat → Prop) (w : World) : Turns fp w w := ⟨rfl, rfl, rfl, Nat.le_refl _, fun _ _ _ => rfl⟩
theorem Turns.trans {fp fp' : Nat → Prop} {a b c : World} (h : Turns fp a b) (k : Turns fp' b c) (hf : ∀ k, fp' k → fp k ∨ a.heap.size ≤ k) : Turns fp a c :=
  ⟨k.os.trans h.os, k.tape.trans h.tape, k.output.trans h.output, Nat.le_trans h.size k.size, fun i hi hn =>
    (k.block i (Nat.lt_of_lt_of_le hi h.size) (fun e => by rcases hf i e with h | h; exact hn h; omega)).trans (h.block i hi hn)⟩
theorem Turns.mono {fp fp' : Nat → Prop} {a b : World} (h : Turns fp a b) (hf : ∀ k, fp k → fp' k) : Turns fp' a b :=
  ⟨h.os, h.tape, h.output, h.size, fun i hi hn => h.block i hi (fun e => hn (hf i e))⟩
theorem Turns.of_grown {fp : Nat → Prop} {a b : World} {row : Option Nat} (h : a.grownBy b row) (hf : ∀ k, row = some k → fp k) : Turns fp a b :=
  ⟨h.os, h.tape, h.output, h.size, fun i hi hn => h.block i hi (fun e => hn (hf i e.symm))⟩
theorem Turns.alloc (fp : Nat → Prop) (w : World) (o : Obj) : Turns fp w (w.alloc o) := Turns.of_grown (World.grownBy_alloc w o none) (fun _ h => by cases h)
theorem Turns.setCell {fp : Nat → Prop} (w : World) (a : Addr) (u : Value) (h : fp a.block) : Turns fp w (w.setCell a u) :=
  ⟨rfl, rfl, rfl, by simp [World.setCell], fun k _ hn => Below.heap_setCell w a u k (fun e => hn (e ▸ h))⟩
theorem Turns.drewN {fp : Nat → Prop} (w : World) (n : Nat) : Turns fp w (w.drewN n) := ⟨rfl, rfl, rfl, Nat.le_refl _, fun _ _ _ => rfl⟩
theorem Turns.below {fp : Nat → Prop} {a b : World} (h : Turns fp a b) {B : Nat} (hB : B ≤ a.heap.size) (hf : ∀ k, fp k → B ≤ k) : Below B a b :=
  ⟨h.os, h.tape, h.output, h.size, fun k hk => h.block k (by omega) (fun e => by have := hf k e; omega)⟩

theorem set_block {w : World} {p : Nat} {c : Array Value} {t : TypeId} {f : Nat × Nat} (h : w.heap[p]? = some (.cells c t f)) (i : Nat) (u : Value) : (w.setCell ⟨p, i, none⟩ u).heap[p]? = some (.cells (c.setIfInBounds i u) t f) := by
  simp [World.setCell, Array.getElem?_modify, h]
theorem row_slice {w : World} {base e size n : Nat} {v : Value} {xs : List Value} (h : w.ownsRow base e size v n xs) : ∃ A cap, v = .slice A n cap ∧ n ≤ cap := by
  rcases h.2 with ⟨rfl, rfl⟩ | ⟨g, cap, cur, rfl, _, _, hn, _⟩
  · exact ⟨_, _, rfl, Nat.le_refl _⟩
  · exact ⟨_, _, rfl, hn⟩
theorem row_some {w : World} {base e size n : Nat} {v : Value} {xs : List Value} (h : w.ownsRow base e size v n xs) (hn : 0 < n) :
    ∃ g cap, v = .slice (some ⟨g, 0, none⟩) n cap ∧ n ≤ cap ∧ (∀ j u, xs[j]? = some u → w.cell? ⟨g, j, none⟩ = some u) ∧ (∀ j, w.frozen? ⟨g, j, none⟩ = false) ∧ ∃ cur, w.heap[g]? = some (.cells cur e (0, 0)) := by
  have hc := fun (k : Nat) (hk : v.ownBlock = some k) => h.cells hk
  rcases h.2 with ⟨rfl, rfl⟩ | ⟨g, cap, cur, rfl, _, hg, hnc, _⟩
  · omega
  · refine ⟨g, cap, rfl, hnc, fun j u hu => ?_, fun j => ?_, cur, hg⟩
    · have := hc g rfl j u hu
      rw [show (⟨g, 0, none⟩ : Addr).add j = ⟨g, j, none⟩ from by unfold Addr.add; split <;> simp_all] at this
      exact this
    · simp [World.frozen?, hg]
theorem cell_at {w : World} {p : Nat} {cs : Array Value} {t : TypeId} (h : w.heap[p]? = some (.cells cs t (0, 0))) (i : Nat) : w.cell? ⟨p, i, none⟩ = cs[i]? ∧ w.frozen? ⟨p, i, none⟩ = false := by
  constructor
  · simp [World.cell?, h]
  · simp [World.frozen?, h]

theorem cells_two_new (w : World) (x y : Value) (t : TypeId) : ∀ j u, [x, y][j]? = some u → (w.alloc (.cells #[x, y] t)).cell? ((⟨w.heap.size, 0, none⟩ : Addr).add j) = some u := by
  intro j u hu
  match j, hu with
  | 0, hu => simp at hu; subst hu; simp [Addr.add]
  | 1, hu => simp at hu; subst hu; simp [Addr.add]

/-- A footprint, and all that is made from now on. -/
def More (fp : Nat → Prop) (n : Nat) : Nat → Prop := fun k => fp k ∨ n ≤ k
/-- A thing in memory: what it says of a world, of the blocks that it takes (and of no others). -/
structure Res where
  at_ : World → (Nat → Prop) → Prop
  move : ∀ {w w' : World} {f : Nat → Prop}, at_ w f → (∀ k, f k → w'.heap[k]? = w.heap[k]?) → at_ w' f
  mono : ∀ {w : World} {f g : Nat → Prop}, at_ w f → (∀ k, f k → g k) → at_ w g
  bound : ∀ {w : World} {f : Nat → Prop}, at_ w f → at_ w (fun k => f k ∧ k < w.heap.size)
def SepF (N : Nat) (w : World) : List Res → (Nat → Prop) → Prop
  | [], _ => True
  | r :: rs, fp => ∃ f g, r.at_ w f ∧ SepF N w rs g ∧ (∀ k, f k → ¬ g k) ∧ (∀ k, f k → fp k ∧ N ≤ k ∧ k < w.heap.size) ∧ (∀ k, g k → fp k)
/-- W: the world in which the law began. -/
def Sep (W w : World) (rs : List Res) : Prop := Below W.heap.size W w ∧ ∃ fp, SepF W.heap.size w rs fp ∧ ∀ k, fp k → W.heap.size ≤ k ∧ k < w.heap.size

section
variable {W w w' : World} {N : Nat} {r r' a b : Res} {rs : List Res}
theorem SepF.move {fp : Nat → Prop} (h : SepF N w rs fp) (hm : ∀ k, fp k → w'.heap[k]? = w.heap[k]?) (hs : w.heap.size ≤ w'.heap.size) : SepF N w' rs fp := by
  induction rs generalizing fp with
  | nil => trivial
  | cons r rs ih =>
    obtain ⟨f, g, h1, h2, h3, h4, h5⟩ := h
    exact ⟨f, g, r.move h1 (fun k hk => hm k (h4 k hk).1), ih h2 (fun k hk => hm k (h5 k hk)), h3, fun k hk => ⟨(h4 k hk).1, (h4 k hk).2.1, Nat.lt_of_lt_of_le (h4 k hk).2.2 hs⟩, h5⟩
theorem SepF.mono {fp fp' : Nat → Prop} (h : SepF N w rs fp) (hm : ∀ k, fp k → fp' k) : SepF N w rs fp' := by
  cases rs with
  | nil => trivial
  | cons r rs =>
    obtain ⟨f, g, h1, h2, h3, h4, h5⟩ := h
    exact ⟨f, g, h1, h2, h3, fun k hk => ⟨hm k (h4 k hk).1, (h4 k hk).2⟩, fun k hk => hm k (h5 k hk)⟩
theorem Sep.start (W : World) : Sep W W [] := ⟨Below.refl _ _, fun _ => False, trivial, fun _ h => h.elim⟩
theorem Sep.past (h : Sep W w rs) (ht : Turns (fun _ => False) w w') : Sep W w' rs := by
  obtain ⟨hB, fp, h1, h2⟩ := h
  exact ⟨hB.trans (ht.below hB.size (fun _ h => h.elim)), fp, h1.move (fun k hk => ht.block k (h2 k hk).2 (fun x => x)) ht.size, fun k hk => ⟨(h2 k hk).1, Nat.lt_of_lt_of_le (h2 k hk).2 ht.size⟩⟩
theorem Sep.drawn (h : Sep W w rs) (hd : Drawn0 w w') : Sep W w' rs := by
  obtain ⟨n, rfl⟩ := hd
  exact h.past (Turns.drewN w n)
theorem Sep.below (h : Sep W w rs) (hb : Below w.heap.size w w') : Sep W w' rs := h.past ⟨hb.os, hb.tape, hb.output, hb.size, fun k hk _ => hb.block k hk⟩
theorem Sep.alloc (h : Sep W w rs) (o : Obj) : Sep W (w.alloc o) rs := h.past (Turns.alloc _ w o)
theorem Sep.tail (h : Sep W w (r :: rs)) : Sep W w rs := by
  obtain ⟨hB, fp, ⟨f, g, h1, h2, h3, h4, h5⟩, h6⟩ := h
  exact ⟨hB, g, h2, fun k hk => h6 k (h5 k hk)⟩
theorem Sep.swap (h : Sep W w (a :: b :: rs)) : Sep W w (b :: a :: rs) := by
  obtain ⟨hB, fp, ⟨f, g, h1, ⟨f2, g2, k1, k2, k3, k4, k5⟩, h3, h4, h5⟩, h6⟩ := h
  refine ⟨hB, fp, ⟨f2, fun k => f k ∨ g2 k, k1, ⟨f, g2, h1, k2, fun k hk hk2 => h3 k hk (k5 k hk2), fun k hk => ⟨.inl hk, (h4 k hk).2⟩, fun k hk => .inr hk⟩, fun k hk => ?_, fun k hk => ⟨h5 k (k4 k hk).1, (k4 k hk).2⟩, fun k hk => ?_⟩, h6⟩
  · rintro (hk2 | hk2)
    · exact h3 k hk2 (k4 k hk).1
    · exact k3 k hk hk2
  · rcases hk with hk | hk
    · exact (h4 k hk).1
    · exact h5 k (k5 k hk)
theorem Sep.swap3 {c : Res} (h : Sep W w (a :: b :: c :: rs)) : Sep W w (c :: a :: b :: rs) := by
  obtain ⟨hB, fp, ⟨f, g, h1, h2, h3, h4, h5⟩, h6⟩ := h
  have t : Sep W w (b :: c :: rs) := ⟨hB, g, h2, fun k hk => h6 k (h5 k hk)⟩
  have s : Sep W w (a :: c :: b :: rs) := by
    obtain ⟨f2, g2, k1, ⟨f3, g3, l1, l2, l3, l4, l5⟩, k3, k4, k5⟩ := h2
    refine ⟨hB, fp, ⟨f, g, h1, ⟨f3, fun k => f2 k ∨ g3 k, l1, ⟨f2, g3, k1, l2, fun k hk hk2 => k3 k hk (l5 k hk2), fun k hk => ⟨.inl hk, (k4 k hk).2⟩, fun k hk => .inr hk⟩, fun k hk => ?_, fun k hk => ⟨k5 k (l4 k hk).1, (l4 k hk).2⟩, fun k hk => ?_⟩, h3, h4, h5⟩, h6⟩
    · rintro (hk2 | hk2)
      · exact k3 k hk2 (l4 k hk).1
      · exact l3 k hk hk2
    · rcases hk with hk | hk
      · exact (k4 k hk).1
      · exact k5 k (l5 k hk)
  exact s.swap
theorem SepF.swap {fp : Nat → Prop} (h : SepF N w (a :: b :: rs) fp) : SepF N w (b :: a :: rs) fp := by
  obtain ⟨f, g, h1, ⟨f2, g2, k1, k2, k3, k4, k5⟩, h3, h4, h5⟩ := h
  refine ⟨f2, fun k => f k ∨ g2 k, k1, ⟨f, g2, h1, k2, fun k hk hk2 => h3 k hk (k5 k hk2), fun k hk => ⟨.inl hk, (h4 k hk).2⟩, fun k hk => .inr hk⟩, fun k hk => ?_, fun k hk => ⟨h5 k (k4 k hk).1, (k4 k hk).2⟩, fun k hk => ?_⟩
  · rintro (hk2 | hk2)
    · exact h3 k hk2 (k4 k hk).1
    · exact k3 k hk hk2
  · rcases hk with hk | hk
    · exact (h4 k hk).1
    · exact h5 k (k5 k hk)
theorem SepF.perm {rs rs' : List Res} (hp : rs.Perm rs') : ∀ {fp : Nat → Prop}, SepF N w rs fp → SepF N w rs' fp := by
  induction hp with
  | nil => exact fun h => h
  | cons r _ ih =>
    rintro fp ⟨f, g, h1, h2, h3⟩
    exact ⟨f, g, h1, ih h2, h3⟩
  | swap a b l => exact fun h => h.swap
  | trans _ _ ih1 ih2 => exact fun h => ih2 (ih1 h)
theorem Sep.perm {rs rs' : List Res} (h : Sep W w rs) (hp : rs.Perm rs') : Sep W w rs' := by
  obtain ⟨hB, fp, h1, h2⟩ := h
  exact ⟨hB, fp, h1.perm hp, h2⟩
theorem pull_perm {α : Type} : ∀ (l : List α) (i : Nat) (hi : i < l.length), l.Perm (l[i] :: l.eraseIdx i)
  | a :: l, 0, _ => List.Perm.refl _
  | a :: l, i + 1, hi => (List.Perm.cons a (pull_perm l i (by simpa using hi))).trans (List.Perm.swap _ _ _)
/-- One of the things taken to the front. -/
theorem Sep.pull {rs : List Res} (h : Sep W w rs) (i : Nat) (hi : i < rs.length) : Sep W w (rs[i] :: rs.eraseIdx i) := h.perm (pull_perm rs i hi)
/-- The first thing turns. -/
theorem Sep.turn (h : Sep W w (r :: rs)) (hd : ∀ f, r.at_ w f → r'.at_ w' (More f w.heap.size) ∧ Turns f w w') : Sep W w' (r' :: rs) := by
  obtain ⟨hB, fp, ⟨f, g, h1, h2, h3, h4, h5⟩, h6⟩ := h
  obtain ⟨h7, ht⟩ := hd f h1
  have hs := ht.size
  have hs1 := hB.size
  refine ⟨hB.trans (ht.below hs1 (fun k hk => (h4 k hk).2.1)), fun k => (fp k ∨ w.heap.size ≤ k) ∧ k < w'.heap.size, ⟨fun k => More f w.heap.size k ∧ k < w'.heap.size, g, r'.bound h7, h2.move (fun k hk => ht.block k (h6 k (h5 k hk)).2 (fun hf => h3 k hf hk)) hs, fun k hk hk2 => ?_, fun k hk => ⟨⟨?_, hk.2⟩, ?_, hk.2⟩, fun k hk => ⟨.inl (h5 k hk), Nat.lt_of_lt_of_le (h6 k (h5 k hk)).2 hs⟩⟩, fun k hk => ⟨?_, hk.2⟩⟩
  · rcases hk.1 with hk | hk
    · exact h3 k hk hk2
    · have := (h6 k (h5 k hk2)).2
      omega
  · rcases hk.1 with hk | hk
    · exact .inl (h4 k hk).1
    · exact .inr hk
  · rcases hk.1 with hk | hk
    · exact (h4 k hk).2.1
    · omega
  · rcases hk.1 with hk | hk
    · exact (h6 k hk).1
    · omega
/-- A new thing. -/
theorem Sep.fresh (h : Sep W w rs) (ht : Turns (fun _ => False) w w') {f : Nat → Prop} (hr : r.at_ w' f) (hf : ∀ k, f k → w.heap.size ≤ k) : Sep W w' (r :: rs) := by
  have h' := h.past ht
  obtain ⟨hB, fp, h1, h2⟩ := h
  have hs := ht.size
  have hs1 := hB.size
  refine ⟨h'.1, fun k => (fp k ∨ w.heap.size ≤ k) ∧ k < w'.heap.size, ⟨fun k => f k ∧ k < w'.heap.size, fp, r.bound hr, h1.move (fun k hk => ht.block k (h2 k hk).2 (fun x => x)) hs, fun k hk hk2 => ?_, fun k hk => ⟨⟨.inr (hf k hk.1), hk.2⟩, ?_, hk.2⟩, fun k hk => ⟨.inl hk, Nat.lt_of_lt_of_le (h2 k hk).2 hs⟩⟩, fun k hk => ⟨?_, hk.2⟩⟩
  · have := hf k hk.1
    have := (h2 k hk2).2
    omega
  · have := hf k hk.1; omega
  · rcases hk.1 with hk | hk
    · exact (h2 k hk).1
    · omega
theorem Sep.head (h : Sep W w (r :: rs)) : ∃ f, r.at_ w f ∧ ∀ k, f k → W.heap.size ≤ k ∧ k < w.heap.size := by
  obtain ⟨hB, fp, ⟨f, g, h1, h2, h3, h4, h5⟩, h6⟩ := h
  exact ⟨f, h1, fun k hk => (h4 k hk).2⟩
/-- Two things taken as one; one thing told otherwise. -/
theorem Sep.join (h : Sep W w (a :: b :: rs)) (hj : ∀ f g, a.at_ w f → b.at_ w g → r.at_ w (fun k => f k ∨ g k)) : Sep W w (r :: rs) := by
  obtain ⟨hB, fp, ⟨f, g, h1, ⟨f2, g2, k1, k2, k3, k4, k5⟩, h3, h4, h5⟩, h6⟩ := h
  refine ⟨hB, fp, ⟨fun k => f k ∨ f2 k, g2, hj f f2 h1 k1, k2, fun k hk hk2 => ?_, fun k hk => ?_, fun k hk => h5 k (k5 k hk)⟩, h6⟩
  · rcases hk with hk | hk
    · exact h3 k hk (k5 k hk2)
    · exact k3 k hk hk2
  · rcases hk with hk | hk
    · exact h4 k hk
    · exact ⟨h5 k (k4 k hk).1, (k4 k hk).2⟩
theorem Sep.told (h : Sep W w (a :: rs)) (hj : ∀ f, a.at_ w f → r.at_ w f) : Sep W w (r :: rs) := by
  obtain ⟨hB, fp, ⟨f, g, h1, h2⟩, h6⟩ := h
  exact ⟨hB, fp, ⟨f, g, hj f h1, h2⟩, h6⟩
theorem Sep.calls {f : FuncId} {args : Array Value} {P : Ending → Prop} (h : Sep W w (r :: rs)) (hd : ∀ F1, r.at_ w F1 → Calls Try.prog f args w fun e w' => P e ∧ r'.at_ w' (More F1 w.heap.size) ∧ Turns F1 w w') :
    Calls Try.prog f args w fun e w' => P e ∧ Sep W w' (r' :: rs) := by
  have h' := h
  obtain ⟨hB, fp, ⟨F1, g, h1, h2, h3, h4, h5⟩, h6⟩ := h'
  refine (hd F1 h1).mono fun e w' ⟨he, hx, ht⟩ => ⟨he, ?_⟩
  have hs := ht.size
  have hs1 := hB.size
  refine ⟨hB.trans (ht.below hs1 (fun k hk => (h4 k hk).2.1)), fun k => (fp k ∨ w.heap.size ≤ k) ∧ k < w'.heap.size, ⟨fun k => More F1 w.heap.size k ∧ k < w'.heap.size, g, r'.bound hx, h2.move (fun k hk => ht.block k (h6 k (h5 k hk)).2 (fun hf => h3 k hf hk)) hs, fun k hk hk2 => ?_, fun k hk => ⟨⟨?_, hk.2⟩, ?_, hk.2⟩, fun k hk => ⟨.inl (h5 k hk), Nat.lt_of_lt_of_le (h6 k (h5 k hk)).2 hs⟩⟩, fun k hk => ⟨?_, hk.2⟩⟩
  · rcases hk.1 with hk | hk
    · exact h3 k hk hk2
    · have := (h6 k (h5 k hk2)).2
      omega
  · rcases hk.1 with hk | hk
    · exact .inl (h4 k hk).1
    · exact .inr hk
  · rcases hk.1 with hk | hk
    · exact (h4 k hk).2.1
    · omega
  · rcases hk.1 with hk | hk
    · exact (h6 k hk).1
    · omega
end

/-- A row: a list of one's own. -/
def RowAt (w : World) (e : TypeId) (size : Nat) (v : Value) (n : Nat) (xs : List Value) (f : Nat → Prop) : Prop := w.ownsRow 0 e size v n xs ∧ ∀ k, v.ownBlock = some k → f k
def rowR (e : TypeId) (size : Nat) (v : Value) (n : Nat) (xs : List Value) : Res :=
  ⟨fun w f => RowAt w e size v n xs f, fun h hm => ⟨own_move h.1 (fun k hk => hm k (h.2 k hk)), h.2⟩, fun h hm => ⟨h.1, fun k hk => hm k (h.2 k hk)⟩, fun h => ⟨h.1, fun k hk => ⟨h.2 k hk, (h.1.lt k hk).2⟩⟩⟩

section
variable {W w w' : World} {rs : List Res} {e size n m : Nat} {v v' : Value} {xs ys : List Value}
theorem Sep.row (h : Sep W w (rowR e size v n xs :: rs)) : w.ownsRow 0 e size v n xs := by
  obtain ⟨f, h1, _⟩ := h.head
  exact h1.1
theorem Sep.row_lt (h : Sep W w (rowR e size v n xs :: rs)) {k : Nat} (hk : v.ownBlock = some k) : W.heap.size ≤ k ∧ k < w.heap.size := by
  obtain ⟨f, h1, h2⟩ := h.head
  exact h2 k (h1.2 k hk)
/-- Behind the law of append. -/
theorem Sep.appended (h : Sep W w (rowR e size v n xs :: rs)) (hown : w'.ownsRow 0 e size v' m ys) (hgrow : w.grownBy w' v.ownBlock) (hat : v'.ownBlock = v.ownBlock ∨ v'.ownBlock = some w.heap.size) : Sep W w' (rowR e size v' m ys :: rs) := by
  refine h.turn fun f ⟨h1, h2⟩ => ⟨⟨hown, fun k hk => ?_⟩, Turns.of_grown hgrow (fun k hk => h2 k hk)⟩
  rcases hat with e | e
  · rw [e] at hk
    exact .inl (h2 k hk)
  · rw [e] at hk
    right
    have := Option.some.inj hk
    omega
/-- Behind a store into it. -/
theorem Sep.stored {b c j : Nat} {u : Value} (h : Sep W w (rowR e 1 (.slice (some ⟨b, 0, none⟩) n c) n xs :: rs)) (hj : j < n) (hu : u.oneCell' = true) :
    Sep W (w.setCell ⟨b, j, none⟩ u) (rowR e 1 (.slice (some ⟨b, 0, none⟩) n c) n (xs.set j u) :: rs) := by
  refine h.turn fun f ⟨h1, h2⟩ => ⟨⟨?_, fun k hk => .inl (h2 k hk)⟩, Turns.setCell w ⟨b, j, none⟩ u (h2 b rfl)⟩
  refine ⟨by have := h1.1; simpa using this, .inr ?_⟩
  rcases h1.2 with ⟨e1, _⟩ | ⟨g', cap', cur, e1, hb, hgg, hn, hc, hsz, htk⟩
  · cases e1
  · simp only [Value.slice.injEq, Option.some.injEq, Addr.mk.injEq, and_true, true_and] at e1
    obtain ⟨rfl, rfl⟩ := e1
    refine ⟨b, c, cur.setIfInBounds j u, rfl, hb, set_block hgg _ _, hn, hc, by simpa using hsz, ?_⟩
    rw [Array.toList_setIfInBounds, List.take_set, htk]
end
theorem owns_zero {w : World} {b e size n : Nat} {v : Value} {xs : List Value} (h : w.ownsRow b e size v n xs) : w.ownsRow 0 e size v n xs := by
  refine ⟨h.1, ?_⟩
  rcases h.2 with h2 | ⟨g, cap, cur, e1, hb, r⟩
  · exact .inl h2
  · exact .inr ⟨g, cap, cur, e1, Nat.zero_le _, r⟩
theorem RowAt.move {w w' : World} {e size n : Nat} {v : Value} {xs : List Value} {f : Nat → Prop} (h : RowAt w e size v n xs f) (hm : ∀ k, f k → w'.heap[k]? = w.heap[k]?) : RowAt w' e size v n xs f := ⟨own_move h.1 (fun k hk => hm k (h.2 k hk)), h.2⟩
theorem RowAt.mono {w : World} {e size n : Nat} {v : Value} {xs : List Value} {f g : Nat → Prop} (h : RowAt w e size v n xs f) (hm : ∀ k, f k → g k) : RowAt w e size v n xs g := ⟨h.1, fun k hk => hm k (h.2 k hk)⟩
theorem RowAt.bound {w : World} {e size n : Nat} {v : Value} {xs : List Value} {f : Nat → Prop} (h : RowAt w e size v n xs f) : RowAt w e size v n xs (fun k => f k ∧ k < w.heap.size) := ⟨h.1, fun k hk => ⟨h.2 k hk, (h.1.lt k hk).2⟩⟩

/-- A block of one's own. -/
def boxR (b : Nat) (t : TypeId) (cs : Array Value) : Res :=
  ⟨fun w f => w.heap[b]? = some (.cells cs t (0, 0)) ∧ f b, fun h hm => ⟨(hm b h.2).trans h.1, h.2⟩, fun h hm => ⟨h.1, hm b h.2⟩, fun {w _} h => ⟨h.1, h.2, (Array.getElem?_eq_some_iff.1 h.1).1⟩⟩
theorem box_fresh {W w : World} {rs : List Res} (h : Sep W w rs) (t : TypeId) (cs : Array Value) : Sep W (w.alloc (.cells cs t)) (boxR w.heap.size t cs :: rs) :=
  h.fresh (f := fun k => w.heap.size ≤ k) (Turns.alloc _ w _) ⟨heap_alloc_new _ _, Nat.le_refl _⟩ (fun _ hk => hk)
theorem box_at {W w : World} {rs : List Res} {b : Nat} {t : TypeId} {cs : Array Value} (h : Sep W w (boxR b t cs :: rs)) : w.heap[b]? = some (.cells cs t (0, 0)) := by
  obtain ⟨f, hf, _⟩ := h.head
  exact hf.1
theorem box_set {W w : World} {rs : List Res} {b : Nat} {t : TypeId} {cs : Array Value} (h : Sep W w (boxR b t cs :: rs)) (j : Nat) (u : Value) : Sep W (w.setCell ⟨b, j, none⟩ u) (boxR b t (cs.setIfInBounds j u) :: rs) :=
  h.turn fun f ⟨h1, h2⟩ => ⟨⟨set_block h1 _ _, .inl h2⟩, Turns.setCell w ⟨b, j, none⟩ u h2⟩

end Go.Proofs.Ytkonloadedbpkaa.Sep
