/- Sep, Maps, Keys, FoldPure, FoldMem, FoldRun. -/
import Derived.Test.YtkonloadedbpkaaWN
import Derived.Test.YtkonloadedbpkaaProg
import Derived.WalkKit
import Derived.Maps.Own
import Derived.Maps.OwnSet
import Derived.Maps.OwnOps
import Derived.Maps.AppendAt
import Derived.Maps.Views
import Derived.Laws.AppendOwnNone
import Derived.Lib.Hide
import Derived.Deep.QuietTactic
import Derived.BigQuiet
import Derived.WalkLawsBesides
import Derived.WalkSpells
import Derived.OwnWalk
import Derived.Outline
import Derived.MapViews
import Derived.DeepKeys4
import Derived.Lib.SmallJoins
import Derived.ChangeSame
import Derived.ShutString
import Derived.Laws.OwnMore
namespace Go.Proofs.Ytkonloadedbpkaa.Sep
open Go.RowKit Go.Maps
open Go.Proofs.YtkonloadedbpkaaW.PrintWords (Aside0 Drawn0 own_move)
set_option linter.unusedVariables false

/-! ### what turns: the blocks of one footprint, and new ones -/
structure Turns (fp : Nat → Prop) (w w' : World) : Prop where
  os : w'.os = w.os
  tape : w'.tape = w.tape
  output : w'.output = w.output
  size : w.heap.size ≤ w'.heap.size
  block : ∀ k, k < w.heap.size → ¬ fp k → w'.heap[k]? = w.heap[k]?
theorem Turns.refl (fp : Nat → Prop) (w : World) : Turns fp w w := ⟨rfl, rfl, rfl, Nat.le_refl _, fun _ _ _ => rfl⟩
theorem Turns.trans {fp fp' : Nat → Prop} {a b c : World} (h : Turns fp a b) (k : Turns fp' b c) (hf : ∀ k, fp' k → fp k ∨ a.heap.size ≤ k) : Turns fp a c :=
  ⟨k.os.trans h.os, k.tape.trans h.tape, k.output.trans h.output, Nat.le_trans h.size k.size, fun i hi hn =>
    (k.block i (Nat.lt_of_lt_of_le hi h.size) (fun e => by rcases hf i e with h | h; exact hn h; omega)).trans (h.block i hi hn)⟩
theorem Turns.mono {fp fp' : Nat → Prop} {a b : World} (h : Turns fp a b) (hf : ∀ k, fp k → fp' k) : Turns fp' a b :=
  ⟨h.os, h.tape, h.output, h.size, fun i hi hn => h.block i hi (fun e => hn (hf i e))⟩
theorem Turns.of_grown {fp : Nat → Prop} {a b : World} {row : Option Nat} (h : a.grownBy b row) (hf : ∀ k, row = some k → fp k) : Turns fp a b :=
  ⟨h.os, h.tape, h.output, h.size, fun i hi hn => h.block i hi (fun e => hn (hf i e.symm))⟩
theorem Turns.alloc (fp : Nat → Prop) (w : World) (o : Obj) : Turns fp w (w.alloc o) := Turns.of_grown (World.grownBy_alloc w o none) (fun _ h => by cases h)
theorem Turns.setCell {fp : Nat → Prop} (w : World) (a : Addr) (u : Value) (h : fp a.block) : Turns fp w (w.setCell a u) :=
  ⟨rfl, rfl, rfl, by simp [World.setCell], fun k _ hn => Below.heap_setCell w a u k (fun e => hn (e ▸ h))⟩
theorem Turns.drewN {fp : Nat → Prop} (w : World) (n : Nat) : Turns fp w (w.drewN n) := ⟨rfl, rfl, rfl, Nat.le_refl _, fun _ _ _ => rfl⟩
theorem Turns.below {fp : Nat → Prop} {a b : World} (h : Turns fp a b) {B : Nat} (hB : B ≤ a.heap.size) (hf : ∀ k, fp k → B ≤ k) : Below B a b :=
  ⟨h.os, h.tape, h.output, h.size, fun k hk => h.block k (by omega) (fun e => by have := hf k e; omega)⟩

theorem set_block {w : World} {p : Nat} {c : Array Value} {t : TypeId} {f : Nat × Nat} (h : w.heap[p]? = some (.cells c t f)) (i : Nat) (u : Value) : (w.setCell ⟨p, i, none⟩ u).heap[p]? = some (.cells (c.setIfInBounds i u) t f) := by
  simp [World.setCell, Array.getElem?_modify, h]
theorem row_slice {w : World} {base e size n : Nat} {v : Value} {xs : List Value} (h : w.ownsRow base e size v n xs) : ∃ A cap, v = .slice A n cap ∧ n ≤ cap := by
  rcases h.2 with ⟨rfl, rfl⟩ | ⟨g, cap, cur, rfl, _, _, hn, _⟩
  · exact ⟨_, _, rfl, Nat.le_refl _⟩
  · exact ⟨_, _, rfl, hn⟩
theorem row_some {w : World} {base e size n : Nat} {v : Value} {xs : List Value} (h : w.ownsRow base e size v n xs) (hn : 0 < n) :
    ∃ g cap, v = .slice (some ⟨g, 0, none⟩) n cap ∧ n ≤ cap ∧ (∀ j u, xs[j]? = some u → w.cell? ⟨g, j, none⟩ = some u) ∧ (∀ j, w.frozen? ⟨g, j, none⟩ = false) ∧ ∃ cur, w.heap[g]? = some (.cells cur e (0, 0)) := by
  have hc := fun (k : Nat) (hk : v.ownBlock = some k) => h.cells hk
  rcases h.2 with ⟨rfl, rfl⟩ | ⟨g, cap, cur, rfl, _, hg, hnc, _⟩
  · omega
  · refine ⟨g, cap, rfl, hnc, fun j u hu => ?_, fun j => ?_, cur, hg⟩
    · have := hc g rfl j u hu
      rw [show (⟨g, 0, none⟩ : Addr).add j = ⟨g, j, none⟩ from by unfold Addr.add; split <;> simp_all] at this
      exact this
    · simp [World.frozen?, hg]
theorem cell_at {w : World} {p : Nat} {cs : Array Value} {t : TypeId} (h : w.heap[p]? = some (.cells cs t (0, 0))) (i : Nat) : w.cell? ⟨p, i, none⟩ = cs[i]? ∧ w.frozen? ⟨p, i, none⟩ = false := by
  constructor
  · simp [World.cell?, h]
  · simp [World.frozen?, h]

theorem cells_two_new (w : World) (x y : Value) (t : TypeId) : ∀ j u, [x, y][j]? = some u → (w.alloc (.cells #[x, y] t)).cell? ((⟨w.heap.size, 0, none⟩ : Addr).add j) = some u := by
  intro j u hu
  match j, hu with
  | 0, hu => simp at hu; subst hu; simp [Addr.add]
  | 1, hu => simp at hu; subst hu; simp [Addr.add]

/-- A footprint, and all that is made from now on. -/
def More (fp : Nat → Prop) (n : Nat) : Nat → Prop := fun k => fp k ∨ n ≤ k
/-- A thing in memory: what it says of a world, of the blocks that it takes (and of no others). -/
structure Res where
  at_ : World → (Nat → Prop) → Prop
  move : ∀ {w w' : World} {f : Nat → Prop}, at_ w f → (∀ k, f k → w'.heap[k]? = w.heap[k]?) → at_ w' f
  mono : ∀ {w : World} {f g : Nat → Prop}, at_ w f → (∀ k, f k → g k) → at_ w g
  bound : ∀ {w : World} {f : Nat → Prop}, at_ w f → at_ w (fun k => f k ∧ k < w.heap.size)
def SepF (N : Nat) (w : World) : List Res → (Nat → Prop) → Prop
  | [], _ => True
  | r :: rs, fp => ∃ f g, r.at_ w f ∧ SepF N w rs g ∧ (∀ k, f k → ¬ g k) ∧ (∀ k, f k → fp k ∧ N ≤ k ∧ k < w.heap.size) ∧ (∀ k, g k → fp k)
/-- W: the world in which the law began. -/
def Sep (W w : World) (rs : List Res) : Prop := Below W.heap.size W w ∧ ∃ fp, SepF W.heap.size w rs fp ∧ ∀ k, fp k → W.heap.size ≤ k ∧ k < w.heap.size

section
variable {W w w' : World} {N : Nat} {r r' a b : Res} {rs : List Res}
theorem SepF.move {fp : Nat → Prop} (h : SepF N w rs fp) (hm : ∀ k, fp k → w'.heap[k]? = w.heap[k]?) (hs : w.heap.size ≤ w'.heap.size) : SepF N w' rs fp := by
  induction rs generalizing fp with
  | nil => trivial
  | cons r rs ih =>
    obtain ⟨f, g, h1, h2, h3, h4, h5⟩ := h
    exact ⟨f, g, r.move h1 (fun k hk => hm k (h4 k hk).1), ih h2 (fun k hk => hm k (h5 k hk)), h3, fun k hk => ⟨(h4 k hk).1, (h4 k hk).2.1, Nat.lt_of_lt_of_le (h4 k hk).2.2 hs⟩, h5⟩
theorem SepF.mono {fp fp' : Nat → Prop} (h : SepF N w rs fp) (hm : ∀ k, fp k → fp' k) : SepF N w rs fp' := by
  cases rs with
  | nil => trivial
  | cons r rs =>
    obtain ⟨f, g, h1, h2, h3, h4, h5⟩ := h
    exact ⟨f, g, h1, h2, h3, fun k hk => ⟨hm k (h4 k hk).1, (h4 k hk).2⟩, fun k hk => hm k (h5 k hk)⟩
theorem Sep.start (W : World) : Sep W W [] := ⟨Below.refl _ _, fun _ => False, trivial, fun _ h => h.elim⟩
theorem Sep.past (h : Sep W w rs) (ht : Turns (fun _ => False) w w') : Sep W w' rs := by
  obtain ⟨hB, fp, h1, h2⟩ := h
  exact ⟨hB.trans (ht.below hB.size (fun _ h => h.elim)), fp, h1.move (fun k hk => ht.block k (h2 k hk).2 (fun x => x)) ht.size, fun k hk => ⟨(h2 k hk).1, Nat.lt_of_lt_of_le (h2 k hk).2 ht.size⟩⟩
theorem Sep.drawn (h : Sep W w rs) (hd : Drawn0 w w') : Sep W w' rs := by
  obtain ⟨n, rfl⟩ := hd
  exact h.past (Turns.drewN w n)
theorem Sep.below (h : Sep W w rs) (hb : Below w.heap.size w w') : Sep W w' rs := h.past ⟨hb.os, hb.tape, hb.output, hb.size, fun k hk _ => hb.block k hk⟩
theorem Sep.alloc (h : Sep W w rs) (o : Obj) : Sep W (w.alloc o) rs := h.past (Turns.alloc _ w o)
theorem Sep.tail (h : Sep W w (r :: rs)) : Sep W w rs := by
  obtain ⟨hB, fp, ⟨f, g, h1, h2, h3, h4, h5⟩, h6⟩ := h
  exact ⟨hB, g, h2, fun k hk => h6 k (h5 k hk)⟩
theorem Sep.swap (h : Sep W w (a :: b :: rs)) : Sep W w (b :: a :: rs) := by
  obtain ⟨hB, fp, ⟨f, g, h1, ⟨f2, g2, k1, k2, k3, k4, k5⟩, h3, h4, h5⟩, h6⟩ := h
  refine ⟨hB, fp, ⟨f2, fun k => f k ∨ g2 k, k1, ⟨f, g2, h1, k2, fun k hk hk2 => h3 k hk (k5 k hk2), fun k hk => ⟨.inl hk, (h4 k hk).2⟩, fun k hk => .inr hk⟩, fun k hk => ?_, fun k hk => ⟨h5 k (k4 k hk).1, (k4 k hk).2⟩, fun k hk => ?_⟩, h6⟩
  · rintro (hk2 | hk2)
    · exact h3 k hk2 (k4 k hk).1
    · exact k3 k hk hk2
  · rcases hk with hk | hk
    · exact (h4 k hk).1
    · exact h5 k (k5 k hk)
theorem Sep.swap3 {c : Res} (h : Sep W w (a :: b :: c :: rs)) : Sep W w (c :: a :: b :: rs) := by
  obtain ⟨hB, fp, ⟨f, g, h1, h2, h3, h4, h5⟩, h6⟩ := h
  have t : Sep W w (b :: c :: rs) := ⟨hB, g, h2, fun k hk => h6 k (h5 k hk)⟩
  have s : Sep W w (a :: c :: b :: rs) := by
    obtain ⟨f2, g2, k1, ⟨f3, g3, l1, l2, l3, l4, l5⟩, k3, k4, k5⟩ := h2
    refine ⟨hB, fp, ⟨f, g, h1, ⟨f3, fun k => f2 k ∨ g3 k, l1, ⟨f2, g3, k1, l2, fun k hk hk2 => k3 k hk (l5 k hk2), fun k hk => ⟨.inl hk, (k4 k hk).2⟩, fun k hk => .inr hk⟩, fun k hk => ?_, fun k hk => ⟨k5 k (l4 k hk).1, (l4 k hk).2⟩, fun k hk => ?_⟩, h3, h4, h5⟩, h6⟩
    · rintro (hk2 | hk2)
      · exact k3 k hk2 (l4 k hk).1
      · exact l3 k hk hk2
    · rcases hk with hk | hk
      · exact (k4 k hk).1
      · exact k5 k (l5 k hk)
  exact s.swap
theorem SepF.swap {fp : Nat → Prop} (h : SepF N w (a :: b :: rs) fp) : SepF N w (b :: a :: rs) fp := by
  obtain ⟨f, g, h1, ⟨f2, g2, k1, k2, k3, k4, k5⟩, h3, h4, h5⟩ := h
  refine ⟨f2, fun k => f k ∨ g2 k, k1, ⟨f, g2, h1, k2, fun k hk hk2 => h3 k hk (k5 k hk2), fun k hk => ⟨.inl hk, (h4 k hk).2⟩, fun k hk => .inr hk⟩, fun k hk => ?_, fun k hk => ⟨h5 k (k4 k hk).1, (k4 k hk).2⟩, fun k hk => ?_⟩
  · rintro (hk2 | hk2)
    · exact h3 k hk2 (k4 k hk).1
    · exact k3 k hk hk2
  · rcases hk with hk | hk
    · exact (h4 k hk).1
    · exact h5 k (k5 k hk)
theorem SepF.perm {rs rs' : List Res} (hp : rs.Perm rs') : ∀ {fp : Nat → Prop}, SepF N w rs fp → SepF N w rs' fp := by
  induction hp with
  | nil => exact fun h => h
  | cons r _ ih =>
    rintro fp ⟨f, g, h1, h2, h3⟩
    exact ⟨f, g, h1, ih h2, h3⟩
  | swap a b l => exact fun h => h.swap
  | trans _ _ ih1 ih2 => exact fun h => ih2 (ih1 h)
theorem Sep.perm {rs rs' : List Res} (h : Sep W w rs) (hp : rs.Perm rs') : Sep W w rs' := by
  obtain ⟨hB, fp, h1, h2⟩ := h
  exact ⟨hB, fp, h1.perm hp, h2⟩
theorem pull_perm {α : Type} : ∀ (l : List α) (i : Nat) (hi : i < l.length), l.Perm (l[i] :: l.eraseIdx i)
  | a :: l, 0, _ => List.Perm.refl _
  | a :: l, i + 1, hi => (List.Perm.cons a (pull_perm l i (by simpa using hi))).trans (List.Perm.swap _ _ _)
/-- One of the things taken to the front. -/
theorem Sep.pull {rs : List Res} (h : Sep W w rs) (i : Nat) (hi : i < rs.length) : Sep W w (rs[i] :: rs.eraseIdx i) := h.perm (pull_perm rs i hi)
/-- The first thing turns. -/
theorem Sep.turn (h : Sep W w (r :: rs)) (hd : ∀ f, r.at_ w f → r'.at_ w' (More f w.heap.size) ∧ Turns f w w') : Sep W w' (r' :: rs) := by
  obtain ⟨hB, fp, ⟨f, g, h1, h2, h3, h4, h5⟩, h6⟩ := h
  obtain ⟨h7, ht⟩ := hd f h1
  have hs := ht.size
  have hs1 := hB.size
  refine ⟨hB.trans (ht.below hs1 (fun k hk => (h4 k hk).2.1)), fun k => (fp k ∨ w.heap.size ≤ k) ∧ k < w'.heap.size, ⟨fun k => More f w.heap.size k ∧ k < w'.heap.size, g, r'.bound h7, h2.move (fun k hk => ht.block k (h6 k (h5 k hk)).2 (fun hf => h3 k hf hk)) hs, fun k hk hk2 => ?_, fun k hk => ⟨⟨?_, hk.2⟩, ?_, hk.2⟩, fun k hk => ⟨.inl (h5 k hk), Nat.lt_of_lt_of_le (h6 k (h5 k hk)).2 hs⟩⟩, fun k hk => ⟨?_, hk.2⟩⟩
  · rcases hk.1 with hk | hk
    · exact h3 k hk hk2
    · have := (h6 k (h5 k hk2)).2
      omega
  · rcases hk.1 with hk | hk
    · exact .inl (h4 k hk).1
    · exact .inr hk
  · rcases hk.1 with hk | hk
    · exact (h4 k hk).2.1
    · omega
  · rcases hk.1 with hk | hk
    · exact (h6 k hk).1
    · omega
/-- A new thing. -/
theorem Sep.fresh (h : Sep W w rs) (ht : Turns (fun _ => False) w w') {f : Nat → Prop} (hr : r.at_ w' f) (hf : ∀ k, f k → w.heap.size ≤ k) : Sep W w' (r :: rs) := by
  have h' := h.past ht
  obtain ⟨hB, fp, h1, h2⟩ := h
  have hs := ht.size
  have hs1 := hB.size
  refine ⟨h'.1, fun k => (fp k ∨ w.heap.size ≤ k) ∧ k < w'.heap.size, ⟨fun k => f k ∧ k < w'.heap.size, fp, r.bound hr, h1.move (fun k hk => ht.block k (h2 k hk).2 (fun x => x)) hs, fun k hk hk2 => ?_, fun k hk => ⟨⟨.inr (hf k hk.1), hk.2⟩, ?_, hk.2⟩, fun k hk => ⟨.inl hk, Nat.lt_of_lt_of_le (h2 k hk).2 hs⟩⟩, fun k hk => ⟨?_, hk.2⟩⟩
  · have := hf k hk.1
    have := (h2 k hk2).2
    omega
  · have := hf k hk.1; omega
  · rcases hk.1 with hk | hk
    · exact (h2 k hk).1
    · omega
theorem Sep.head (h : Sep W w (r :: rs)) : ∃ f, r.at_ w f ∧ ∀ k, f k → W.heap.size ≤ k ∧ k < w.heap.size := by
  obtain ⟨hB, fp, ⟨f, g, h1, h2, h3, h4, h5⟩, h6⟩ := h
  exact ⟨f, h1, fun k hk => (h4 k hk).2⟩
/-- Two things taken as one; one thing told otherwise. -/
theorem Sep.join (h : Sep W w (a :: b :: rs)) (hj : ∀ f g, a.at_ w f → b.at_ w g → r.at_ w (fun k => f k ∨ g k)) : Sep W w (r :: rs) := by
  obtain ⟨hB, fp, ⟨f, g, h1, ⟨f2, g2, k1, k2, k3, k4, k5⟩, h3, h4, h5⟩, h6⟩ := h
  refine ⟨hB, fp, ⟨fun k => f k ∨ f2 k, g2, hj f f2 h1 k1, k2, fun k hk hk2 => ?_, fun k hk => ?_, fun k hk => h5 k (k5 k hk)⟩, h6⟩
  · rcases hk with hk | hk
    · exact h3 k hk (k5 k hk2)
    · exact k3 k hk hk2
  · rcases hk with hk | hk
    · exact h4 k hk
    · exact ⟨h5 k (k4 k hk).1, (k4 k hk).2⟩
theorem Sep.told (h : Sep W w (a :: rs)) (hj : ∀ f, a.at_ w f → r.at_ w f) : Sep W w (r :: rs) := by
  obtain ⟨hB, fp, ⟨f, g, h1, h2⟩, h6⟩ := h
  exact ⟨hB, fp, ⟨f, g, hj f h1, h2⟩, h6⟩
theorem Sep.calls {f : FuncId} {args : Array Value} {P : Ending → Prop} (h : Sep W w (r :: rs)) (hd : ∀ F1, r.at_ w F1 → Calls Try.prog f args w fun e w' => P e ∧ r'.at_ w' (More F1 w.heap.size) ∧ Turns F1 w w') :
    Calls Try.prog f args w fun e w' => P e ∧ Sep W w' (r' :: rs) := by
  have h' := h
  obtain ⟨hB, fp, ⟨F1, g, h1, h2, h3, h4, h5⟩, h6⟩ := h'
  refine (hd F1 h1).mono fun e w' ⟨he, hx, ht⟩ => ⟨he, ?_⟩
  have hs := ht.size
  have hs1 := hB.size
  refine ⟨hB.trans (ht.below hs1 (fun k hk => (h4 k hk).2.1)), fun k => (fp k ∨ w.heap.size ≤ k) ∧ k < w'.heap.size, ⟨fun k => More F1 w.heap.size k ∧ k < w'.heap.size, g, r'.bound hx, h2.move (fun k hk => ht.block k (h6 k (h5 k hk)).2 (fun hf => h3 k hf hk)) hs, fun k hk hk2 => ?_, fun k hk => ⟨⟨?_, hk.2⟩, ?_, hk.2⟩, fun k hk => ⟨.inl (h5 k hk), Nat.lt_of_lt_of_le (h6 k (h5 k hk)).2 hs⟩⟩, fun k hk => ⟨?_, hk.2⟩⟩
  · rcases hk.1 with hk | hk
    · exact h3 k hk hk2
    · have := (h6 k (h5 k hk2)).2
      omega
  · rcases hk.1 with hk | hk
    · exact .inl (h4 k hk).1
    · exact .inr hk
  · rcases hk.1 with hk | hk
    · exact (h4 k hk).2.1
    · omega
  · rcases hk.1 with hk | hk
    · exact (h6 k hk).1
    · omega
end

/-- A row: a list of one's own. -/
def RowAt (w : World) (e : TypeId) (size : Nat) (v : Value) (n : Nat) (xs : List Value) (f : Nat → Prop) : Prop := w.ownsRow 0 e size v n xs ∧ ∀ k, v.ownBlock = some k → f k
def rowR (e : TypeId) (size : Nat) (v : Value) (n : Nat) (xs : List Value) : Res :=
  ⟨fun w f => RowAt w e size v n xs f, fun h hm => ⟨own_move h.1 (fun k hk => hm k (h.2 k hk)), h.2⟩, fun h hm => ⟨h.1, fun k hk => hm k (h.2 k hk)⟩, fun h => ⟨h.1, fun k hk => ⟨h.2 k hk, (h.1.lt k hk).2⟩⟩⟩

section
variable {W w w' : World} {rs : List Res} {e size n m : Nat} {v v' : Value} {xs ys : List Value}
theorem Sep.row (h : Sep W w (rowR e size v n xs :: rs)) : w.ownsRow 0 e size v n xs := by
  obtain ⟨f, h1, _⟩ := h.head
  exact h1.1
theorem Sep.row_lt (h : Sep W w (rowR e size v n xs :: rs)) {k : Nat} (hk : v.ownBlock = some k) : W.heap.size ≤ k ∧ k < w.heap.size := by
  obtain ⟨f, h1, h2⟩ := h.head
  exact h2 k (h1.2 k hk)
/-- Behind the law of append. -/
theorem Sep.appended (h : Sep W w (rowR e size v n xs :: rs)) (hown : w'.ownsRow 0 e size v' m ys) (hgrow : w.grownBy w' v.ownBlock) (hat : v'.ownBlock = v.ownBlock ∨ v'.ownBlock = some w.heap.size) : Sep W w' (rowR e size v' m ys :: rs) := by
  refine h.turn fun f ⟨h1, h2⟩ => ⟨⟨hown, fun k hk => ?_⟩, Turns.of_grown hgrow (fun k hk => h2 k hk)⟩
  rcases hat with e | e
  · rw [e] at hk
    exact .inl (h2 k hk)
  · rw [e] at hk
    right
    have := Option.some.inj hk
    omega
/-- Behind a store into it. -/
theorem Sep.stored {b c j : Nat} {u : Value} (h : Sep W w (rowR e 1 (.slice (some ⟨b, 0, none⟩) n c) n xs :: rs)) (hj : j < n) (hu : u.oneCell' = true) :
    Sep W (w.setCell ⟨b, j, none⟩ u) (rowR e 1 (.slice (some ⟨b, 0, none⟩) n c) n (xs.set j u) :: rs) := by
  refine h.turn fun f ⟨h1, h2⟩ => ⟨⟨?_, fun k hk => .inl (h2 k hk)⟩, Turns.setCell w ⟨b, j, none⟩ u (h2 b rfl)⟩
  refine ⟨by have := h1.1; simpa using this, .inr ?_⟩
  rcases h1.2 with ⟨e1, _⟩ | ⟨g', cap', cur, e1, hb, hgg, hn, hc, hsz, htk⟩
  · cases e1
  · simp only [Value.slice.injEq, Option.some.injEq, Addr.mk.injEq, and_true, true_and] at e1
    obtain ⟨rfl, rfl⟩ := e1
    refine ⟨b, c, cur.setIfInBounds j u, rfl, hb, set_block hgg _ _, hn, hc, by simpa using hsz, ?_⟩
    rw [Array.toList_setIfInBounds, List.take_set, htk]
end
theorem owns_zero {w : World} {b e size n : Nat} {v : Value} {xs : List Value} (h : w.ownsRow b e size v n xs) : w.ownsRow 0 e size v n xs := by
  refine ⟨h.1, ?_⟩
  rcases h.2 with h2 | ⟨g, cap, cur, e1, hb, r⟩
  · exact .inl h2
  · exact .inr ⟨g, cap, cur, e1, Nat.zero_le _, r⟩
theorem RowAt.move {w w' : World} {e size n : Nat} {v : Value} {xs : List Value} {f : Nat → Prop} (h : RowAt w e size v n xs f) (hm : ∀ k, f k → w'.heap[k]? = w.heap[k]?) : RowAt w' e size v n xs f := ⟨own_move h.1 (fun k hk => hm k (h.2 k hk)), h.2⟩
theorem RowAt.mono {w : World} {e size n : Nat} {v : Value} {xs : List Value} {f g : Nat → Prop} (h : RowAt w e size v n xs f) (hm : ∀ k, f k → g k) : RowAt w e size v n xs g := ⟨h.1, fun k hk => hm k (h.2 k hk)⟩
theorem RowAt.bound {w : World} {e size n : Nat} {v : Value} {xs : List Value} {f : Nat → Prop} (h : RowAt w e size v n xs f) : RowAt w e size v n xs (fun k => f k ∧ k < w.heap.size) := ⟨h.1, fun k hk => ⟨h.2 k hk, (h.1.lt k hk).2⟩⟩

/-- A block of one's own. -/
def boxR (b : Nat) (t : TypeId) (cs : Array Value) : Res :=
  ⟨fun w f => w.heap[b]? = some (.cells cs t (0, 0)) ∧ f b, fun h hm => ⟨(hm b h.2).trans h.1, h.2⟩, fun h hm => ⟨h.1, hm b h.2⟩, fun {w _} h => ⟨h.1, h.2, (Array.getElem?_eq_some_iff.1 h.1).1⟩⟩
theorem box_fresh {W w : World} {rs : List Res} (h : Sep W w rs) (t : TypeId) (cs : Array Value) : Sep W (w.alloc (.cells cs t)) (boxR w.heap.size t cs :: rs) :=
  h.fresh (f := fun k => w.heap.size ≤ k) (Turns.alloc _ w _) ⟨heap_alloc_new _ _, Nat.le_refl _⟩ (fun _ hk => hk)
theorem box_at {W w : World} {rs : List Res} {b : Nat} {t : TypeId} {cs : Array Value} (h : Sep W w (boxR b t cs :: rs)) : w.heap[b]? = some (.cells cs t (0, 0)) := by
  obtain ⟨f, hf, _⟩ := h.head
  exact hf.1
theorem box_set {W w : World} {rs : List Res} {b : Nat} {t : TypeId} {cs : Array Value} (h : Sep W w (boxR b t cs :: rs)) (j : Nat) (u : Value) : Sep W (w.setCell ⟨b, j, none⟩ u) (boxR b t (cs.setIfInBounds j u) :: rs) :=
  h.turn fun f ⟨h1, h2⟩ => ⟨⟨set_block h1 _ _, .inl h2⟩, Turns.setCell w ⟨b, j, none⟩ u h2⟩

end Go.Proofs.Ytkonloadedbpkaa.Sep

namespace Go.Proofs.Ytkonloadedbpkaa.FMaps
open Go.RowKit Go.Maps Go.Proofs.Ytkonloadedbpkaa.Sep
open Go.Proofs.YtkonloadedbpkaaW.PrintWords (Aside0 Drawn0 own_move)
set_option linter.unusedVariables false
set_option linter.unusedSectionVars false
set_option maxRecDepth 100000

/-- A kind of map to numbers. -/
structure MK (κ : Type) where
  T : TypeId
  K : TypeId
  ht : Try.prog.underlying T = some (.map K 3)
  law : Keyed Try.prog K
  enc : κ → Value
  ok : κ → Prop
  reads : ∀ k, ok k → ∃ l, keyOf Try.prog K (enc k) = some l
  inj : ∀ a b, enc a = enc b → a = b
section
variable {κ : Type} [DecidableEq κ] (m : MK κ)
noncomputable def MK.key (k : κ) : Lit := (keyOf Try.prog m.K (m.enc k)).getD (.bool false)
set_option maxRecDepth 100000 in
theorem MK.hkey {k : κ} (h : m.ok k) : keyOf Try.prog m.K (m.enc k) = some (m.key k) := by
  obtain ⟨l, hl⟩ := m.reads k h
  unfold MK.key
  rw [hl]
  rfl
set_option maxRecDepth 100000 in
theorem MK.key_inj {a b : κ} (ha : m.ok a) (hb : m.ok b) (h : m.key a = m.key b) : a = b := by
  have h1 := m.hkey ha
  rw [h] at h1
  exact m.inj _ _ (m.law.inj h1 (m.hkey hb))
set_option maxRecDepth 100000 in
theorem MK.isKey {k : κ} (h : m.ok k) : WideAt.IsKeyLit (m.key k) := m.law.key (v := m.enc k) (l := m.key k) (m.hkey h)
def upd (f : κ → Option Nat) (s : κ) (n : Nat) : κ → Option Nat := fun t => if t = s then some n else f t
abbrev litI (n : Int) : DataW Unit := .lit (.int .i64 n)
theorem litI_inj {a b : Int} (h : litI a = litI b) : a = b := by
  injection h with h
  injection h
def numO (o : Option Nat) : Int := match o with | some n => (n : Int) | none => 0
/-- Block b is a map of this kind of n entries (counted up to g): what it holds is f. -/
def MapIs (w : World) (b g n : Nat) (f : κ → Option Nat) : Prop :=
  ∃ D : DataW Unit, w.ownsMap Try.prog m.K (plainElem Try.prog 3) b g D ∧ Maps.size D = n ∧ ∀ s, m.ok s → Maps.has D (m.key s) = (f s).isSome ∧ D.atKey (m.key s) (litI 0) = litI (numO (f s))
variable {m} {w w' : World} {b g n : Nat} {f : κ → Option Nat} {s : κ}
theorem zero3 (w : World) : (zeroValue 3).run Try.prog w = .ok (.int .i64 0) w := by kernel_rfl
theorem MapIs.lt (h : MapIs m w b g n f) : b < w.heap.size := by
  obtain ⟨D, h, _⟩ := h
  exact h.lt
theorem MapIs.move (h : MapIs m w b g n f) (hm : w'.heap[b]? = w.heap[b]?) : MapIs m w' b g n f := by
  obtain ⟨D, ⟨es, clock, hb, r⟩, hf⟩ := h
  exact ⟨D, ⟨es, clock, hm.trans hb, r⟩, hf⟩
theorem MapIs.more {g' : Nat} (h : MapIs m w b g n f) (hg : g ≤ g') : MapIs m w b g' n f := by
  obtain ⟨D, h, hf⟩ := h
  exact ⟨D, h.mono hg, hf⟩
theorem MapIs.made (w : World) : MapIs m (w.alloc (.map #[] 0)) w.heap.size 0 0 (fun _ => none) :=
  ⟨.map [], World.ownsMap_made _ _ _ _, rfl, fun _ _ => ⟨rfl, rfl⟩⟩
/-- What 'v, ok := m[s]' gives. -/
theorem MapIs.look (h : MapIs m w b g n f) (hs : m.ok s) :
    (Instr.lookup m.T (.map (some b)) (m.enc s) true).run Try.prog w = .ok (.tuple #[.int .i64 (numO (f s)), .bool (f s).isSome]) w := by
  obtain ⟨D, hown, hn, hD⟩ := h
  obtain ⟨v, ps, hrun, hv⟩ := hown.look_ok m.law m.ht (zero3 _) (plainElem_int (H := Unit) Try.underlying3 (a := 0) (q := .i64) (WalkArith.wf_i64 (by omega))) (m.hkey hs)
  obtain ⟨h1, h2⟩ := hD s hs
  rw [h2] at hv
  obtain ⟨c, rfl, hc, _⟩ := plainElem_int_inv Try.underlying3 hv
  have h3 : litI (numO (f s)) = litI c := congrArg Prod.fst hc
  rw [hrun, h1, litI_inj h3]
/-- What 'm[s]' gives. -/
theorem MapIs.look1 (h : MapIs m w b g n f) (hs : m.ok s) :
    (Instr.lookup m.T (.map (some b)) (m.enc s) false).run Try.prog w = .ok (.int .i64 (numO (f s))) w := by
  obtain ⟨D, hown, hn, hD⟩ := h
  obtain ⟨c, hrun, hat, _⟩ := hown.lookup_int m.law m.ht Try.underlying3 (zero3 _) (m.hkey hs)
  obtain ⟨h1, h2⟩ := hD s hs
  rw [h2] at hat
  rw [hrun, litI_inj hat]
theorem wf_small {n : Nat} (h : n ≤ 4611686018427387904) : (Lit.int .i64 (n : Int)).wf = true := WalkArith.wf_i64 (by omega)
theorem put_is {D : DataW Unit} (hm : IsMap D) (hf : ∀ s, m.ok s → Maps.has D (m.key s) = (f s).isSome ∧ D.atKey (m.key s) (litI 0) = litI (numO (f s))) (hs : m.ok s) (v : Nat) :
    ∀ t, m.ok t → Maps.has (D.put (m.key s) (litI (v : Int))) (m.key t) = (upd f s v t).isSome ∧ (D.put (m.key s) (litI (v : Int))).atKey (m.key t) (litI 0) = litI (numO (upd f s v t)) := by
  intro t ht
  unfold upd
  by_cases e : t = s
  · subst e
    rw [if_pos rfl]
    exact ⟨has_put_same hm (m.isKey hs) _, atKey_put_same hm (m.isKey hs) _ _⟩
  · rw [if_neg e]
    have hne : m.key t ≠ m.key s := fun h => e (m.key_inj ht hs h)
    rw [has_put_other hne, atKey_put_other hne]
    exact hf t ht
/-- Behind 'm[s] = v', s a new key. -/
theorem MapIs.put {D : DataW Unit} (hown : w.ownsMap Try.prog m.K (plainElem Try.prog 3) b g D) (hn : Maps.size D = n) (hD : ∀ s, m.ok s → Maps.has D (m.key s) = (f s).isSome ∧ D.atKey (m.key s) (litI 0) = litI (numO (f s))) (hs : m.ok s) (hnew : f s = none) (v : Nat)
    (h1 : w'.ownsMap Try.prog m.K (plainElem Try.prog 3) b (g + 1) (D.put (m.key s) (litI (v : Int)))) : MapIs m w' b (g + 1) (n + 1) (upd f s v) := by
  refine ⟨_, h1, ?_, put_is hown.isMap hD hs v⟩
  rw [size_put (hown.tidy m.law), (hD s hs).1, hnew]
  simp [hn]
/-- The run of 'm[s] = v', s a new key. -/
theorem MapIs.store (h : MapIs m w b g n f) (hs : m.ok s) (hnew : f s = none) (hg : g < maxLen) {v : Nat} (hv : v ≤ 4611686018427387904) :
    ∃ w', (Instr.mapUpdate m.T (.map (some b)) (m.enc s) (.int .i64 (v : Int))).run Try.prog w = .ok () w' ∧ MapIs m w' b (g + 1) (n + 1) (upd f s v) ∧ w.grownBy w' (some b) := by
  obtain ⟨D, hown, hn, hD⟩ := h
  obtain ⟨w', hrun, h1, h2⟩ := hown.update m.law m.ht hg (m.hkey hs) (plainElem_int (H := Unit) Try.underlying3 (q := .i64) (wf_small hv))
  exact ⟨w', hrun, MapIs.put hown hn hD hs hnew v h1, h2⟩
variable {ops : Array Oper} {rest : List Oper} {o : Oper} {a : Act} {Q : Exit → Act → World → Prop}
/-- 'm[s] = v' at the operation, s a new key. -/
theorem wp_store (hgd : o.guard = none) (mo x vo : Operand) (hop : o.op = Op.mapUpdate m.T mo x vo) {v : Nat}
    (hm : a.eval mo = .map (some b)) (hx : a.eval x = m.enc s) (hv : a.eval vo = .int .i64 (v : Int)) (h : MapIs m w b g n f) (hs : m.ok s) (hnew : f s = none) (hg : g < maxLen) (hv2 : v ≤ 4611686018427387904)
    (hK : ∀ w', MapIs m w' b (g + 1) (n + 1) (upd f s v) → w.grownBy w' (some b) → wpList Try.prog ops Q rest (a.put o.dst undef) w') : wpList Try.prog ops Q (o :: rest) a w := by
  obtain ⟨D, hown, hn, hD⟩ := h
  refine wpList_mapUpdate_own w hgd mo x vo m.T hop m.K 3 m.law m.ht (plainElem Try.prog 3) b g D hm hown hg _ _ _ hx hv (m.hkey hs) (litI v) [] (plainElem_int Try.underlying3 (wf_small hv2)) ?_
  intro w' h1 h2
  exact hK w' (MapIs.put hown hn hD hs hnew v h1) h2
/-- 'len(m)' at the operation. -/
theorem wp_len (hgd : o.guard = none) (mo : Operand) (hop : o.op = Op.call { callee := Callee.builtin Builtin.len, args := #[mo], argTypes := #[m.T] }) (hm : a.eval mo = .map (some b)) (h : MapIs m w b g n f)
    (hK : wpList Try.prog ops Q rest (a.put o.dst (.int .i64 (n : Int))) w) : wpList Try.prog ops Q (o :: rest) a w := by
  obtain ⟨D, hown, hn, hD⟩ := h
  refine wpList_len_own w hgd mo m.T hop m.K 3 m.ht _ b g D hm hown ?_
  rw [hn]
  exact hK
/-- A map. -/
noncomputable def mapR (m : MK κ) (b g n : Nat) (f : κ → Option Nat) : Res :=
  ⟨fun w fp => MapIs m w b g n f ∧ fp b, fun h hm => ⟨h.1.move (hm b h.2), h.2⟩, fun h hm => ⟨h.1, hm b h.2⟩, fun {w _} h => ⟨h.1, h.2, h.1.lt⟩⟩
theorem map_at {W : World} {rs : List Res} (h : Sep W w (mapR m b g n f :: rs)) : MapIs m w b g n f := by
  obtain ⟨F, hF, _⟩ := h.head
  exact hF.1
theorem map_fresh {W : World} {rs : List Res} (h : Sep W w rs) (m : MK κ) : Sep W (w.alloc (.map #[] 0)) (mapR m w.heap.size 0 0 (fun _ => none) :: rs) :=
  h.fresh (f := fun k => w.heap.size ≤ k) (Turns.alloc _ w _) ⟨MapIs.made w, Nat.le_refl _⟩ (fun _ hk => hk)
theorem map_turn {W : World} {rs : List Res} {g' n' : Nat} {f' : κ → Option Nat} (h : Sep W w (mapR m b g n f :: rs)) (h1 : MapIs m w' b g' n' f') (h2 : w.grownBy w' (some b)) : Sep W w' (mapR m b g' n' f' :: rs) :=
  h.turn fun fp ⟨_, hb⟩ => ⟨⟨h1, .inl hb⟩, Turns.of_grown h2 (fun k hk => by cases hk; exact hb)⟩
end

/-! ### the kinds -/
noncomputable def mkStr (T : TypeId) (ht : Try.prog.underlying T = some (.map 9 3)) : MK ByteArray where
  T := T
  K := 9
  ht := ht
  law := string_keyed Try.underlying9
  enc s := .string s
  ok s := s.size ≤ maxLen
  reads s hs := ⟨_, Go.WideMaps.keyOf_string_mk Try.underlying9 hs⟩
  inj a b h := by injection h
noncomputable def mS : MK ByteArray := mkStr 59 Try.underlying59
noncomputable def mI : MK Nat where
  T := 82
  K := 3
  ht := Try.underlying82
  law := int_keyed Try.underlying3
  enc n := .int .i64 n
  ok n := n ≤ 4611686018427387904
  reads n hn := ⟨_, keyOf_int_mk Try.underlying3 (wf_small hn)⟩
  inj a b h := by
    injection h with _ h
    omega
theorem laidOut : laidOutB Try.prog = true := by kernel_rfl
theorem row87 : (87 : TypeId) < Try.prog.types.size := of_decide_eq_true (by kernel_rfl)
theorem row89 : (89 : TypeId) < Try.prog.types.size := of_decide_eq_true (by kernel_rfl)
theorem wide87 : (match Try.prog.underlying 87 with | some (.array _ _) | some (.struct _) => true | _ => false) = true := by rw [Try.underlying87]
theorem wide89 : (match Try.prog.underlying 89 with | some (.array _ _) | some (.struct _) => true | _ => false) = true := by rw [Try.underlying89]
theorem deep87 : Try.prog.keyTypeAt (Try.prog.types.size + 1) 87 = true := by kernel_rfl
theorem deep89 : Try.prog.keyTypeAt (Try.prog.types.size + 1) 89 = true := by kernel_rfl
set_option maxRecDepth 100000 in
theorem law87 : Go.WideMaps.KeyLaw Try.prog 87 := deep_law_laid laidOut (m := 2) (by omega) row87 (by kernel_rfl) wide87
set_option maxRecDepth 100000 in
theorem law89 : Go.WideMaps.KeyLaw Try.prog 89 := deep_law_laid laidOut (m := 2) (by omega) row89 (by kernel_rfl) wide89
end Go.Proofs.Ytkonloadedbpkaa.FMaps

namespace Go.Proofs.Ytkonloadedbpkaa.FMaps
open Go.RowKit Go.Maps Go.Proofs.Ytkonloadedbpkaa.Sep Go.ChangeShapes Go.WideShapes Go.Joins
set_option linter.unusedVariables false
set_option maxRecDepth 100000

abbrev noEnc : TypeId × Value → Unit := fun _ => ()
theorem trodI (w : World) {n : Int} (h : (Lit.int .i64 n).wf = true) : ∃ k, DataW.trod noEnc Try.prog w 0 (fun _ => false) true k 3 [.int .i64 n] = some (.lit (.int .i64 n), []) := ⟨1, trod_int_mk 0 Try.underlying3 h⟩
theorem trodS (w : World) {s : ByteArray} (h : s.size ≤ maxLen) : ∃ k, DataW.trod noEnc Try.prog w 0 (fun _ => false) true k 9 [.string s] = some (.lit (.string s.data.toList), []) := by
  obtain ⟨k, hk⟩ := Go.ChangeMaps.shut_string (enc := noEnc) (w := w) (base := 0) (sp := fun _ => false) (held := true) Try.underlying9 h
  exact ⟨k, by simpa [Value.cells] using hk⟩
theorem formed87 {c0 c1 : Value} : (Value.agg #[c0, c1]).formed Try.prog 87 = true := by
  have : Try.prog.cellsOf 87 = 2 := by kernel_rfl
  simp [Value.formed, Try.underlying87, this]
theorem formed89 {c0 c1 : Value} : (Value.agg #[c0, c1]).formed Try.prog 89 = true := by
  have : Try.prog.cellsOf 89 = 2 := by kernel_rfl
  simp [Value.formed, Try.underlying89, this]
theorem reads87 {a b : Int} (ha : (Lit.int .i64 a).wf = true) (hb : (Lit.int .i64 b).wf = true) : ∃ l, keyOf Try.prog 87 (.agg #[.int .i64 a, .int .i64 b]) = some l :=
  ⟨_, (keyOf_asKey deep87 wide87 formed87 (shut_agg2 (w := default) Try.underlying87 (by kernel_rfl) (by kernel_rfl) (trodI default ha) (trodI default hb))).1⟩
theorem reads89 {s : ByteArray} {b : Int} (hs : s.size ≤ maxLen) (hb : (Lit.int .i64 b).wf = true) : ∃ l, keyOf Try.prog 89 (.agg #[.string s, .int .i64 b]) = some l :=
  ⟨_, (keyOf_asKey deep89 wide89 formed89 (shut_agg2 (w := default) Try.underlying89 (by kernel_rfl) (by kernel_rfl) (trodS default hs) (trodI default hb))).1⟩
/-- Maps keyed by a number and a number. -/
noncomputable def mL : MK (Nat × Nat) where
  T := 84
  K := 87
  ht := Try.underlying84
  law := Keyed.of_law law87
  enc x := .agg #[.int .i64 x.1, .int .i64 x.2]
  ok x := x.1 ≤ 4611686018427387904 ∧ x.2 ≤ 4611686018427387904
  reads x hx := reads87 (wf_small hx.1) (wf_small hx.2)
  inj a b h := by
    obtain ⟨a1, a2⟩ := a
    obtain ⟨b1, b2⟩ := b
    simp only [Value.agg.injEq, Array.mk.injEq, List.cons.injEq, Value.int.injEq, true_and, and_true] at h
    simp only [Prod.mk.injEq]
    omega
/-- Maps keyed by a label and a number. -/
noncomputable def mQ : MK (ByteArray × Nat) where
  T := 85
  K := 89
  ht := Try.underlying85
  law := Keyed.of_law law89
  enc x := .agg #[.string x.1, .int .i64 x.2]
  ok x := x.1.size ≤ maxLen ∧ x.2 ≤ 4611686018427387904
  reads x hx := reads89 hx.1 (wf_small hx.2)
  inj a b h := by
    obtain ⟨a1, a2⟩ := a
    obtain ⟨b1, b2⟩ := b
    simp only [Value.agg.injEq, Array.mk.injEq, List.cons.injEq, Value.int.injEq, Value.string.injEq, true_and, and_true] at h
    simp only [Prod.mk.injEq]
    exact ⟨h.1, by omega⟩
end Go.Proofs.Ytkonloadedbpkaa.FMaps

namespace Go.Proofs.Ytkonloadedbpkaa.FoldPure
set_option linter.unusedVariables false
set_option linter.unusedSectionVars false

/-! ### where something first stands in a list -/
section
variable {α : Type} [DecidableEq α]
def ix : List α → α → Option Nat
  | [], _ => none
  | x :: l, s => if x = s then some 0 else (ix l s).map (· + 1)
theorem ix_some {l : List α} {s : α} {n : Nat} (h : ix l s = some n) : l[n]? = some s := by
  induction l generalizing n with
  | nil => simp [ix] at h
  | cons x l ih =>
    unfold ix at h
    split at h
    · rename_i e
      cases h
      simp [e]
    · obtain ⟨m, hm, rfl⟩ := Option.map_eq_some_iff.1 h
      simpa using ih hm
theorem ix_none {l : List α} {s : α} : ix l s = none ↔ s ∉ l := by
  induction l with
  | nil => simp [ix]
  | cons x l ih =>
    unfold ix
    split
    · rename_i e
      simp [e]
    · rename_i e
      have e' : ¬ s = x := fun h => e h.symm
      simp [ih, e']
theorem ix_nodup {l : List α} {s : α} {n : Nat} (hl : l.Nodup) (h : l[n]? = some s) : ix l s = some n := by
  induction l generalizing n with
  | nil => simp at h
  | cons x l ih =>
    rw [List.nodup_cons] at hl
    unfold ix
    cases n with
    | zero =>
      have : x = s := by simpa using h
      rw [if_pos this]
    | succ n =>
      have h' : l[n]? = some s := by simpa using h
      have hm : s ∈ l := List.mem_of_getElem? h'
      rw [if_neg (fun (e : x = s) => hl.1 (by rw [e]; exact hm)), ih hl.2 h']
      rfl
theorem ix_snoc {l : List α} {s : α} (h : s ∉ l) (t : α) : ix (l ++ [s]) t = if t = s then some l.length else ix l t := by
  induction l with
  | nil =>
    simp only [List.nil_append, ix, List.length_nil, Option.map_none]
    by_cases e : s = t
    · simp [e]
    · have e' : ¬ t = s := fun h => e h.symm
      simp [e, e']
  | cons x l ih =>
    have hx : ¬ s = x := fun e => h (by simp [e])
    have := ih (fun hm => h (by simp [hm]))
    simp only [List.cons_append, ix, this, List.length_cons]
    by_cases e : t = s
    · subst e
      have hx' : ¬ x = t := fun e => hx e.symm
      simp [hx']
    · simp [e]
theorem nodup_snoc {l : List α} {s : α} (hl : l.Nodup) (h : s ∉ l) : (l ++ [s]).Nodup := by
  rw [List.nodup_append]
  refine ⟨hl, by simp, fun a ha b hb => ?_⟩
  simp at hb
  subst hb
  exact fun e => h (e ▸ ha)
end

/-! ### lists of parts, numbered -/
/-- The lists that are known: the empty one is number 0; with a list its beginnings are known. -/
structure Paths (L : List (List Nat)) : Prop where
  zero : L[0]? = some []
  apart : L.Nodup
  ahead : ∀ p k, p ++ [k] ∈ L → p ∈ L
def listsF (L : List (List Nat)) (x : Nat × Nat) : Option Nat := match L[x.1]? with | some p => ix L (p ++ [x.2]) | none => none
theorem paths_nil : Paths [[]] := ⟨rfl, by simp, fun p k h => by simp at h⟩
theorem listsF_nil : listsF [[]] = fun _ => none := by
  funext x
  obtain ⟨a, k⟩ := x
  unfold listsF
  cases a with
  | zero => simp [ix]
  | succ a => simp
theorem snoc_inj {p q : List Nat} {a b : Nat} (h : p ++ [a] = q ++ [b]) : p = q ∧ a = b := by
  have := List.append_inj' h rfl
  exact ⟨this.1, by simpa using this.2⟩
theorem paths_new {L : List (List Nat)} (h : Paths L) {a k : Nat} {p : List Nat} (ha : L[a]? = some p) (hn : listsF L (a, k) = none) : Paths (L ++ [p ++ [k]]) := by
  have hnew : p ++ [k] ∉ L := by
    unfold listsF at hn
    simp only [ha] at hn
    exact ix_none.1 hn
  refine ⟨?_, nodup_snoc h.apart hnew, fun q j hq => ?_⟩
  · have : 0 < L.length := (List.getElem?_eq_some_iff.1 h.zero).1
    rw [List.getElem?_append_left this]
    exact h.zero
  · rcases List.mem_append.1 hq with hq | hq
    · exact List.mem_append_left _ (h.ahead q j hq)
    · simp only [List.mem_singleton] at hq
      obtain ⟨rfl, _⟩ := snoc_inj hq
      exact List.mem_append_left _ (List.mem_of_getElem? ha)
theorem listsF_new {L : List (List Nat)} (h : Paths L) {a k : Nat} {p : List Nat} (ha : L[a]? = some p) (hn : listsF L (a, k) = none) (x : Nat × Nat) :
    listsF (L ++ [p ++ [k]]) x = if x = (a, k) then some L.length else listsF L x := by
  have hnew : p ++ [k] ∉ L := by
    unfold listsF at hn
    simp only [ha] at hn
    exact ix_none.1 hn
  have hal : a < L.length := (List.getElem?_eq_some_iff.1 ha).1
  obtain ⟨b, j⟩ := x
  unfold listsF
  simp only [Prod.mk.injEq]
  by_cases hb : b < L.length
  · rw [List.getElem?_append_left hb]
    have hq : L[b]? = some L[b] := List.getElem?_eq_getElem hb
    rw [hq]
    simp only
    rw [ix_snoc hnew]
    by_cases e : L[b] ++ [j] = p ++ [k]
    · obtain ⟨e1, e2⟩ := snoc_inj e
      have hba : b = a := by
        have h1 := ix_nodup h.apart hq
        have h2 := ix_nodup h.apart ha
        rw [e1, h2] at h1
        exact (Option.some.inj h1).symm
      rw [if_pos e, if_pos ⟨hba, e2⟩]
    · rw [if_neg e, if_neg]
      rintro ⟨rfl, rfl⟩
      rw [hq] at ha
      exact e (by rw [Option.some.inj ha])
  · rw [if_neg (by rintro ⟨rfl, _⟩; exact hb hal)]
    have hb' : L[b]? = none := List.getElem?_eq_none (by omega)
    rw [hb']
    by_cases e : b = L.length
    · subst e
      rw [List.getElem?_append_right (by omega)]
      simp only [Nat.sub_self, List.getElem?_cons_zero]
      rw [ix_snoc hnew, if_neg, ix_none.2]
      · intro hm
        exact hnew (h.ahead _ _ hm)
      · intro e
        have := (snoc_inj e).1
        have h1 := congrArg List.length this
        simp at h1
    · rw [List.getElem?_eq_none (by simp; omega)]

/-! ### the parts -/
abbrev Nd := ByteArray × List Nat
/-- Each node's kids are earlier nodes. -/
def Valid (l : List Nd) : Prop := ∀ (i : Nat) (x : Nd), l[i]? = some x → ∀ k ∈ x.2, k < i
structure Part where
  label : ByteArray
  kids : List Nat
  places : Nat
def core (q : Part) : ByteArray × List Nat := (q.label, q.kids)
def findPart (P : List Part) (s : ByteArray) (ks : List Nat) : Option Nat := ix (P.map core) (s, ks)
def bump (q : Part) : Part := { q with places := q.places + 1 }
def bumpAll (P : List Part) (ks : List Nat) : List Part := ks.foldl (fun P k => P.modify k bump) P
def place (P : List Part) (s : ByteArray) (ks : List Nat) : List Part × Nat := match findPart P s ks with
  | some n => (P, n)
  | none => (bumpAll (P ++ [⟨s, ks, 0⟩]) ks, P.length)
def gStep (on : List Bool) (st : List Part × List Nat) (i : Nat) (x : Nd) : List Part × List Nat :=
  if on.getD i false then ((place st.1 x.1 (x.2.map (st.2.getD · 0))).1, st.2.set i (place st.1 x.1 (x.2.map (st.2.getD · 0))).2) else st
def gatherTo (l : List Nd) (on : List Bool) : Nat → List Part × List Nat
  | 0 => ([], List.replicate l.length 0)
  | i + 1 => match l[i]? with
    | some x => gStep on (gatherTo l on i) i x
    | none => gatherTo l on i
def kindsF (L : List (List Nat)) (P : List Part) (x : ByteArray × Nat) : Option Nat := match L[x.2]? with | some ks => findPart P x.1 ks | none => none

theorem modify_core (P : List Part) (k : Nat) : (P.modify k bump).map core = P.map core := by
  apply List.ext_getElem?
  intro i
  rw [List.getElem?_map, List.getElem?_map, List.getElem?_modify]
  cases P[i]? with
  | none => simp
  | some q =>
    simp only [Option.map_some]
    by_cases e : k = i
    · simp [e, core, bump]
    · simp [e]
theorem bumpAll_core (ks : List Nat) : ∀ P : List Part, (bumpAll P ks).map core = P.map core := by
  induction ks with
  | nil => intro P; rfl
  | cons k ks ih =>
    intro P
    show (bumpAll (P.modify k bump) ks).map core = _
    rw [ih, modify_core]
theorem bumpAll_length (P : List Part) (ks : List Nat) : (bumpAll P ks).length = P.length := by
  have := congrArg List.length (bumpAll_core ks P)
  simpa using this
theorem bumpAll_snoc (P : List Part) (ks : List Nat) (k : Nat) : bumpAll P (ks ++ [k]) = (bumpAll P ks).modify k bump := by simp [bumpAll]
theorem findPart_core {P Q : List Part} (h : P.map core = Q.map core) (s : ByteArray) (ks : List Nat) : findPart P s ks = findPart Q s ks := by unfold findPart; rw [h]
theorem kindsF_core {L : List (List Nat)} {P Q : List Part} (h : P.map core = Q.map core) : kindsF L P = kindsF L Q := by
  funext x
  unfold kindsF
  split
  · exact findPart_core h _ _
  · rfl
theorem kindsF_nil (L : List (List Nat)) : kindsF L [] = fun _ => none := by
  funext x
  unfold kindsF
  split <;> rfl
theorem kindsF_path {L : List (List Nat)} {P : List Part} {ks : List Nat} (hP : ∀ q ∈ P, q.kids ∈ L) (hn : ks ∉ L) : kindsF (L ++ [ks]) P = kindsF L P := by
  funext x
  unfold kindsF
  by_cases h : x.2 < L.length
  · rw [List.getElem?_append_left h]
  · rw [show L[x.2]? = none from List.getElem?_eq_none (by omega)]
    by_cases e : x.2 = L.length
    · rw [e, List.getElem?_append_right (by omega)]
      simp only [Nat.sub_self, List.getElem?_cons_zero]
      unfold findPart
      rw [ix_none]
      intro hm
      obtain ⟨q, hq, hc⟩ := List.mem_map.1 hm
      have hk : q.kids = ks := congrArg Prod.snd hc
      exact hn (by rw [← hk]; exact hP q hq)
    · rw [List.getElem?_eq_none (by simp; omega)]
theorem kindsF_new {L : List (List Nat)} {P : List Part} {s : ByteArray} {ks : List Nat} {c : Nat} (hL : L.Nodup) (hc : L[c]? = some ks) (hn : findPart P s ks = none) (m : Nat) (x : ByteArray × Nat) :
    kindsF L (P ++ [⟨s, ks, m⟩]) x = if x = (s, c) then some P.length else kindsF L P x := by
  unfold kindsF
  obtain ⟨t, d⟩ := x
  simp only [Prod.mk.injEq]
  unfold findPart at hn ⊢
  have hnm := ix_none.1 hn
  cases hd : L[d]? with
  | none =>
    rw [if_neg]
    rintro ⟨_, rfl⟩
    rw [hc] at hd
    cases hd
  | some ks' =>
    simp only [List.map_append, List.map_cons, List.map_nil]
    rw [ix_snoc (by exact hnm)]
    have key : ((t, ks') = core ⟨s, ks, m⟩) ↔ (t = s ∧ d = c) := by
      unfold core
      simp only [Prod.mk.injEq]
      constructor
      · rintro ⟨rfl, rfl⟩
        refine ⟨rfl, ?_⟩
        have h1 := ix_nodup hL hd
        have h2 := ix_nodup hL hc
        rw [h1] at h2
        exact Option.some.inj h2
      · rintro ⟨rfl, rfl⟩
        rw [hc] at hd
        exact ⟨rfl, (Option.some.inj hd).symm⟩
    by_cases e : t = s ∧ d = c
    · rw [if_pos (key.2 e), if_pos e, List.length_map]
    · rw [if_neg (fun h => e (key.1 h)), if_neg e]

/-! ### what holds while parts are gathered -/
structure GOk (P : List Part) (num : List Nat) (edges : Nat) : Prop where
  nums : ∀ n ∈ num, n < P.length ∨ n = 0
  below : ∀ i q, P[i]? = some q → ∀ k ∈ q.kids, k < i + 1
  places : ∀ q ∈ P, q.places ≤ edges
theorem bump_places {P : List Part} {e : Nat} (h : ∀ q ∈ P, q.places ≤ e) (k : Nat) : ∀ q ∈ P.modify k bump, q.places ≤ e + 1 := by
  intro q hq
  obtain ⟨i, hi⟩ := List.mem_iff_getElem?.1 hq
  rw [List.getElem?_modify] at hi
  cases hp : P[i]? with
  | none => rw [hp] at hi; cases hi
  | some r =>
    rw [hp] at hi
    have hr := h r (List.mem_of_getElem? hp)
    have hi2 : (if k = i then bump r else r) = q := Option.some.inj hi
    subst hi2
    split
    · show r.places + 1 ≤ e + 1
      omega
    · omega
theorem bumpAll_places (ks : List Nat) : ∀ {P : List Part} {e : Nat}, (∀ q ∈ P, q.places ≤ e) → ∀ q ∈ bumpAll P ks, q.places ≤ e + ks.length := by
  induction ks with
  | nil => intro P e h; exact h
  | cons k ks ih =>
    intro P e h q hq
    have := ih (bump_places h k) q hq
    simp only [List.length_cons]
    omega
end Go.Proofs.Ytkonloadedbpkaa.FoldPure

namespace Go.Proofs.Ytkonloadedbpkaa.FoldMem
open Go.RowKit Go.Maps Go.Proofs.Ytkonloadedbpkaa.Sep Go.Proofs.Ytkonloadedbpkaa.FMaps Go.Proofs.Ytkonloadedbpkaa.FoldPure
open Go.Proofs.YtkonloadedbpkaaW.PrintWords
set_option linter.unusedVariables false

abbrev num (n : Int) : Value := .int .i64 n
def nat (n : Nat) : Value := .int .i64 (n : Int)

theorem erase_set {α : Type} (r : α) : ∀ (l : List α) (i : Nat), (l.set i r).eraseIdx i = l.eraseIdx i
  | [], i => by simp
  | a :: l, 0 => rfl
  | a :: l, i + 1 => by simp [erase_set r l i]
theorem push {W w : World} {r' : Res} {l : List Res} {i : Nat} (h : Sep W w (r' :: l.eraseIdx i)) (hi : i < l.length) : Sep W w (l.set i r') := by
  refine h.perm ?_
  have h1 : i < (l.set i r').length := by simpa using hi
  have hp := pull_perm (l.set i r') i h1
  have e1 : (l.set i r')[i] = r' := by simp
  have e2 := erase_set r' l i
  rw [e1, e2] at hp
  exact hp.symm
/-- The thing at place i turns. -/
theorem at_ {W w w' : World} {r' : Res} {l : List Res} (h : Sep W w l) (i : Nat) (hi : i < l.length) (hd : ∀ rs, Sep W w (l[i] :: rs) → Sep W w' (r' :: rs)) : Sep W w' (l.set i r') := push (hd _ (h.pull i hi)) hi

/-! ### a thing that is read -/
/-- W: the world in which the law began. C holds while what lay there, and the thing's own blocks, stay. -/
def readR (W : World) (C : World → Prop) : Res :=
  ⟨fun w f => ∀ w', (∀ k, k < W.heap.size → w'.heap[k]? = W.heap[k]?) → (∀ k, f k → k < w.heap.size → w'.heap[k]? = w.heap[k]?) → C w',
   fun {w w1 f} h hm w' h1 h2 => h w' h1 (fun k hk hl => by
     have e := hm k hk
     have hl1 : k < w1.heap.size := by
       rcases Nat.lt_or_ge k w1.heap.size with h | h
       · exact h
       · rw [Array.getElem?_eq_none h, Array.getElem?_eq_getElem hl] at e
         cases e
     exact (h2 k hk hl1).trans e),
   fun h hm w' h1 h2 => h w' h1 (fun k hk => h2 k (hm k hk)),
   fun h w' h1 h2 => h w' h1 (fun k hk hl => h2 k ⟨hk, hl⟩ hl)⟩
theorem read_at {W w : World} {C : World → Prop} {rs : List Res} (h : Sep W w (readR W C :: rs)) : C w := by
  obtain ⟨f, hf, _⟩ := h.head
  exact hf w (fun k hk => h.1.block k hk) (fun _ _ _ => rfl)
/-- What lay there when the law began. -/
theorem read_old {W w : World} {C : World → Prop} {rs : List Res} (h : Sep W w rs) (hC : ∀ w', (∀ k, k < W.heap.size → w'.heap[k]? = W.heap[k]?) → C w') : Sep W w (readR W C :: rs) :=
  h.fresh (w' := w) (f := fun _ => False) (Turns.refl _ _) (fun w' h1 _ => hC w' h1) (fun _ h => h.elim)

/-- A cell that the thing always has lies in its own blocks, or lay there when the law began: it stays. -/
theorem read_cell {W w : World} {C : World → Prop} {rs : List Res} (h : Sep W w (readR W C :: rs)) (a : Addr) (hC : ∀ w', C w' → ∃ u, w'.cell? a = some u) {u : Value} (hu : w.cell? a = some u) :
    Sep W w (readR W (fun w' => C w' ∧ w'.cell? a = some u) :: rs) := by
  have hB := h.1
  refine h.told fun f hf w' h1 h2 => ⟨hf w' h1 h2, ?_⟩
  have hl : a.block < w.heap.size := World.block_lt_of_cell? w _ hu
  by_cases ho : a.block < W.heap.size
  · have e : w'.heap[a.block]? = w.heap[a.block]? := (h1 _ ho).trans (hB.block _ ho).symm
    unfold World.cell? at hu ⊢
    rw [e]
    exact hu
  by_cases hfa : f a.block
  · have e := h2 _ hfa hl
    unfold World.cell? at hu ⊢
    rw [e]
    exact hu
  · obtain ⟨v, hv⟩ := hC { w with heap := w.heap.setIfInBounds a.block (.map #[] 0) } (hf _ (fun k hk => by
      show (w.heap.setIfInBounds a.block (.map #[] 0))[k]? = _
      rw [Array.getElem?_setIfInBounds_ne (by omega)]
      exact hB.block k hk) (fun k hk _ => by
      show (w.heap.setIfInBounds a.block (.map #[] 0))[k]? = _
      rw [Array.getElem?_setIfInBounds_ne (by rintro rfl; exact hfa hk)]))
    exfalso
    unfold World.cell? at hv
    have e : (w.heap.setIfInBounds a.block (Obj.map #[] 0))[a.block]? = some (Obj.map #[] 0) := by simp [hl]
    simp only [e] at hv
    cases hv

/-! ### nodes -/
abbrev kP : Kd (ByteArray × List Int) := Kd.pair Kd.string (Kd.slice 3 (Kd.int .i64))
abbrev ints (ks : List Nat) : List Int := ks.map fun (n : Nat) => (n : Int)
def toP (x : Nd) : ByteArray × List Int := (x.1, ints x.2)
abbrev NodesC (A : Option Addr) (l : List Nd) (w : World) : Prop := Kd.C kP w A l.length (l.map toP)
theorem node_at {w : World} {A : Option Addr} {l : List Nd} (h : NodesC A l w) {i : Nat} (hi : i < l.length) :
    ∃ ad Ak ck, A = some ad ∧ w.cell? (ad.add (i * 2)) = some (.string l[i].1) ∧ w.cell? ⟨(ad.add (i * 2)).block, (ad.add (i * 2)).off + 1, none⟩ = some (.slice Ak l[i].2.length ck) ∧ l[i].2.length ≤ ck ∧
      Kd.C (Kd.int .i64) w Ak l[i].2.length (ints l[i].2) := by
  obtain ⟨ad, c, e, _, hK, hc0⟩ := Kd.C_get h (toP l[i]) (i : Int) (by omega) (by omega)
  have hx : (l.map toP).getD ((i : Int)).toNat (toP l[i]) = toP l[i] := by simp [hi]
  rw [hx] at hK
  have hc : ∀ j u, c[j]? = some u → w.cell? (ad.add (i * 2 + j)) = some u := hc0
  obtain ⟨_, _, rfl, rfl, ⟨A1, c1, rfl, l1, g1⟩⟩ := hK
  have hl : (toP l[i]).2.length = l[i].2.length := by simp [toP]
  rw [hl] at g1 hc l1
  exact ⟨ad, A1, c1, e, hc 0 _ rfl, by rw [← add_field _ _ 1 (by omega)]; exact hc 1 _ rfl, l1, g1⟩
theorem kid_at {w : World} {A : Option Addr} {n : Nat} {ks : List Nat} (h : Kd.C (Kd.int .i64) w A n (ints ks)) (hn : ks.length = n) {j : Nat} (hj : j < ks.length) : ∃ ad, A = some ad ∧ w.cell? (ad.add j) = some (num (ks[j] : Int)) := by
  obtain ⟨ad, e, hc⟩ := Kd.at_int h (j : Int) (by omega) (by omega)
  refine ⟨ad, e, ?_⟩
  rw [Int.toNat_natCast] at hc
  rw [hc]
  simp [rd, hj]

theorem kids_of {w : World} {ad : Addr} {l : List Nd} (h : NodesC (some ad) l w) {i : Nat} (hi : i < l.length) {Ak : Option Addr} {n ck : Nat} (hx : w.cell? ⟨(ad.add (i * 2)).block, (ad.add (i * 2)).off + 1, none⟩ = some (.slice Ak n ck)) :
    Kd.C (Kd.int .i64) w Ak l[i].2.length (ints l[i].2) := by
  obtain ⟨ad', Ak', ck', e, _, h2, _, h4⟩ := node_at h hi
  cases e
  rw [hx] at h2
  simp only [Option.some.injEq, Value.slice.injEq] at h2
  obtain ⟨rfl, _, _⟩ := h2
  exact h4
theorem nodes_cell {w : World} {ad : Addr} {l : List Nd} {i : Nat} (hi : i < l.length) : NodesC (some ad) l w → ∃ u, w.cell? ⟨(ad.add (i * 2)).block, (ad.add (i * 2)).off + 1, none⟩ = some u := by
  intro h
  obtain ⟨ad', _, _, e, _, h2, _⟩ := node_at h hi
  cases e
  exact ⟨_, h2⟩

/-! ### parts -/
/-- A part in memory: its save's number, where its kids lie. -/
structure PartM where
  part : Part
  number : Int
  A : Option Addr
  c : Nat
def PartM.kv (q : PartM) : Value := .slice q.A q.part.kids.length q.c
def cells1 (q : PartM) : List Value := [.string q.part.label, q.kv, num q.part.places, num q.number]
def partCells (items : List PartM) : List Value := items.flatMap cells1
theorem parts_len (items : List PartM) : (partCells items).length = items.length * 4 := by
  induction items with
  | nil => rfl
  | cons a l ih =>
    show (cells1 a ++ partCells l).length = _
    rw [List.length_append, ih]
    simp [cells1]
    omega
theorem parts_more (items : List PartM) (q : PartM) : partCells items ++ cells1 q = partCells (items ++ [q]) := by simp [partCells]
theorem parts_at (items : List PartM) : ∀ {k : Nat} (hk : k < items.length), (partCells items)[k * 4]? = some (.string items[k].part.label) ∧ (partCells items)[k * 4 + 1]? = some items[k].kv ∧ (partCells items)[k * 4 + 2]? = some (num items[k].part.places) ∧ (partCells items)[k * 4 + 3]? = some (num items[k].number) := by
  induction items with
  | nil => intro k hk; simp at hk
  | cons a l ih =>
    intro k hk
    have e : partCells (a :: l) = .string a.part.label :: a.kv :: num a.part.places :: num a.number :: partCells l := rfl
    rw [e]
    cases k with
    | zero => exact ⟨rfl, rfl, rfl, rfl⟩
    | succ k =>
      obtain ⟨h1, h2, h3, h4⟩ := ih (k := k) (by simpa using hk)
      rw [show (k + 1) * 4 = k * 4 + 1 + 1 + 1 + 1 by omega]
      exact ⟨by simpa using h1, by simpa [Nat.add_assoc] using h2, by simpa [Nat.add_assoc] using h3, by simpa [Nat.add_assoc] using h4⟩
theorem parts_set (items : List PartM) : ∀ {k : Nat} (hk : k < items.length) (f : PartM → PartM) (j : Nat) (u : Value), (cells1 items[k]).set j u = cells1 (f items[k]) → j < 4 → (partCells items).set (k * 4 + j) u = partCells (items.modify k f) := by
  induction items with
  | nil => intro k hk; simp at hk
  | cons a l ih =>
    intro k hk f j u hu hj
    have e : partCells (a :: l) = cells1 a ++ partCells l := rfl
    rw [e]
    cases k with
    | zero =>
      simp only [List.modify_zero_cons, List.getElem_cons_zero] at hu ⊢
      rw [Nat.zero_mul, Nat.zero_add, List.set_append_left _ _ (by simp [cells1]; omega), hu]
      rfl
    | succ k =>
      simp only [List.modify_succ_cons, List.getElem_cons_succ] at hu ⊢
      rw [List.set_append_right _ _ (by simp [cells1]; omega)]
      have : (k + 1) * 4 + j - (cells1 a).length = k * 4 + j := by simp [cells1]; omega
      rw [this, ih (by simpa using hk) f j u hu hj]
      rfl
/-- The kids of all parts lie in memory of their own. -/
def KidsAt (w : World) (items : List PartM) (f : Nat → Prop) : Prop := ∀ q ∈ items, RowAt w 3 1 q.kv q.part.kids.length (q.part.kids.map nat) f
def kidsR (items : List PartM) : Res :=
  ⟨fun w f => KidsAt w items f, fun h hm q hq => RowAt.move (h q hq) hm, fun h hm q hq => RowAt.mono (h q hq) hm, fun h q hq => RowAt.bound (h q hq)⟩
theorem kids_none {W w : World} {rs : List Res} (h : Sep W w rs) : Sep W w (kidsR [] :: rs) :=
  h.fresh (w' := w) (f := fun _ => False) (Turns.refl _ _) (fun q hq => by simp at hq) (fun _ h => h.elim)
theorem kids_more {W w : World} {rs : List Res} {items : List PartM} {q : PartM} (h : Sep W w (rowR 3 1 q.kv q.part.kids.length (q.part.kids.map nat) :: kidsR items :: rs)) : Sep W w (kidsR (items ++ [q]) :: rs) := by
  refine h.join fun f g hf hg x hx => ?_
  rcases List.mem_append.1 hx with hx | hx
  · exact RowAt.mono (hg x hx) (fun _ h => .inr h)
  · simp only [List.mem_singleton] at hx
    subst hx
    exact RowAt.mono hf (fun _ h => .inl h)
theorem kids_modify {W w : World} {rs : List Res} {items : List PartM} (h : Sep W w (kidsR items :: rs)) (k : Nat) (g : PartM → PartM) (hg : ∀ q, (g q).kv = q.kv ∧ (g q).part.kids = q.part.kids) : Sep W w (kidsR (items.modify k g) :: rs) := by
  refine h.told fun f hf q hq => ?_
  obtain ⟨i, hi⟩ := List.mem_iff_getElem?.1 hq
  rw [List.getElem?_modify] at hi
  cases hp : items[i]? with
  | none => rw [hp] at hi; cases hi
  | some r =>
    rw [hp] at hi
    have hi2 : (if k = i then g r else r) = q := Option.some.inj hi
    have hr := hf r (List.mem_of_getElem? hp)
    subst hi2
    split
    · rw [(hg r).1, (hg r).2]
      exact hr
    · exact hr
theorem kids_cell {W w : World} {rs : List Res} {items : List PartM} (h : Sep W w (kidsR items :: rs)) {q : PartM} (hq : q ∈ items) {j : Nat} (hj : j < q.part.kids.length) : ∃ b, q.A = some ⟨b, 0, none⟩ ∧ w.cell? ⟨b, j, none⟩ = some (nat q.part.kids[j]) := by
  obtain ⟨f, hf, _⟩ := h.head
  obtain ⟨b, cap, e, _, hc, _⟩ := row_some (hf q hq).1 (by omega)
  unfold PartM.kv at e
  simp only [Value.slice.injEq] at e
  exact ⟨b, e.1, hc j _ (by simp [hj])⟩
/-- A store into a list of one's own. -/
theorem stored_n {W w : World} {rs : List Res} {e size n c b j : Nat} {u : Value} {xs : List Value} (h : Sep W w (rowR e size (.slice (some ⟨b, 0, none⟩) n c) n xs :: rs)) (hj : j < n * size) (hu : u.oneCell' = true) :
    Sep W (w.setCell ⟨b, j, none⟩ u) (rowR e size (.slice (some ⟨b, 0, none⟩) n c) n (xs.set j u) :: rs) := by
  refine h.turn fun f ⟨h1, h2⟩ => ⟨⟨?_, fun k hk => .inl (h2 k hk)⟩, Turns.setCell w ⟨b, j, none⟩ u (h2 b rfl)⟩
  refine ⟨by have := h1.1; simpa using this, .inr ?_⟩
  rcases h1.2 with ⟨e1, _⟩ | ⟨g', cap', cur, e1, hb, hgg, hn, hc, hsz, htk⟩
  · cases e1
  · simp only [Value.slice.injEq, Option.some.injEq, Addr.mk.injEq, and_true, true_and] at e1
    obtain ⟨rfl, rfl⟩ := e1
    refine ⟨b, c, cur.setIfInBounds j u, rfl, hb, set_block hgg _ _, hn, hc, by simpa using hsz, ?_⟩
    rw [Array.toList_setIfInBounds, List.take_set, htk]
def bumpM (q : PartM) : PartM := { q with part := bump q.part }
theorem bumpM_parts (items : List PartM) (k : Nat) : (items.modify k bumpM).map PartM.part = (items.map PartM.part).modify k bump := by
  apply List.ext_getElem?
  intro i
  rw [List.getElem?_map, List.getElem?_modify, List.getElem?_modify, List.getElem?_map]
  cases items[i]? with
  | none => rfl
  | some q =>
    by_cases e : k = i
    · simp [e, bumpM]
    · simp [e]
theorem bumpM_cells (items : List PartM) {k : Nat} (hk : k < items.length) : (partCells items).set (k * 4 + 2) (num ((items[k].part.places : Int) + 1)) = partCells (items.modify k bumpM) :=
  parts_set items hk bumpM 2 _ rfl (by omega)
theorem modify_all {α : Type} {P : α → Prop} {l : List α} (h : ∀ q ∈ l, P q) {f : α → α} (hf : ∀ q, P q → P (f q)) (k : Nat) : ∀ q ∈ l.modify k f, P q := by
  intro q hq
  obtain ⟨i, hi⟩ := List.mem_iff_getElem?.1 hq
  rw [List.getElem?_modify] at hi
  cases hp : l[i]? with
  | none => rw [hp] at hi; cases hi
  | some r =>
    rw [hp] at hi
    have hi2 : (if k = i then f r else r) = q := Option.some.inj hi
    have hr := h r (List.mem_of_getElem? hp)
    subst hi2
    split
    · exact hf r hr
    · exact hr
theorem row_nil {W w : World} {rs : List Res} (h : Sep W w rs) (e size : Nat) : Sep W w (rowR e size (.slice none 0 0) 0 [] :: rs) :=
  h.fresh (w' := w) (f := fun _ => False) (Turns.refl _ _) ⟨World.ownsRow_nil _ _ _ _, fun k hk => by simp [Value.ownBlock] at hk⟩ (fun _ h => h.elim)
theorem info91 : (Try.prog.info? 91).map (fun i => (i.zero, i.size, i.bytes)) = some (some (.agg #[.string .empty, .slice none 0 0, .int .i64 0, .int .i64 0]), 4, 56) := by kernel_rfl
theorem info3 : (Try.prog.info? 3).map (fun i => (i.zero, i.size, i.bytes)) = some (some (.int .i64 0), 1, 8) := by kernel_rfl
theorem info4 : (Try.prog.info? 4).map (fun i => (i.zero, i.size, i.bytes)) = some (some (.bool false), 1, 1) := by kernel_rfl
theorem info9 : (Try.prog.info? 9).map (fun i => (i.zero, i.size, i.bytes)) = some (some (.string .empty), 1, 16) := by kernel_rfl
theorem row_cell {W w : World} {rs : List Res} {e size b n c : Nat} {xs : List Value} (h : Sep W w (rowR e size (.slice (some ⟨b, 0, none⟩) n c) n xs :: rs)) {j : Nat} {u : Value} (hu : xs[j]? = some u) : w.cell? ⟨b, j, none⟩ = some u := by
  have ho := h.row
  have hl := ho.1
  have hj := (List.getElem?_eq_some_iff.1 hu).1
  have hn : 0 < n := by
    rcases Nat.eq_zero_or_pos n with h0 | h0
    · rw [h0] at hl; simp at hl; rw [hl] at hj; simp at hj
    · exact h0
  obtain ⟨g, cap, e1, _, hc, _⟩ := row_some ho hn
  simp only [Value.slice.injEq, Option.some.injEq, Addr.mk.injEq, and_true, true_and] at e1
  rw [e1.1]
  exact hc j u hu
theorem box_cell {W w : World} {rs : List Res} {b : Nat} {t : TypeId} {cs : Array Value} (h : Sep W w (boxR b t cs :: rs)) {j : Nat} {u : Value} (hu : cs[j]? = some u) : w.cell? ⟨b, j, none⟩ = some u ∧ w.frozen? ⟨b, j, none⟩ = false :=
  ⟨(blk_cell (box_at h) j).trans hu, blk_frozen (box_at h) j⟩
/-- A block of one's own and a list of one's own lie apart. -/
theorem ne_row {W w : World} {rs : List Res} {b : Nat} {t : TypeId} {cs : Array Value} {e size n : Nat} {v : Value} {xs : List Value} (h : Sep W w (boxR b t cs :: rowR e size v n xs :: rs)) : v.ownBlock ≠ some b := by
  obtain ⟨_, fp, ⟨f, g, h1, ⟨f2, g2, k1, _, _, k4, _⟩, h3, _⟩, _⟩ := h
  intro hv
  exact h3 b h1.2 (k4 b (k1.2 b hv)).1
/-- Two lists of one's own lie apart. -/
theorem ne_rows {W w : World} {rs : List Res} {e size n c b : Nat} {xs : List Value} {e' size' n' : Nat} {v : Value} {ys : List Value} (h : Sep W w (rowR e size (.slice (some ⟨b, 0, none⟩) n c) n xs :: rowR e' size' v n' ys :: rs)) : v.ownBlock ≠ some b := by
  obtain ⟨_, fp, ⟨f, g, h1, ⟨f2, g2, k1, _, _, k4, _⟩, h3, _⟩, _⟩ := h
  intro hv
  exact h3 b (h1.2 b rfl) (k4 b (k1.2 b hv)).1
theorem read_weak {W w : World} {C C' : World → Prop} {rs : List Res} (h : Sep W w (readR W C :: rs)) (hC : ∀ w', C w' → C' w') : Sep W w (readR W C' :: rs) := h.told fun f hf w' h1 h2 => hC w' (hf w' h1 h2)
theorem row_free {W w : World} {rs : List Res} {e size b n c : Nat} {xs : List Value} (h : Sep W w (rowR e size (.slice (some ⟨b, 0, none⟩) n c) n xs :: rs)) (hn : 0 < n) (j : Nat) : w.frozen? ⟨b, j, none⟩ = false := by
  obtain ⟨g, cap, e1, _, _, hf, _⟩ := row_some h.row hn
  simp only [Value.slice.injEq, Option.some.injEq, Addr.mk.injEq, and_true, true_and] at e1
  rw [e1.1]
  exact hf j
theorem new_cell (w : World) (u : Value) (t : TypeId) : (w.alloc (.cells #[u] t)).cell? ⟨w.heap.size, 0, none⟩ = some u := by simp
theorem new_cell' (w : World) (u : Value) (t : TypeId) {n : Nat} (h : w.heap.size = n) : (w.alloc (.cells #[u] t)).cell? ⟨n, 0, none⟩ = some u := by subst h; simp
/-- 'append(l, u)' at the operation, l a list of one's own, of elements of one cell. -/
theorem wp_one {ops : Array Oper} {rest : List Oper} {o : Oper} {a : Act} {Q : Exit → Act → World → Prop} {W w : World} {rs : List Res} {v : Value} {n : Nat} {xs : List Value} {e : TypeId} (M : Sep W w (rowR e 1 v n xs :: rs)) (hgd : o.guard = none) (sl x : Operand) (t : TypeId) {z : Value} {b : Nat}
    (hop : o.op = .call { callee := .builtin .append, args := #[sl, x], argTypes := #[t, t] }) (ht : Try.prog.underlying t = some (.slice e)) (hi : (Try.prog.info? e).map (fun i => (i.zero, i.size, i.bytes)) = some (some z, 1, b)) (hz : z.cells.size = 1) (hs : a.eval sl = v)
    {ad : Addr} {c2 : Nat} {u : Value} (hx : a.eval x = .slice (some ad) 1 c2) (hnew : w.cell? ad = some u) (hu : u.oneCell' = true) (hb : b ≤ 16) (hn : n ≤ 4398046511104)
    (h : ∀ A c w', n + 1 ≤ c → Sep W w' (rowR e 1 (.slice A (n + 1) c) (n + 1) (xs ++ [u]) :: rs) → wpList Try.prog ops Q rest (a.put o.dst (.slice A (n + 1) c)) w') : wpList Try.prog ops Q (o :: rest) a w := by
  obtain ⟨i0, hi0, hz0, hz1, hz2⟩ := info_parts hi
  refine wpList_append_own_at w hgd sl x t hop 0 e i0 z 1 b ht hi0 hz0 hz1 hz2 hz (by decide) v n xs hs M.row ad 1 c2 [u] hx rfl ?_ (by intro y hy; simp at hy; subst hy; exact hu) (by unfold maxLen; omega) ?_ (Nat.zero_le _) ?_
  · intro j y hj
    cases j with
    | zero =>
      have : u = y := by simpa using hj
      subst this
      rw [show ad.add 0 = ad from by simp [Addr.add]]
      exact hnew
    | succ j => simp at hj
  · have : (n + 1) * b ≤ (n + 1) * 16 := Nat.mul_le_mul_left _ hb
    omega
  intro v' w' hown hgrow _ hat
  have M2 := M.appended hown hgrow hat
  obtain ⟨A, c, e2, hc⟩ := row_slice hown
  subst e2
  exact h A c w' hc M2
/-- 'make([]T, n)' at the operation, T of one cell. -/
theorem wp_make {ops : Array Oper} {rest : List Oper} {o : Oper} {a : Act} {Q : Exit → Act → World → Prop} {W w : World} {rs : List Res} (M : Sep W w rs) (hgd : o.guard = none) (lo co : Operand) (t e : TypeId) {z : Value} {b : Nat} (hop : o.op = Op.makeSlice t lo co) (ht : Try.prog.underlying t = some (.slice e))
    (hi : (Try.prog.info? e).map (fun i => (i.zero, i.size, i.bytes)) = some (some z, 1, b)) (hz : z.cells = #[z]) {n : Nat} (hl : a.eval lo = .int .i64 (n : Int)) (hc : a.eval co = .int .i64 (n : Int)) (hb : b ≤ 16) (hn : n ≤ 8796093022208)
    (h : ∀ w', Sep W w' (rowR e 1 (.slice (some ⟨w.heap.size, 0, none⟩) n n) n (List.replicate n z) :: rs) → wpList Try.prog ops Q rest (a.put o.dst (.slice (some ⟨w.heap.size, 0, none⟩) n n)) w') : wpList Try.prog ops Q (o :: rest) a w := by
  obtain ⟨i0, hi0, hz0, hz1, hz2⟩ := info_parts hi
  refine wpList_make_full w hgd lo co t hop 0 e i0 z 1 ht hi0 hz0 hz1 .i64 .i64 (n : Int) (n : Int) n hl hc rfl rfl ?_ (by unfold maxLen; omega) (Nat.zero_le _) ?_
  · rw [hz2]
    have : b * n ≤ 16 * n := Nat.mul_le_mul_right _ hb
    omega
  intro w' hown hgrow
  refine h w' (M.fresh (f := fun k => w.heap.size ≤ k) (Turns.of_grown hgrow (fun k hk => by cases hk)) ⟨?_, fun k hk => ?_⟩ (fun _ hk => hk))
  · rw [hz, Nat.mul_one, toList_madeCells_one] at hown
    exact hown
  · have : w.heap.size = k := by simpa [Value.ownBlock] using hk
    omega
end Go.Proofs.Ytkonloadedbpkaa.FoldMem

namespace Go.Proofs.Ytkonloadedbpkaa.FoldRun
open Go.Proofs.Ytkonloadedbpkaa.FoldPure
set_option linter.unusedVariables false

def setF {κ : Type} [DecidableEq κ] (f : κ → Option Nat) (s : κ) (n : Nat) : κ → Option Nat := fun t => if t = s then some n else f t
def partOf (P : List Part) (n : Nat) : Part := P.getD n ⟨ByteArray.empty, [], 0⟩

/-! ### name -/
structure NS where
  seen : List Bool
  at_ : ByteArray → Option Nat
  labels : List ByteArray
def nameLabel (first : Nat) (lab : ByteArray) (s : NS) : NS := if (s.at_ lab).isSome then s else { s with at_ := setF s.at_ lab (first + s.labels.length), labels := s.labels ++ [lab] }
def nameT (P : List Part) (first : Nat) : Nat → Nat → NS → NS
  | 0, _, s => s
  | k + 1, n, s => if s.seen.getD n false then s else nameLabel first (partOf P n).label ((partOf P n).kids.foldl (fun s j => nameT P first k j s) { s with seen := s.seen.set n true })
theorem foldl_inv {α β : Type} (I : β → Prop) (f : β → α → β) (hf : ∀ b a, I b → I (f b a)) : ∀ (l : List α) (b : β), I b → I (l.foldl f b)
  | [], b, h => h
  | a :: l, b, h => foldl_inv I f hf l (f b a) (hf b a h)
theorem nameLabel_grows (first : Nat) (lab : ByteArray) (s : NS) : ∃ t, (nameLabel first lab s).labels = s.labels ++ t := by
  unfold nameLabel
  split
  · exact ⟨[], by simp⟩
  · exact ⟨[lab], rfl⟩
theorem nameLabel_seen (first : Nat) (lab : ByteArray) (s : NS) : (nameLabel first lab s).seen = s.seen := by
  unfold nameLabel
  split <;> rfl
theorem nameT_grows (P : List Part) (first : Nat) : ∀ (k n : Nat) (s : NS), ∃ t, (nameT P first k n s).labels = s.labels ++ t := by
  intro k
  induction k with
  | zero => intro n s; exact ⟨[], by simp [nameT]⟩
  | succ k ih =>
    intro n s
    unfold nameT
    split
    · exact ⟨[], by simp⟩
    · have h := foldl_inv (fun s' : NS => ∃ t, s'.labels = s.labels ++ t) (fun s j => nameT P first k j s) (fun b a ⟨t, ht⟩ => by
        obtain ⟨t', ht'⟩ := ih a b
        exact ⟨t ++ t', by rw [ht', ht, List.append_assoc]⟩) (partOf P n).kids { s with seen := s.seen.set n true } ⟨[], by simp⟩
      obtain ⟨t, ht⟩ := h
      obtain ⟨t', ht'⟩ := nameLabel_grows first (partOf P n).label ((partOf P n).kids.foldl (fun s j => nameT P first k j s) { s with seen := s.seen.set n true })
      exact ⟨t ++ t', by rw [ht', ht, List.append_assoc]⟩
theorem foldl_grows (P : List Part) (first k : Nat) (l : List Nat) (s : NS) : ∃ t, (l.foldl (fun s j => nameT P first k j s) s).labels = s.labels ++ t :=
  foldl_inv (fun s' : NS => ∃ t, s'.labels = s.labels ++ t) _ (fun b a ⟨t, ht⟩ => by
    obtain ⟨t', ht'⟩ := nameT_grows P first k a b
    exact ⟨t ++ t', by rw [ht', ht, List.append_assoc]⟩) l s ⟨[], by simp⟩
theorem nameT_len (P : List Part) (first : Nat) : ∀ (k n : Nat) (s : NS), (nameT P first k n s).seen.length = s.seen.length := by
  intro k
  induction k with
  | zero => intro n s; rfl
  | succ k ih =>
    intro n s
    unfold nameT
    split
    · rfl
    · rw [nameLabel_seen]
      have := foldl_inv (fun s' : NS => s'.seen.length = s.seen.length) (fun s j => nameT P first k j s) (fun b a h => by rw [ih, h]) (partOf P n).kids { s with seen := s.seen.set n true } (by simp)
      exact this

/-! ### write -/
structure WS where
  nums : List Int
  saves : Nat
  codes : List Int
def isSaved (q : Part) : Bool := decide (0 < q.kids.length) && decide (1 < q.places)
def writeEnd (at_ : ByteArray → Nat) (q : Part) (n : Nat) (s : WS) : WS :=
  if isSaved q then ⟨s.nums.set n s.saves, s.saves + 1, s.codes ++ [(at_ q.label : Int)] ++ [-1]⟩ else { s with codes := s.codes ++ [(at_ q.label : Int)] }
def writeT (P : List Part) (at_ : ByteArray → Nat) (base : Nat) : Nat → Nat → WS → WS
  | 0, _, s => s
  | k + 1, n, s => if 0 ≤ s.nums.getD n (-1) then { s with codes := s.codes ++ [(base : Int) + s.nums.getD n (-1)] } else
    writeEnd at_ (partOf P n) n ((partOf P n).kids.foldl (fun s j => writeT P at_ base k j s) s)
theorem writeEnd_grows (at_ : ByteArray → Nat) (q : Part) (n : Nat) (s : WS) : ∃ t, (writeEnd at_ q n s).codes = s.codes ++ t := by
  unfold writeEnd
  split
  · exact ⟨[(at_ q.label : Int), -1], by simp⟩
  · exact ⟨[(at_ q.label : Int)], rfl⟩
theorem writeT_grows (P : List Part) (at_ : ByteArray → Nat) (base : Nat) : ∀ (k n : Nat) (s : WS), ∃ t, (writeT P at_ base k n s).codes = s.codes ++ t := by
  intro k
  induction k with
  | zero => intro n s; exact ⟨[], by simp [writeT]⟩
  | succ k ih =>
    intro n s
    unfold writeT
    split
    · exact ⟨_, rfl⟩
    · have h := foldl_inv (fun s' : WS => ∃ t, s'.codes = s.codes ++ t) (fun s j => writeT P at_ base k j s) (fun b a ⟨t, ht⟩ => by
        obtain ⟨t', ht'⟩ := ih a b
        exact ⟨t ++ t', by rw [ht', ht, List.append_assoc]⟩) (partOf P n).kids s ⟨[], by simp⟩
      obtain ⟨t, ht⟩ := h
      obtain ⟨t', ht'⟩ := writeEnd_grows at_ (partOf P n) n ((partOf P n).kids.foldl (fun s j => writeT P at_ base k j s) s)
      exact ⟨t ++ t', by rw [ht', ht, List.append_assoc]⟩
theorem wfoldl_grows (P : List Part) (at_ : ByteArray → Nat) (base k : Nat) (l : List Nat) (s : WS) : ∃ t, (l.foldl (fun s j => writeT P at_ base k j s) s).codes = s.codes ++ t :=
  foldl_inv (fun s' : WS => ∃ t, s'.codes = s.codes ++ t) _ (fun b a ⟨t, ht⟩ => by
    obtain ⟨t', ht'⟩ := writeT_grows P at_ base k a b
    exact ⟨t ++ t', by rw [ht', ht, List.append_assoc]⟩) l s ⟨[], by simp⟩
theorem writeEnd_len (at_ : ByteArray → Nat) (q : Part) (n : Nat) (s : WS) : (writeEnd at_ q n s).nums.length = s.nums.length := by
  unfold writeEnd
  split
  · simp
  · rfl
theorem writeT_len (P : List Part) (at_ : ByteArray → Nat) (base : Nat) : ∀ (k n : Nat) (s : WS), (writeT P at_ base k n s).nums.length = s.nums.length := by
  intro k
  induction k with
  | zero => intro n s; rfl
  | succ k ih =>
    intro n s
    unfold writeT
    split
    · rfl
    · rw [writeEnd_len]
      exact foldl_inv (fun s' : WS => s'.nums.length = s.nums.length) (fun s j => writeT P at_ base k j s) (fun b a h => by rw [ih, h]) (partOf P n).kids s rfl
theorem take_foldl {α β : Type} (f : β → α → β) (l : List α) (b : β) {j : Nat} (h : j < l.length) : (l.take (j + 1)).foldl f b = f ((l.take j).foldl f b) l[j] := by
  rw [List.take_succ_eq_append_getElem h, List.foldl_append]
  rfl
theorem foldl_split {α β : Type} (f : β → α → β) (l : List α) (b : β) (j : Nat) : l.foldl f b = (l.drop j).foldl f ((l.take j).foldl f b) := by
  rw [← List.foldl_append, List.take_append_drop]
end Go.Proofs.Ytkonloadedbpkaa.FoldRun
