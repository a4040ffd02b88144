/- What a printed function has made, as lists of one's own. -/
import Derived.Test.YtkonloadedbpkaaNodeMem
namespace Go.Proofs.Ytkonloadedbpkaa.RowsOf
open Go.RowKit Go.Maps Go.Proofs.Ytkonloadedbpkaa.Sep Go.Proofs.Ytkonloadedbpkaa.FoldPure Go.Proofs.Ytkonloadedbpkaa.FoldMem Go.Proofs.Ytkonloadedbpkaa.NodeMem
open Go.Proofs.YtkonloadedbpkaaW.PrintWords
open Go.Proofs.YtkonloadedbpkaaW.PrintLast
set_option linter.unusedVariables false

/-- Two things as one. -/
def bothR (a b : Res) : Res where
  at_ w f := ∃ f1 f2, a.at_ w f1 ∧ b.at_ w f2 ∧ (∀ k, f1 k → f k) ∧ (∀ k, f2 k → f k) ∧ (∀ k, f1 k → ¬ f2 k)
  move := fun ⟨f1, f2, h1, h2, h3, h4, h5⟩ hm => ⟨f1, f2, a.move h1 (fun k hk => hm k (h3 k hk)), b.move h2 (fun k hk => hm k (h4 k hk)), h3, h4, h5⟩
  mono := fun ⟨f1, f2, h1, h2, h3, h4, h5⟩ hm => ⟨f1, f2, h1, h2, fun k hk => hm k (h3 k hk), fun k hk => hm k (h4 k hk), h5⟩
  bound := fun {w f} ⟨f1, f2, h1, h2, h3, h4, h5⟩ => ⟨fun k => f1 k ∧ k < w.heap.size, fun k => f2 k ∧ k < w.heap.size, a.bound h1, b.bound h2, fun k hk => ⟨h3 k hk.1, hk.2⟩, fun k hk => ⟨h4 k hk.1, hk.2⟩, fun k hk hk2 => h5 k hk.1 hk2.1⟩
theorem split {W w : World} {a b : Res} {rs : List Res} (h : Sep W w (bothR a b :: rs)) : Sep W w (a :: b :: rs) := by
  obtain ⟨hB, fp, ⟨f, g, ⟨f1, f2, h1, h2, h3, h4, h5⟩, k2, k3, k4, k5⟩, h6⟩ := h
  refine ⟨hB, fp, ⟨f1, fun k => f2 k ∨ g k, h1, ⟨f2, g, h2, k2, fun k hk hg => k3 k (h4 k hk) hg, fun k hk => ⟨.inl hk, (k4 k (h4 k hk)).2⟩, fun k hk => .inr hk⟩, fun k hk hk2 => ?_, fun k hk => k4 k (h3 k hk), fun k hk => ?_⟩, h6⟩
  · rcases hk2 with hk2 | hk2
    · exact h5 k hk hk2
    · exact k3 k (h3 k hk) hk2
  · rcases hk with hk | hk
    · exact (k4 k (h4 k hk)).1
    · exact k5 k hk
theorem reps_cons {α : Type} {R : α → List Value → Prop} {x : α} {xs : List α} {cs : List Value} (h : Reps R 2 (x :: xs) cs) : ∃ a b t, cs = a :: b :: t ∧ R x [a, b] ∧ Reps R 2 xs t := by
  have hl := h.1
  simp only [List.length_cons] at hl
  match cs, hl with
  | a :: b :: t, hl =>
    refine ⟨a, b, t, rfl, ?_, ?_, fun j p hp => ?_⟩
    · have := h.2 0 x rfl
      simpa using this
    · simp only [List.length_cons] at hl
      omega
    · have := h.2 (j + 1) p (by simpa using hp)
      rw [show (j + 1) * 2 = j * 2 + 1 + 1 by omega] at this
      simpa using this
  | [a], hl => simp at hl; omega
  | [], hl => simp at hl
theorem reps_ints (P : Int → List Value → Prop) (hP : ∀ n cs, P n cs → cs = [.int .i64 n]) : ∀ (ks : List Nat) (cs : List Value), Reps P 1 (ints ks) cs → cs = ks.map nat := by
  intro ks cs h
  apply List.ext_getElem?
  intro j
  rw [List.getElem?_map]
  have hl : cs.length = ks.length := by have := h.1; simpa using this
  cases hx : ks[j]? with
  | none =>
    have := List.getElem?_eq_none_iff.1 hx
    exact List.getElem?_eq_none (by omega)
  | some n =>
    have h2 := hP _ _ (h.2 j (n : Int) (by rw [List.getElem?_map, hx]; rfl))
    rw [Nat.mul_one] at h2
    have h3 : cs[j]? = some (.int .i64 (n : Int)) := by
      have := congrArg (·[0]?) h2
      simp only [List.getElem?_take, List.getElem?_drop] at this
      simpa using this
    rw [h3]
    rfl
theorem items_of {w : World} {base : Nat} {ok : Nat → Prop} : ∀ (l : List Nd) (inner : List Value), Reps (kP.M w base ok) 2 (l.map toP) inner → ∃ items : List PartM, items.map nd = l ∧ inner = nodeCells items ∧ KidsAt w items (fun k => ok k ∧ base ≤ k)
  | [], inner, h => ⟨[], rfl, by
      have := h.1
      simp at this
      rw [this]
      rfl, fun q hq => by simp at hq⟩
  | x :: l, inner, h => by
    obtain ⟨a, b, t, rfl, hx, ht⟩ := reps_cons h
    obtain ⟨items, h1, h2, h3⟩ := items_of l t ht
    obtain ⟨c0, c1, e, m0, m1⟩ := hx
    obtain ⟨v, e1, hR⟩ := m1
    have e0 : c0 = [.string x.1] := m0
    subst e0
    subst e1
    simp only [List.cons_append, List.nil_append, List.cons.injEq, and_true] at e
    obtain ⟨rfl, rfl⟩ := e
    obtain ⟨hok, inner2, ho, hr⟩ := hR
    have hi := reps_ints _ (fun n cs h => h) x.2 inner2 hr
    subst hi
    have hl2 : (toP x).2.length = x.2.length := by simp [toP]
    rw [hl2] at ho
    obtain ⟨A, c, ev, _⟩ := row_slice ho
    subst ev
    refine ⟨⟨⟨x.1, x.2, 0⟩, 0, A, c⟩ :: items, by rw [List.map_cons, h1]; rfl, by rw [h2]; rfl, fun q hq => ?_⟩
    rcases List.mem_cons.1 hq with rfl | hq
    · exact ⟨owns_zero ho, fun k hk => ⟨hok k hk, own_base ho k hk⟩⟩
    · exact h3 q hq
/-- Nodes that a printed function has made. -/
theorem rows_of {W w w' : World} {rs : List Res} (M : Sep W w rs) {l : List Nd} {v : Value} (h : Kd.R kP 27 w' w.heap.size (fun _ => True) v (l.map toP)) (hb : Below w.heap.size w w') :
    ∃ items A c, v = .slice A l.length c ∧ items.map nd = l ∧ items.length = l.length ∧ l.length ≤ c ∧ Sep W w' (rowR 27 2 (.slice A l.length c) l.length (nodeCells items) :: kidsR items :: rs) := by
  obtain ⟨_, inner, ho, hr⟩ := h
  have hsz : kP.sz = 2 := rfl
  rw [hsz] at ho hr
  rw [List.length_map] at ho
  obtain ⟨items, h1, h2, h3⟩ := items_of l inner hr
  obtain ⟨A, c, ev, hc⟩ := row_slice ho
  subst ev
  subst h2
  refine ⟨items, A, c, rfl, h1, by rw [← h1]; simp, hc, split ?_⟩
  refine M.fresh (f := fun k => w.heap.size ≤ k) ⟨hb.os, hb.tape, hb.output, hb.size, fun k hk _ => hb.block k hk⟩ ⟨fun k => (Value.slice A l.length c).ownBlock = some k, fun k => w.heap.size ≤ k ∧ some k ≠ (Value.slice A l.length c).ownBlock, ⟨owns_zero ho, fun k hk => hk⟩, fun q hq => ?_, fun k hk => own_base ho k hk, fun k hk => hk.1, fun k hk hk2 => hk2.2 hk.symm⟩ (fun _ hk => hk)
  obtain ⟨a1, a2⟩ := h3 q hq
  exact ⟨a1, fun k hk => ⟨(a2 k hk).2, (a2 k hk).1.2⟩⟩
theorem iso_R {α β : Type} {d : Kd β} {f : α → β} {e : Nat} {w : World} {base : Nat} {ok : Nat → Prop} {v : Value} {xs : List α} (h : Kd.R (Kd.iso d f) e w base ok v xs) : Kd.R d e w base ok v (xs.map f) := by
  obtain ⟨h0, inner, ho, hr⟩ := h
  refine ⟨h0, inner, by rw [List.length_map]; exact ho, by rw [List.length_map]; exact hr.1, fun j p hp => ?_⟩
  rw [List.getElem?_map] at hp
  obtain ⟨x, hx, rfl⟩ := Option.map_eq_some_iff.1 hp
  exact hr.2 j x hx
end Go.Proofs.Ytkonloadedbpkaa.RowsOf
