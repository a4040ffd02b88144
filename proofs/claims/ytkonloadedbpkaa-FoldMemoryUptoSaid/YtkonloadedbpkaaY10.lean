/- RowsOf, NodesIn, LeastAll, TextsF, Eq16. -/
import Derived.Test.YtkonloadedbpkaaY4
import Derived.Test.YtkonloadedbpkaaRows
import Derived.Test.YtkonloadedbpkaaY9
import Derived.ProofKit
import Derived.OpenShut
import Derived.JoinedCond
import Derived.ShutString
import Derived.ChangeOld
import Derived.Carry
import Derived.SizedLaws
import Derived.SliceStrings
import Derived.Deep.DeepHandedRow
import Derived.Deep.Slices
import Derived.Deep.Fields
import Derived.ChangeSame
import Derived.Test.YtkonloadedbpkaaPFoldLosslessx2
import Derived.Test.YtkonloadedbpkaaY1
import Derived.Test.YtkonloadedbpkaaY5
import Derived.Test.YtkonloadedbpkaaY8
import Derived.Test.YtkonloadedbpkaaPFoldLosslessx0
namespace Go.Proofs.Ytkonloadedbpkaa.RowsOf
open Go.RowKit Go.Maps Go.Proofs.Ytkonloadedbpkaa.Sep Go.Proofs.Ytkonloadedbpkaa.FoldPure Go.Proofs.Ytkonloadedbpkaa.FoldMem Go.Proofs.Ytkonloadedbpkaa.NodeMem
open Go.Proofs.YtkonloadedbpkaaW.PrintWords
open Go.Proofs.YtkonloadedbpkaaW.PrintLast
set_option linter.unusedVariables false

/-- Two things as one. -/
def bothR (a b : Res) : Res where
  at_ w f := ∃ f1 f2, a.at_ w f1 ∧ b.at_ w f2 ∧ (∀ k, f1 k → f k) ∧ (∀ k, f2 k → f k) ∧ (∀ k, f1 k → ¬ f2 k)
  move := fun ⟨f1, f2, h1, h2, h3, h4, h5⟩ hm => ⟨f1, f2, a.move h1 (fun k hk => hm k (h3 k hk)), b.move h2 (fun k hk => hm k (h4 k hk)), h3, h4, h5⟩
  mono := fun ⟨f1, f2, h1, h2, h3, h4, h5⟩ hm => ⟨f1, f2, h1, h2, fun k hk => hm k (h3 k hk), fun k hk => hm k (h4 k hk), h5⟩
  bound := fun {w f} ⟨f1, f2, h1, h2, h3, h4, h5⟩ => ⟨fun k => f1 k ∧ k < w.heap.size, fun k => f2 k ∧ k < w.heap.size, a.bound h1, b.bound h2, fun k hk => ⟨h3 k hk.1, hk.2⟩, fun k hk => ⟨h4 k hk.1, hk.2⟩, fun k hk hk2 => h5 k hk.1 hk2.1⟩
theorem split {W w : World} {a b : Res} {rs : List Res} (h : Sep W w (bothR a b :: rs)) : Sep W w (a :: b :: rs) := by
  obtain ⟨hB, fp, ⟨f, g, ⟨f1, f2, h1, h2, h3, h4, h5⟩, k2, k3, k4, k5⟩, h6⟩ := h
  refine ⟨hB, fp, ⟨f1, fun k => f2 k ∨ g k, h1, ⟨f2, g, h2, k2, fun k hk hg => k3 k (h4 k hk) hg, fun k hk => ⟨.inl hk, (k4 k (h4 k hk)).2⟩, fun k hk => .inr hk⟩, fun k hk hk2 => ?_, fun k hk => k4 k (h3 k hk), fun k hk => ?_⟩, h6⟩
  · rcases hk2 with hk2 | hk2
    · exact h5 k hk hk2
    · exact k3 k (h3 k hk) hk2
  · rcases hk with hk | hk
    · exact (k4 k (h4 k hk)).1
    · exact k5 k hk
theorem reps_cons {α : Type} {R : α → List Value → Prop} {x : α} {xs : List α} {cs : List Value} (h : Reps R 2 (x :: xs) cs) : ∃ a b t, cs = a :: b :: t ∧ R x [a, b] ∧ Reps R 2 xs t := by
  have hl := h.1
  simp only [List.length_cons] at hl
  match cs, hl with
  | a :: b :: t, hl =>
    refine ⟨a, b, t, rfl, ?_, ?_, fun j p hp => ?_⟩
    · have := h.2 0 x rfl
      simpa using this
    · simp only [List.length_cons] at hl
      omega
    · have := h.2 (j + 1) p (by simpa using hp)
      rw [show (j + 1) * 2 = j * 2 + 1 + 1 by omega] at this
      simpa using this
  | [a], hl => simp at hl; omega
  | [], hl => simp at hl
theorem reps_ints (P : Int → List Value → Prop) (hP : ∀ n cs, P n cs → cs = [.int .i64 n]) : ∀ (ks : List Nat) (cs : List Value), Reps P 1 (ints ks) cs → cs = ks.map nat := by
  intro ks cs h
  apply List.ext_getElem?
  intro j
  rw [List.getElem?_map]
  have hl : cs.length = ks.length := by have := h.1; simpa using this
  cases hx : ks[j]? with
  | none =>
    have := List.getElem?_eq_none_iff.1 hx
    exact List.getElem?_eq_none (by omega)
  | some n =>
    have h2 := hP _ _ (h.2 j (n : Int) (by rw [List.getElem?_map, hx]; rfl))
    rw [Nat.mul_one] at h2
    have h3 : cs[j]? = some (.int .i64 (n : Int)) := by
      have := congrArg (·[0]?) h2
      simp only [List.getElem?_take, List.getElem?_drop] at this
      simpa using this
    rw [h3]
    rfl
theorem items_of {w : World} {base : Nat} {ok : Nat → Prop} : ∀ (l : List Nd) (inner : List Value), Reps (kP.M w base ok) 2 (l.map toP) inner → ∃ items : List PartM, items.map nd = l ∧ inner = nodeCells items ∧ KidsAt w items (fun k => ok k ∧ base ≤ k)
  | [], inner, h => ⟨[], rfl, by
      have := h.1
      simp at this
      rw [this]
      rfl, fun q hq => by simp at hq⟩
  | x :: l, inner, h => by
    obtain ⟨a, b, t, rfl, hx, ht⟩ := reps_cons h
    obtain ⟨items, h1, h2, h3⟩ := items_of l t ht
    obtain ⟨c0, c1, e, m0, m1⟩ := hx
    obtain ⟨v, e1, hR⟩ := m1
    have e0 : c0 = [.string x.1] := m0
    subst e0
    subst e1
    simp only [List.cons_append, List.nil_append, List.cons.injEq, and_true] at e
    obtain ⟨rfl, rfl⟩ := e
    obtain ⟨hok, inner2, ho, hr⟩ := hR
    have hi := reps_ints _ (fun n cs h => h) x.2 inner2 hr
    subst hi
    have hl2 : (toP x).2.length = x.2.length := by simp [toP]
    rw [hl2] at ho
    obtain ⟨A, c, ev, _⟩ := row_slice ho
    subst ev
    refine ⟨⟨⟨x.1, x.2, 0⟩, 0, A, c⟩ :: items, by rw [List.map_cons, h1]; rfl, by rw [h2]; rfl, fun q hq => ?_⟩
    rcases List.mem_cons.1 hq with rfl | hq
    · exact ⟨owns_zero ho, fun k hk => ⟨hok k hk, own_base ho k hk⟩⟩
    · exact h3 q hq
/-- Nodes that a printed function has made. -/
theorem rows_of {W w w' : World} {rs : List Res} (M : Sep W w rs) {l : List Nd} {v : Value} (h : Kd.R kP 27 w' w.heap.size (fun _ => True) v (l.map toP)) (hb : Below w.heap.size w w') :
    ∃ items A c, v = .slice A l.length c ∧ items.map nd = l ∧ items.length = l.length ∧ l.length ≤ c ∧ Sep W w' (rowR 27 2 (.slice A l.length c) l.length (nodeCells items) :: kidsR items :: rs) := by
  obtain ⟨_, inner, ho, hr⟩ := h
  have hsz : kP.sz = 2 := rfl
  rw [hsz] at ho hr
  rw [List.length_map] at ho
  obtain ⟨items, h1, h2, h3⟩ := items_of l inner hr
  obtain ⟨A, c, ev, hc⟩ := row_slice ho
  subst ev
  subst h2
  refine ⟨items, A, c, rfl, h1, by rw [← h1]; simp, hc, split ?_⟩
  refine M.fresh (f := fun k => w.heap.size ≤ k) ⟨hb.os, hb.tape, hb.output, hb.size, fun k hk _ => hb.block k hk⟩ ⟨fun k => (Value.slice A l.length c).ownBlock = some k, fun k => w.heap.size ≤ k ∧ some k ≠ (Value.slice A l.length c).ownBlock, ⟨owns_zero ho, fun k hk => hk⟩, fun q hq => ?_, fun k hk => own_base ho k hk, fun k hk => hk.1, fun k hk hk2 => hk2.2 hk.symm⟩ (fun _ hk => hk)
  obtain ⟨a1, a2⟩ := h3 q hq
  exact ⟨a1, fun k hk => ⟨(a2 k hk).2, (a2 k hk).1.2⟩⟩
theorem iso_R {α β : Type} {d : Kd β} {f : α → β} {e : Nat} {w : World} {base : Nat} {ok : Nat → Prop} {v : Value} {xs : List α} (h : Kd.R (Kd.iso d f) e w base ok v xs) : Kd.R d e w base ok v (xs.map f) := by
  obtain ⟨h0, inner, ho, hr⟩ := h
  refine ⟨h0, inner, by rw [List.length_map]; exact ho, by rw [List.length_map]; exact hr.1, fun j p hp => ?_⟩
  rw [List.getElem?_map] at hp
  obtain ⟨x, hx, rfl⟩ := Option.map_eq_some_iff.1 hp
  exact hr.2 j x hx
end Go.Proofs.Ytkonloadedbpkaa.RowsOf

namespace Go.Proofs.Ytkonloadedbpkaa.NodesIn
open Go.ChangeShapes Go.WideShapes Go.ChangeAt Go.RowKit Go.Deep
open Go.Proofs.Ytkonloadedbpkaa.FoldMem
open Go.Proofs.YtkonloadedbpkaaW.PrintWords
set_option linter.unusedVariables false

/-- An argument that is a slice of structs of one-cell fields. -/
theorem open_slice_fields {H : Type} {enc : TypeId × Value → H} {P : Program} {w : World} {base : Nat} {spare : Nat → Bool} {held : Bool} {t e : TypeId} {fs : Array Field} {fuel : Nat} {cs : List Value} {x : DataW H × List MemPlace} (ht : P.underlying t = some (.slice e)) (he : P.underlying e = some (.struct fs))
    (hone : oneCellFields P fs = true) (hC : P.cellsOf e = fs.size) (h : DataW.trod enc P w base spare held fuel t cs = some x) :
    (cs = [.slice none 0 0] ∧ x = (.nil, [])) ∨
    ∃ (a : Addr) (len cap m : Nat) (D : Nat → DataW H) (Pl : Nat → List MemPlace), cs = [.slice (some a) len cap] ∧ base ≤ a.block ∧ len ≤ cap ∧ cap ≤ maxLen ∧ m = (if spare a.block then cap else len) ∧
      x = (.slice ((List.range len).map D) ((List.range (m - len)).map fun j => D (len + j)), MemPlace.row a (m * fs.size) ++ (List.range m).flatMap Pl) ∧
      ∀ i, i < m → ∃ (ys : List (DataW H × List MemPlace)) (n : Nat), D i = .agg (ys.map (·.1)) ∧ Pl i = ys.flatMap (·.2) ∧ ys.length = fs.size ∧
        ∀ (j : Nat) (f : Field), fs[j]? = some f → ∃ (v : Value) (y : DataW H × List MemPlace), w.cell? (a.add (i * fs.size + j)) = some v ∧ ys[j]? = some y ∧ DataW.trod enc P w base spare held n f.type [v] = some y := by
  rcases open_slice ht h with h0 | ⟨a, len, cap, m, n, D, Pl, hcs, hb, hl, hm, hmm, hx, hi⟩
  · exact .inl h0
  · refine .inr ⟨a, len, cap, m, D, Pl, hcs, hb, hl, hm, hmm, by rw [hC] at hx; exact hx, fun i him => ?_⟩
    obtain ⟨cs', hc, ht'⟩ := hi i him
    rw [hC] at hc
    obtain ⟨ys, n', hn', hy, hlen, hyl, hf⟩ := DataW.trod_struct he ht'
    obtain ⟨_, hcl, hat⟩ := World.cells?_some hc
    simp only [Prod.mk.injEq] at hy
    refine ⟨ys, n', hy.1, hy.2, hyl, fun j f hj => ?_⟩
    obtain ⟨ho, hk⟩ := hone_of hone j f hj
    have hjl : j < fs.size := (Array.getElem?_eq_some_iff.1 hj).1
    have hcell := hat j hjl
    have hv : cs'[j]? = some (cs'[j]'(by omega)) := List.getElem?_eq_getElem (by omega)
    have h1 := hf j f hj
    rw [ho, hk] at h1
    have hone' : (cs'.drop j).take 1 = [cs'[j]'(by omega)] := by
      rw [List.drop_eq_getElem_cons (by omega)]
      rfl
    rw [hone'] at h1
    have hys : ys[j]? = some (ys[j]'(by omega)) := List.getElem?_eq_getElem (by omega)
    refine ⟨_, _, ?_, hys, h1.trans hys⟩
    rw [← Go.Deep.add_add, hcell, hv]

/-- What a slice of numbers that came in reads as, and how long it may be. -/
theorem ints_open {H : Type} {enc : TypeId × Value → H} {W : World} {base : Nat} {spare : Nat → Bool} {held : Bool} {fuel : Nat} {cs : List Value} {x : DataW H × List MemPlace}
    (hf : DataW.trod enc Try.prog W base spare held fuel 25 cs = some x) : ∃ (a : Option Addr) (zs : List Int) (cap : Nat), cs = [.slice a zs.length cap] ∧ zs.length ≤ cap ∧ Kd.C (Kd.int .i64) W a zs.length zs ∧ zs.length ≤ Rows.uptoBulk x.1 := by
  rcases open_ints Try.underlying25 Try.underlying3 (by kernel_rfl) hf with ⟨hcs, _⟩ | ⟨ad, len, cap, zs, hcs, _, hl, hm, hz, hx, hcell, hwz⟩
  · exact ⟨none, [], 0, hcs, Nat.le_refl _, Kd.C_nil _ _, by simp⟩
  · subst hx
    have hz' : len ≤ zs.length := by
      rw [hz]
      split
      · exact hl
      · exact Nat.le_refl _
    have hlen : (zs.take len).length = len := by rw [List.length_take]; omega
    refine ⟨some ad, zs.take len, cap, by rw [hlen]; exact hcs, by omega, ?_, ?_⟩
    · refine ⟨rfl, by rw [hlen]; unfold maxLen at hm; omega, fun _ => ⟨ad, rfl, fun j p hj => ⟨[.int .i64 p], rfl, rfl, fun i u hu => ?_⟩⟩⟩
      have hi : i = 0 := by
        have := (List.getElem?_eq_some_iff.1 hu).1
        simpa using this
      subst hi
      have hu' : u = .int .i64 p := by simpa using hu.symm
      subst hu'
      have hj' := (List.getElem?_eq_some_iff.1 hj).1
      rw [List.length_take] at hj'
      have hc := hcell j (by omega)
      rw [List.getElem?_take] at hj
      split at hj
      · have : zs.getD j 0 = p := by rw [List.getD_eq_getElem?_getD, hj]; rfl
        rw [this] at hc
        rw [show j * (Kd.int .i64).sz + 0 = j from by show j * 1 + 0 = j; omega]
        exact hc
      · cases hj
    · have h1 := bulks.slice_le (H := H) (lits .i64 (zs.take len)) (lits .i64 (zs.drop len))
      have h2 : (lits (H := H) .i64 (zs.take len)).length = (zs.take len).length := by simp [lits]
      show _ ≤ Rows.uptoBulk (DataW.slice _ _)
      omega
theorem sum_le {H : Type} (D : Nat → DataW H) (f : Nat → Nat) : ∀ n, (∀ i, i < n → f i ≤ Rows.uptoBulk (D i)) → ((List.range n).map f).sum ≤ Rows.uptoBulkAll ((List.range n).map D) := by
  intro n
  induction n with
  | zero => intro _; simp [Rows.uptoBulkAll]
  | succ n ih =>
    intro h
    rw [List.range_succ, List.map_append, List.map_append, List.sum_append, bulks.append]
    have h1 := ih (fun i hi => h i (by omega))
    have h2 := h n (by omega)
    simp only [List.map_cons, List.map_nil, List.sum_cons, List.sum_nil, Rows.uptoBulkAll]
    omega
/-- What a slice of nodes that came in reads as. -/
theorem nodes_in {H : Type} {enc : TypeId × Value → H} {W : World} {base : Nat} {spare : Nat → Bool} {held : Bool} {a : Option Addr} {len cap : Nat} {d : DataW H} {ps : List MemPlace}
    (h : DataW.Trod enc Try.prog W base spare held 24 (.slice a len cap) d ps) : ∃ zs : List (ByteArray × List Int), zs.length = len ∧ len ≤ cap ∧ (a = none → zs.length = 0 ∧ cap = 0) ∧ Kd.C kP W a zs.length zs ∧ (∀ z ∈ zs, z.1.size ≤ maxLen) ∧
      zs.length ≤ Rows.uptoBulk d ∧ (zs.map (·.2.length)).sum ≤ Rows.uptoBulk d ∧ ∀ z ∈ zs, z.1.size + 1 ≤ Rows.uptoBulk d := by
  obtain ⟨fuel, hf⟩ := h
  rcases open_slice_fields Try.underlying24 Try.underlying27 (by kernel_rfl) (by kernel_rfl) hf with ⟨hcs, _⟩ | ⟨x, l, c, m, D, Pl, hcs, _, hl, hm, hmm, hx, hi⟩
  · simp [Value.cells] at hcs
    obtain ⟨rfl, rfl, rfl⟩ := hcs
    exact ⟨[], rfl, Nat.le_refl _, fun _ => ⟨rfl, rfl⟩, ⟨rfl, by simp, fun h => absurd h (by simp)⟩, fun z hz => by simp at hz, by simp, by simp, fun z hz => by simp at hz⟩
  · simp [Value.cells] at hcs
    obtain ⟨rfl, rfl, rfl⟩ := hcs
    obtain ⟨hx, _⟩ := Prod.mk.inj hx
    subst hx
    have hlm : len ≤ m := by
      rw [hmm]
      split
      · exact hl
      · exact Nat.le_refl _
    have each : ∀ i : Nat, ∃ z : ByteArray × List Int, i < m → ∃ (b : Option Addr) (c : Nat), W.cell? (x.add (i * 2)) = some (.string z.1) ∧ W.cell? (x.add (i * 2 + 1)) = some (.slice b z.2.length c) ∧ z.2.length ≤ c ∧ Kd.C (Kd.int .i64) W b z.2.length z.2 ∧ z.1.size ≤ maxLen ∧ z.2.length ≤ Rows.uptoBulk (D i) ∧ z.1.size + 1 ≤ Rows.uptoBulk (D i) := by
      intro i
      by_cases him : i < m
      · obtain ⟨ys, n, hD, _, _, hf⟩ := hi i him
        obtain ⟨v0, y0, hc0, hy0, ht0⟩ := hf 0 _ rfl
        obtain ⟨v1, y1, hc1, hy1, ht1⟩ := hf 1 _ rfl
        obtain ⟨s, e0, e0b, hs⟩ := DataW.trod_string Try.underlying9 ht0
        obtain ⟨b, zs, cc, e1, hcc, hC, hb⟩ := ints_open ht1
        simp only [List.cons.injEq, and_true] at e0 e1
        subst e0 e1
        have hm0 : y0.1 ∈ ys.map (·.1) := List.mem_map_of_mem (List.mem_of_getElem? hy0)
        have hm1 : y1.1 ∈ ys.map (·.1) := List.mem_map_of_mem (List.mem_of_getElem? hy1)
        have b0 := bulks.part_le hm0
        have b1 := bulks.part_le hm1
        have hag : Rows.uptoBulkAll (ys.map (·.1)) ≤ Rows.uptoBulk (D i) := by
          rw [hD]
          simp only [Rows.uptoBulk]
          omega
        have hy0b : Rows.uptoBulk y0.1 = s.size + 1 := by
          subst e0b
          rw [bulks.string_eq, Array.length_toList]
          rfl
        exact ⟨(s, zs), fun _ => ⟨b, cc, hc0, hc1, hcc, hC, hs, by show zs.length ≤ _; omega, by show s.size + 1 ≤ _; omega⟩⟩
      · exact ⟨(ByteArray.empty, []), fun h => absurd h him⟩
    obtain ⟨f, hf'⟩ := Classical.axiomOfChoice each
    have hlen : ((List.range len).map f).length = len := by simp
    have hse := bulks.slice_elems ((List.range len).map D) ((List.range (m - len)).map fun j => D (len + j))
    have hsl := bulks.slice_le ((List.range len).map D) ((List.range (m - len)).map fun j => D (len + j))
    have hsum := sum_le D (fun i => (f i).2.length) len (fun i hil => by obtain ⟨_, _, _, _, _, _, _, hb, _⟩ := hf' i (by omega); exact hb)
    refine ⟨(List.range len).map f, hlen, hl, (fun h => by cases h), ⟨rfl, by rw [hlen]; unfold maxLen at hm; omega, fun _ => ⟨x, rfl, fun j p hj => ?_⟩⟩, fun z hz => ?_, ?_, ?_, fun z hz => ?_⟩
    · have hj' := (List.getElem?_eq_some_iff.1 hj).1
      rw [hlen] at hj'
      have hp' : p = f j := by
        have := hj
        simp [hj'] at this
        exact this.symm
      subst hp'
      obtain ⟨b, c', h0, h1, h2, h3, _⟩ := hf' j (by omega)
      refine ⟨[.string (f j).1, .slice b (f j).2.length c'], rfl, ⟨[.string (f j).1], [.slice b (f j).2.length c'], rfl, rfl, ⟨b, c', rfl, h2, h3⟩⟩, fun i u hu => ?_⟩
      match i, hu with
      | 0, hu =>
        simp at hu
        subst hu
        exact h0
      | 1, hu =>
        simp at hu
        subst hu
        exact h1
      | i + 2, hu => simp at hu
    · obtain ⟨i, hil, rfl⟩ := List.mem_map.1 hz
      have hil' := List.mem_range.1 hil
      obtain ⟨_, _, _, _, _, _, hs, _⟩ := hf' i (by omega)
      exact hs
    · rw [hlen]
      simp only [List.length_map, List.length_range] at hsl
      omega
    · rw [List.map_map]
      have e : ((fun z : ByteArray × List Int => z.2.length) ∘ f) = fun i => (f i).2.length := rfl
      rw [e]
      omega
    · obtain ⟨i, hil, rfl⟩ := List.mem_map.1 hz
      have hil' := List.mem_range.1 hil
      obtain ⟨_, _, _, _, _, _, _, _, hb⟩ := hf' i (by omega)
      have hp := bulks.part_le (H := H) (d := D i) (l := (List.range len).map D) (List.mem_map.2 ⟨i, hil, rfl⟩)
      omega
theorem iso_C {α β : Type} {d : Kd β} {f : α → β} {g : β → α} (hfg : ∀ x, f (g x) = x) {w : World} {A : Option Addr} {n : Nat} {xs : List β} (h : Kd.C d w A n xs) : Kd.C (Kd.iso d f) w A n (xs.map g) := by
  obtain ⟨h1, h2, h3⟩ := h
  refine ⟨by rw [List.length_map]; exact h1, h2, fun hn => ?_⟩
  obtain ⟨ad, e, hc⟩ := h3 hn
  refine ⟨ad, e, fun j p hp => ?_⟩
  rw [List.getElem?_map] at hp
  obtain ⟨x, hx, rfl⟩ := Option.map_eq_some_iff.1 hp
  obtain ⟨c, hl, hK, hcell⟩ := hc j x hx
  exact ⟨c, hl, by show d.K w (f (g x)) c; rw [hfg]; exact hK, hcell⟩
end Go.Proofs.Ytkonloadedbpkaa.NodesIn

namespace Go.Proofs.Ytkonloadedbpkaa.NamedP
open Go.RowKit Go.Proofs.Ytkonloadedbpkaa.PFoldLossless Go.Proofs.Ytkonloadedbpkaa.FoldPure Go.Proofs.Ytkonloadedbpkaa.FoldMem Go.Proofs.Ytkonloadedbpkaa.Gather
open Go.Proofs.YtkonloadedbpkaaW.PrintWords
set_option linter.unusedVariables false

/-- From some number of rounds on it answers r. -/
def EvS {α : Type} (g : Nat → Option α) (r : α) : Prop := ∃ K, ∀ k, K ≤ k → g k = some r
theorem EvS.step {α : Type} {g h : Nat → Option α} {r : α} (H : EvS h r) (e : ∀ k, g (k + 1) = h k) : EvS g r := by
  obtain ⟨K, hK⟩ := H
  refine ⟨K + 1, fun k hk => ?_⟩
  obtain ⟨k, rfl⟩ : ∃ m, k = m + 1 := ⟨k - 1, by omega⟩
  rw [e]
  exact hK k (by omega)
theorem EvS.some {α : Type} {g : Nat → Option α} {r : α} (e : ∀ k, g (k + 1) = some r) : EvS g r := ⟨1, fun k hk => by
  obtain ⟨k, rfl⟩ : ∃ m, k = m + 1 := ⟨k - 1, by omega⟩
  exact e k⟩
theorem wrap_in {i : Int} (h0 : -1 ≤ i) (h : i ≤ 9007199254740992) : wrap64 i = i := by unfold wrap64; omega
def toL (x : Nd) : S27 := ⟨x.1, ints x.2⟩
def sS : ByteArray := ⟨#[115]⟩
def tS : ByteArray := ⟨#[116]⟩
def iS : ByteArray := ⟨#[105]⟩
def labI (b : ByteArray) : Nat → ByteArray
  | 0 => b
  | n + 1 => labI b n ++ iS
theorem labI_size (b : ByteArray) : ∀ n, (labI b n).size = b.size + n
  | 0 => rfl
  | n + 1 => by
    show (labI b n ++ iS).size = _
    rw [ByteArray.size_append, labI_size b n]
    rfl
def baseL (s : ByteArray) : ByteArray := if 0 < s.size ∧ Int.tmod (bt s 0) 2 = 0 then tS else sS
def kidN (i : Nat) (k : Int) : Nat := if k < 0 ∨ k ≥ i then i - 1 else k.toNat
def kidsN (i : Nat) (ks : List Int) : List Nat := if i = 0 then [] else ks.map (kidN i)
def namedN (i : Nat) (x : S27) : Nd := if (kidsN i x.f1).length = x.f1.length then (labI (baseL x.f0) x.f1.length, kidsN i x.f1) else (sS, [])
def namedTo (l : List S27) : Nat → List Nd
  | 0 => []
  | i + 1 => namedTo l i ++ [namedN i (rd_T27 l i)]
theorem namedTo_len (l : List S27) : ∀ i, (namedTo l i).length = i
  | 0 => rfl
  | i + 1 => by
    rw [namedTo, List.length_append, namedTo_len l i]
    rfl
theorem namedTo_at (l : List S27) {j : Nat} : ∀ {i : Nat}, j < i → (namedTo l i)[j]? = some (namedN j (rd_T27 l j))
  | i + 1, h => by
    rw [namedTo]
    by_cases e : j = i
    · subst e
      rw [List.getElem?_append_right (by rw [namedTo_len]; exact Nat.le_refl _), namedTo_len]
      simp
    · rw [List.getElem?_append_left (by rw [namedTo_len]; omega)]
      exact namedTo_at l (by omega)
theorem kidsN_take {i : Nat} (hi : 0 < i) (ks : List Int) {j : Nat} (hj : j < ks.length) : ints (kidsN i (ks.take (j + 1))) = ints (kidsN i (ks.take j)) ++ [((kidN i ks[j] : Nat) : Int)] := by
  unfold kidsN
  rw [if_neg (by omega), if_neg (by omega), List.take_succ_eq_append_getElem hj]
  show List.map _ (List.map _ (_ ++ _)) = _
  rw [List.map_append, List.map_append]
  rfl
theorem kids0 (ks : List Int) : kidsN 0 ks = [] := rfl
theorem rd_at (ks : List Int) {j : Nat} (hj : j < ks.length) : rd ks (j : Int) = ks[j] := by simp [rd, hj]
/-- A node's kids. -/
theorem named_kids (l : List S27) (x3 : List S27) (i : Nat) (b : ByteArray) (hb : b.size ≤ 1) (r : List S27) (hi : i < l.length) (hl : l.length ≤ 4194304) (h3 : x3.length ≤ 4194304) (hk : (rd_T27 l i).f1.length ≤ 4194304)
    (hn : EvS (fun k => lemmalaw16_named.l0 k l (x3 ++ [toL (if (kidsN i (rd_T27 l i).f1).length = (rd_T27 l i).f1.length then (labI b (rd_T27 l i).f1.length, kidsN i (rd_T27 l i).f1) else (sS, []))]) ((i : Int) + 1)) r) :
    ∀ (d j : Nat), j ≤ (rd_T27 l i).f1.length → (rd_T27 l i).f1.length - j = d → EvS (fun k => lemmalaw16_named.l1 k l x3 i j (labI b j) (ints (kidsN i ((rd_T27 l i).f1.take j)))) r := by
  generalize hks : (rd_T27 l i).f1 = ks at hk hn
  intro d
  induction d with
  | zero =>
    intro j hj hd
    have hje : j = ks.length := by omega
    subst hje
    refine hn.step fun k => ?_
    rw [List.take_length]
    conv => lhs; unfold lemmalaw16_named.l1
    simp only [hks]
    rw [if_pos (by omega), if_pos (by omega), if_neg (by omega)]
    have hlen : ((ints (kidsN i ks)).length : Int) = ((kidsN i ks).length : Int) := by simp
    rw [hlen, wrap_in (by omega) (by omega)]
    by_cases e : (kidsN i ks).length = ks.length
    · rw [if_pos (by omega), if_pos (by omega), if_pos e]
      rfl
    · rw [if_neg (by omega), if_pos (by omega), if_neg e]
      rfl
  | succ d ih =>
    intro j hj hd
    have hlt : j < ks.length := by omega
    have hnext := ih (j + 1) (by omega) (by omega)
    have hsz := labI_size b j
    have hkl : (kidsN i (ks.take j)).length ≤ 4194304 := by
      unfold kidsN
      split
      · simp
      · simp; omega
    have hjj : Aside0 (wrap64 ((j : Int) + 1) = ((j + 1 : Nat) : Int)) := ⟨by rw [wrap_in (by omega) (by omega)]; omega⟩
    -- the second half of the round
    have hj4 : ∀ (b4 : Bool), b4 = decide (ks[j] < 0 ∨ ks[j] ≥ (i : Int)) → EvS (fun k => lemmalaw16_named.j4 k l x3 i j ks[j] b4 (labI b j ++ iS) (ints (kidsN i (ks.take j)))) r := by
      intro b4 hb4
      refine hnext.step fun k => ?_
      conv => lhs; unfold lemmalaw16_named.j4
      rw [hjj.out]
      rcases Nat.eq_zero_or_pos i with h0 | h0
      · subst h0
        have hbt : b4 = true := by rw [hb4]; simp; omega
        rw [if_pos hbt, if_neg (by rw [wrap_in (by omega) (by omega)]; omega)]
        rw [kids0, kids0]
        rfl
      · have hint : (ints (kidsN i (ks.take j))).length = (kidsN i (ks.take j)).length := by simp
        rw [kidsN_take h0 ks hlt]
        by_cases hc : ks[j] < 0 ∨ ks[j] ≥ (i : Int)
        · have hbt : b4 = true := by rw [hb4]; exact decide_eq_true hc
          have hkid : (i : Int) - 1 = ((kidN i ks[j] : Nat) : Int) := by unfold kidN; rw [if_pos hc]; omega
          rw [if_pos hbt, wrap_in (by omega) (by omega), if_pos (by omega), if_pos (by rw [hint]; omega), hkid]
          rfl
        · have hbt : b4 = false := by rw [hb4]; exact decide_eq_false hc
          have hkid : ks[j] = ((kidN i ks[j] : Nat) : Int) := by unfold kidN; rw [if_neg hc]; omega
          rw [if_neg (by rw [hbt]; simp), if_pos (by omega), if_pos (by rw [hint]; omega)]
          conv => lhs; rw [hkid]
          rfl
    by_cases hneg : ks[j] < 0
    · refine (hj4 true (by simp [hneg])).step fun k => ?_
      conv => lhs; unfold lemmalaw16_named.l1
      simp only [hks]
      rw [if_pos (by omega), if_pos (by omega), if_pos (by omega), if_pos (by rw [hsz]; omega), if_pos (by omega), rd_at ks hlt, if_pos hneg]
      rfl
    · refine (hj4 (decide (ks[j] ≥ (i : Int))) (by simp [hneg])).step fun k => ?_
      conv => lhs; unfold lemmalaw16_named.l1
      simp only [hks]
      rw [if_pos (by omega), if_pos (by omega), if_pos (by omega), if_pos (by rw [hsz]; omega), if_pos (by omega), rd_at ks hlt, if_neg hneg]
      rfl
theorem base_ev (l x3 : List S27) (i : Nat) (r : List S27) (c : Bool) (h : EvS (fun k => lemmalaw16_named.j2 k l x3 i (if c = true then tS else sS)) r) : EvS (fun k => lemmalaw16_named.j1 k l x3 i c sS) r := by
  refine h.step fun k => ?_
  conv => lhs; unfold lemmalaw16_named.j1
  cases c <;> rfl
theorem named_ev (l : List S27) (hl : l.length ≤ 4194304) (hk : ∀ i, (rd_T27 l (i : Nat)).f1.length ≤ 4194304) : ∀ (d i : Nat), i ≤ l.length → l.length - i = d → EvS (fun k => lemmalaw16_named.l0 k l ((namedTo l i).map toL) i) ((namedTo l l.length).map toL) := by
  intro d
  induction d with
  | zero =>
    intro i hi hd
    have hie : i = l.length := by omega
    subst hie
    refine EvS.some fun k => ?_
    conv => lhs; unfold lemmalaw16_named.l0
    rw [if_neg (by omega)]
  | succ d ih =>
    intro i hi hd
    have hlt : i < l.length := by omega
    have hnext := ih (i + 1) (by omega) (by omega)
    have h3 : ((namedTo l i).map toL).length ≤ 4194304 := by rw [List.length_map, namedTo_len]; omega
    have hfin : ∀ b : ByteArray, b.size ≤ 1 → b = baseL (rd_T27 l (i : Int)).f0 → EvS (fun k => lemmalaw16_named.j2 k l ((namedTo l i).map toL) i b) ((namedTo l l.length).map toL) := by
      intro b hb hbe
      have h := named_kids l ((namedTo l i).map toL) i b hb ((namedTo l l.length).map toL) hlt hl h3 (hk i) (by
        have e : (namedTo l (i + 1)).map toL = (namedTo l i).map toL ++ [toL (if (kidsN i (rd_T27 l i).f1).length = (rd_T27 l i).f1.length then (labI b (rd_T27 l i).f1.length, kidsN i (rd_T27 l i).f1) else (sS, []))] := by
          rw [namedTo, List.map_append, hbe]
          rfl
        rw [← e]
        exact hnext) _ 0 (by omega) rfl
      refine h.step fun k => ?_
      conv => lhs; unfold lemmalaw16_named.j2
      have e0 : ints (kidsN i ((rd_T27 l i).f1.take 0)) = [] := by
        unfold kidsN
        split <;> rfl
      rw [e0]
      rfl
    by_cases hs : ((rd_T27 l (i : Int)).f0.size : Int) > 0
    · refine (base_ev l _ i _ (Int.tmod (bt (rd_T27 l (i : Int)).f0 0) 2 == 0) (hfin _ ?_ ?_)).step fun k => ?_
      · split
        · decide
        · decide
      · unfold baseL
        by_cases hc : Int.tmod (bt (rd_T27 l (i : Int)).f0 0) 2 = 0
        · rw [if_pos (by simpa using hc), if_pos ⟨by omega, hc⟩]
        · rw [if_neg (by simpa using hc), if_neg (fun h => hc h.2)]
      · conv => lhs; unfold lemmalaw16_named.l0
        rw [if_pos (by omega), if_pos (by omega), if_pos hs, if_pos (by omega)]
        rfl
    · refine (base_ev l _ i _ false (hfin _ (by decide) ?_)).step fun k => ?_
      · have hc : ¬ (0 < (rd_T27 l (i : Int)).f0.size ∧ Int.tmod (bt (rd_T27 l (i : Int)).f0 0) 2 = 0) := fun h => hs (by have := h.1; omega)
        show sS = baseL _
        unfold baseL
        rw [if_neg hc]
      · conv => lhs; unfold lemmalaw16_named.l0
        rw [if_pos (by omega), if_pos (by omega), if_neg hs]
        rfl
theorem named_f (l : List S27) (hl : l.length ≤ 4194304) (hk : ∀ i, (rd_T27 l (i : Nat)).f1.length ≤ 4194304) : ∃ k, lemmalaw16_named.f k l = some ((namedTo l l.length).map toL) := by
  obtain ⟨K, h⟩ := named_ev l hl hk l.length 0 (by omega) (by omega)
  exact ⟨K, h K (Nat.le_refl _)⟩
/-! ### what they are -/
def namedL (l : List S27) : List Nd := namedTo l l.length
theorem namedL_len (l : List S27) : (namedL l).length = l.length := namedTo_len l _
theorem kidN_lt {i : Nat} (h : 0 < i) (k : Int) : kidN i k < i := by
  unfold kidN
  split <;> omega
theorem named_valid (l : List S27) : Valid (namedL l) := by
  intro i x hx k hk
  have hi : i < l.length := by
    have := (List.getElem?_eq_some_iff.1 hx).1
    rwa [namedL_len] at this
  have := namedTo_at l hi
  rw [namedL] at hx
  rw [this] at hx
  cases hx
  unfold namedN at hk
  split at hk
  · unfold kidsN at hk
    split at hk
    · simp at hk
    · obtain ⟨m, _, rfl⟩ := List.mem_map.1 hk
      exact kidN_lt (by omega) m
  · simp at hk
/-- A label tells how many kids the node has. -/
theorem named_lab (l : List S27) : ∀ x ∈ namedL l, ∃ b, (b = sS ∨ b = tS) ∧ x.1 = labI b x.2.length := by
  intro x hx
  obtain ⟨i, hi, rfl⟩ := List.mem_iff_getElem.1 hx
  rw [namedL_len] at hi
  have := namedTo_at l hi
  have e : (namedL l)[i]'(by rw [namedL_len]; exact hi) = namedN i (rd_T27 l i) := by
    have h2 : (namedL l)[i]? = some (namedN i (rd_T27 l i)) := this
    rw [List.getElem?_eq_getElem (by rw [namedL_len]; exact hi)] at h2
    exact Option.some.inj h2
  rw [e]
  unfold namedN
  split
  · rename_i h
    refine ⟨baseL (rd_T27 l i).f0, ?_, by rw [h]⟩
    unfold baseL
    split
    · exact .inr rfl
    · exact .inl rfl
  · exact ⟨sS, .inl rfl, rfl⟩
theorem named_kids_le (l : List S27) {i : Nat} (hi : i < l.length) : (namedN i (rd_T27 l i)).2.length ≤ (rd_T27 l i).f1.length := by
  unfold namedN
  split
  · rename_i h
    exact Nat.le_of_eq h
  · simp
end Go.Proofs.Ytkonloadedbpkaa.NamedP

namespace Go.Proofs.Ytkonloadedbpkaa.FoldBack
open Go.RowKit Go.Proofs.Ytkonloadedbpkaa.FoldPure Go.Proofs.Ytkonloadedbpkaa.FoldRun Go.Proofs.Ytkonloadedbpkaa.Gather Go.Proofs.Ytkonloadedbpkaa.Reached Go.Proofs.Ytkonloadedbpkaa.NodesPure Go.Proofs.Ytkonloadedbpkaa.FoldFacts Go.Proofs.Ytkonloadedbpkaa.FoldCount Go.Proofs.Ytkonloadedbpkaa.FoldExact Go.Proofs.Ytkonloadedbpkaa.FoldSame
set_option linter.unusedVariables false
set_option linter.unusedSimpArgs false

def big (base : Nat) (cs : List Int) : Nat := cs.countP (fun c => decide ((base : Int) ≤ c))
/-- Every save stands behind a code that is none. -/
def Shape (cs : List Int) : Prop := ∀ i, cs[i]? = some (-1) → 0 < i ∧ ∃ c, cs[i - 1]? = some c ∧ 0 ≤ c
structure Back (P : List Part) (base : Nat) (t : TS) : Prop where
  bal : big base t.w.codes + t.ex.length = t.ca.length
  uns : ∀ m, isSaved (partOf P m) = false → t.ex.count m = t.ca.count m
  neg : ∀ m, isSaved (partOf P m) = false → t.w.nums.getD m (-1) = -1
  shape : Shape t.w.codes
  all : ∀ c ∈ t.w.codes, c = -1 ∨ 0 ≤ c
/-! ### names -/
end Go.Proofs.Ytkonloadedbpkaa.FoldBack

namespace Go.Proofs.Ytkonloadedbpkaa.LeastP
open Go.RowKit Go.Proofs.Ytkonloadedbpkaa.FoldPure Go.Proofs.Ytkonloadedbpkaa.FoldMem Go.Proofs.Ytkonloadedbpkaa.FoldCount Go.Proofs.Ytkonloadedbpkaa.FoldSame Go.Proofs.Ytkonloadedbpkaa.FoldBack Go.Proofs.Ytkonloadedbpkaa.ShareP Go.Proofs.Ytkonloadedbpkaa.ShareR Go.Proofs.Ytkonloadedbpkaa.NamedP Go.Proofs.Ytkonloadedbpkaa.PFoldLossless
set_option linter.unusedVariables false

/-! ### places, while they are counted -/
end Go.Proofs.Ytkonloadedbpkaa.LeastP

namespace Go.Proofs.Ytkonloadedbpkaa.EmptyW
open Go.RowKit Go.Maps Go.Proofs.Ytkonloadedbpkaa.Sep Go.Proofs.Ytkonloadedbpkaa.FoldPure Go.Proofs.Ytkonloadedbpkaa.FoldMem Go.Proofs.Ytkonloadedbpkaa.NodeMem Go.Proofs.Ytkonloadedbpkaa.RowsOf Go.Proofs.Ytkonloadedbpkaa.NamedP Go.Proofs.Ytkonloadedbpkaa.NodesIn Go.Proofs.Ytkonloadedbpkaa.PFoldLossless
open Go.Proofs.YtkonloadedbpkaaW.PrintWords
set_option linter.unusedVariables false
set_option linter.unusedSimpArgs false
set_option maxRecDepth 100000

def toS2 (z : ByteArray × List Int) : S27 := ⟨z.1, z.2⟩
theorem rd_toS2 (zs : List (ByteArray × List Int)) (i : Nat) (B : Nat) (h : (zs.map (·.2.length)).sum ≤ B) : (rd_T27 (zs.map toS2) (i : Int)).f1.length ≤ B := by
  unfold rd_T27
  rw [Int.toNat_natCast, List.getD_eq_getElem?_getD, List.getElem?_map]
  cases hz : zs[i]? with
  | none => simp [z27]
  | some z =>
    simp only [Option.map_some, Option.getD_some]
    have hm : z.2.length ∈ zs.map (·.2.length) := List.mem_map_of_mem (List.mem_of_getElem? hz)
    have := FoldSame.mem_le_sum hm
    show z.2.length ≤ B
    omega
/-- The nodes that named makes of those that came in. -/
def namedZ (zs : List (ByteArray × List Int)) : List Nd := namedL (zs.map toS2)
theorem namedZ_len (zs : List (ByteArray × List Int)) : (namedZ zs).length = zs.length := by unfold namedZ; rw [namedL_len, List.length_map]
theorem namedZ_sum (zs : List (ByteArray × List Int)) : ((namedZ zs).map (·.2.length)).sum ≤ (zs.map (·.2.length)).sum := by
  have key : ∀ i, i ≤ zs.length → ((namedTo (zs.map toS2) i).map (·.2.length)).sum ≤ ((zs.take i).map (·.2.length)).sum := by
    intro i
    induction i with
    | zero => intro _; simp [namedTo]
    | succ i ih =>
      intro hi
      have h1 := ih (by omega)
      have h2 := named_kids_le (zs.map toS2) (i := i) (by rw [List.length_map]; omega)
      have h3 : (rd_T27 (zs.map toS2) (i : Int)).f1.length = (zs[i]'(by omega)).2.length := by
        unfold rd_T27
        rw [Int.toNat_natCast, List.getD_eq_getElem?_getD, List.getElem?_map, List.getElem?_eq_getElem (by omega)]
        rfl
      rw [namedTo, List.map_append, List.sum_append, List.take_succ_eq_append_getElem (by omega), List.map_append, List.sum_append]
      simp only [List.map_cons, List.map_nil, List.sum_cons, List.sum_nil]
      omega
  have h := key zs.length (Nat.le_refl _)
  rw [List.take_length] at h
  unfold namedZ namedL
  rw [List.length_map]
  exact h
theorem namedZ_lab {zs : List (ByteArray × List Int)} (h : (zs.map (·.2.length)).sum ≤ 1048576) : ∀ x ∈ namedZ zs, x.1.size ≤ maxLen := by
  intro x hx
  obtain ⟨b, hb, e⟩ := named_lab (zs.map toS2) x hx
  have h1 : x.2.length ≤ 1048576 := by
    have := FoldSame.mem_le_sum (List.mem_map_of_mem (f := fun x : Nd => x.2.length) hx)
    have := namedZ_sum zs
    omega
  rw [e, labI_size]
  have : b.size ≤ 1 := by rcases hb with rfl | rfl <;> decide
  unfold maxLen
  omega
/-- named, called. -/
theorem named_calls {W w : World} {rs : List Res} {A : Option Addr} {c : Nat} {zs : List (ByteArray × List Int)} (M : Sep W w rs) (hC : Kd.C kP w A zs.length zs) (hc : zs.length ≤ c) (hl : zs.length ≤ 1048576) (he : (zs.map (·.2.length)).sum ≤ 1048576) :
    Calls Try.prog 13 #[.slice A zs.length c] w fun e w' => ∃ items A' c', e = .returned (.slice A' zs.length c') ∧ items.map nd = namedZ zs ∧ items.length = zs.length ∧ zs.length ≤ c' ∧ Sep W w' (rowR 27 2 (.slice A' zs.length c') zs.length (nodeCells items) :: kidsR items :: rs) := by
  obtain ⟨k, hk⟩ := named_f (zs.map toS2) (by rw [List.length_map]; omega) (fun i => by have := rd_toS2 zs i 1048576 he; omega)
  have hC2 : Kd.C k27 w A (zs.map toS2).length (zs.map toS2) := by
    rw [List.length_map]
    exact iso_C (d := kP) (f := fun x : S27 => (x.f0, x.f1)) (g := toS2) (fun x => rfl) hC
  have h := lemmalaw16_named.calls k A c (zs.map toS2) _ w hC2 (by rw [List.length_map]; exact hc) hk
  rw [List.length_map] at h
  refine h.mono ?_
  rintro e w' ⟨v, rfl, hS, hb⟩
  have hR := iso_R (Kd.S_R hS)
  rw [List.map_map] at hR
  have e1 : ((fun x : S27 => (x.f0, x.f1)) ∘ toL) = toP := rfl
  rw [e1] at hR
  have hR2 : Kd.R kP 27 w' w.heap.size (fun _ => True) v ((namedZ zs).map toP) := by
    unfold namedZ namedL
    rw [List.length_map]
    exact hR
  obtain ⟨items, A', c', rfl, h1, h2, h3, hm⟩ := rows_of M hR2 hb
  rw [namedZ_len] at h2 h3 hm ⊢
  exact ⟨items, A', c', rfl, h1, h2, h3, hm⟩
end Go.Proofs.Ytkonloadedbpkaa.EmptyW

namespace Go.Proofs.Ytkonloadedbpkaa.PFoldLossless
open Go.RowKit Go.Proofs.YtkonloadedbpkaaW.PrintWords Go.Proofs.YtkonloadedbpkaaW.PrintLast Go.Proofs.YtkonloadedbpkaaW.PrintMore
attribute [local go_sem] max2_int min2_int max_two min_two max_three min_three max_four min_four   -- for this text's walks alone
set_option linter.unusedVariables false
set_option linter.unusedSimpArgs false

/-! ### lemmalaw16_texts: function 14 -/
def lemmalaw16_texts.l0 : Nat → List ByteArray → List ByteArray → Int → Option (Bool)
  | 0, _, _, _ => none
  | k + 1, x0, x1, x5 => if x5 < (x0.length : Int) then (if 0 ≤ x5 then (if x5 < (x1.length : Int) then (if (rdOf ByteArray.empty x0 x5).toList = (rdOf ByteArray.empty x1 x5).toList then (lemmalaw16_texts.l0 k x0 x1 (wrap64 (x5 + 1))) else (some false)) else (none)) else (none)) else (some true)
def lemmalaw16_texts.f (k : Nat) (l0 : List ByteArray) (l1 : List ByteArray) : Option (Bool) := if (l0.length : Int) = (l1.length : Int) then (lemmalaw16_texts.l0 k l0 l1 0) else (some false)
theorem lemmalaw16_texts.mono_l : ∀ k, (∀ y0 y1 y2, LeO (lemmalaw16_texts.l0 k y0 y1 y2) (lemmalaw16_texts.l0 (k + 1) y0 y1 y2))
  | 0 => fun _ _ _ r h => by simp [lemmalaw16_texts.l0] at h
  | k + 1 => by
    have ih0 := lemmalaw16_texts.mono_l k
    · intro y0 y1 y2
      unfold lemmalaw16_texts.l0
      repeat' first
      | (with_reducible exact ih0 _ _ _)
      | (with_reducible exact LeO.refl _)
      | (with_reducible exact LeO.none _)
      | (with_reducible refine LeO.ite ?_ ?_)
      | (with_reducible refine LeO.bind ?_ (fun _ => ?_))
      | exact ih0 _ _ _
      | exact LeO.none _
      | refine LeO.ite ?_ ?_
      | refine LeO.bind ?_ (fun _ => ?_)
theorem lemmalaw16_texts.mono : ∀ a0 a1 k, LeO (lemmalaw16_texts.f k a0 a1) (lemmalaw16_texts.f (k + 1) a0 a1) := by
  intro a0 a1 k
  have ih0 := lemmalaw16_texts.mono_l k
  unfold lemmalaw16_texts.f
  repeat' first
      | (with_reducible exact ih0 _ _ _)
      | (with_reducible exact LeO.refl _)
      | (with_reducible exact LeO.none _)
      | (with_reducible refine LeO.ite ?_ ?_)
      | (with_reducible refine LeO.bind ?_ (fun _ => ?_))
      | exact ih0 _ _ _
      | exact LeO.none _
      | refine LeO.ite ?_ ?_
      | refine LeO.bind ?_ (fun _ => ?_)
set_option maxHeartbeats 8000000 in
set_option maxRecDepth 100000 in
theorem lemmalaw16_texts.calls (k : Nat) (A0 : Option Addr) (c0 : Nat) (l0 : List ByteArray) (A1 : Option Addr) (c1 : Nat) (l1 : List ByteArray) (r : Bool) (w : World) (hr0 : Kd.C Kd.string w A0 l0.length l0) (hc0 : l0.length ≤ c0) (hr1 : Kd.C Kd.string w A1 l1.length l1) (hc1 : l1.length ≤ c1) (h : lemmalaw16_texts.f k l0 l1 = some r) :
    Calls Try.prog 14 #[.slice A0 l0.length c0, .slice A1 l1.length c1] w fun e w' => e = .returned (.bool r) ∧ Drawn0 w w' := by
  have HR0 := Aside0.mk hr0
  have HC0 := Aside0.mk hc0
  clear hr0 hc0
  have HR1 := Aside0.mk hr1
  have HC1 := Aside0.mk hc1
  clear hr1 hc1
  have H : (if (l0.length : Int) = (l1.length : Int) then (lemmalaw16_texts.l0 k l0 l1 0) else (some false)) = some r := h
  clear h
  by_cases c3 : (l0.length : Int) = (l1.length : Int)
  · rw [if_pos c3] at H
    have c3b0 : ((l0.length : Int) == (l1.length : Int)) = true := beq_iff_eq.mpr c3
    have c3b1 : ((l0.length : Int) != (l1.length : Int)) = false := bne_eq_false_iff_eq.mpr c3
    have c3b2 : (l0.length == l1.length) = true := by first | simpa using c3 | (simp at c3 ⊢; omega)
    clear c3
    have H' := Aside0.mk H
    clear H
    go_enter Try.func14, Try.ntmps14
    go_wp2
    repeat (go_quiet (fail); try go_wp2)
    go_loopg [5] k (fun kq v5 w' => ∃ (x5_1 : Int), v5 = .int .i64 x5_1 ∧ Aside0 (lemmalaw16_texts.l0 kq l0 l1 x5_1 = some r) ∧ Aside0 (kq ≤ k) ∧ Drawn0 w w')
    case atStart => exact ⟨(0), (by first | rfl | (simp; done) | (simp [*]; done)), H', ⟨Nat.le_refl _⟩, by repeat (first | exact Drawn0.refl _ | apply Drawn0.step)⟩
    case round =>
      clear H'
      try clear c1
      try clear p2
      try clear c3
      try clear c3b0
      try clear c3b1
      try clear c3b2
      obtain ⟨x5_1, rfl, HA, HK1, ⟨m1, rfl⟩⟩ := hrel
      cases gk with
      | zero => exact absurd HA.out (by simp [lemmalaw16_texts.l0])
      | succ k1 =>
        have H := HA.out
        clear HA
        simp only [lemmalaw16_texts.l0] at H
        by_cases c4 : x5_1 < (l0.length : Int)
        · rw [if_pos c4] at H
          have c4b0 : decide (x5_1 < (l0.length : Int)) = true := decide_eq_true c4
          clear c4
          by_cases c5 : 0 ≤ x5_1
          · rw [if_pos c5] at H
            have c5b0 : decide (0 ≤ x5_1) = true := decide_eq_true c5
            clear c5
            by_cases c6 : x5_1 < (l1.length : Int)
            · rw [if_pos c6] at H
              have c6b0 : decide (x5_1 < (l1.length : Int)) = true := decide_eq_true c6
              clear c6
              by_cases c7 : (rdOf ByteArray.empty l0 x5_1).toList = (rdOf ByteArray.empty l1 x5_1).toList
              · rw [if_pos c7] at H
                have c7b0 : ((rdOf ByteArray.empty l0 x5_1).toList == (rdOf ByteArray.empty l1 x5_1).toList) = true := beq_iff_eq.mpr c7
                have c7b1 : ((rdOf ByteArray.empty l0 x5_1).toList != (rdOf ByteArray.empty l1 x5_1).toList) = false := bne_eq_false_iff_eq.mpr c7
                clear c7
                have H' := Aside0.mk H
                clear H
                have p115 : 0 ≤ (x5_1 : Int) := of_decide_eq_true (by first | (with_reducible assumption) | assumption)
                have q115 : x5_1 < (l0.length : Int) := of_decide_eq_true (by first | (with_reducible assumption) | assumption)
                obtain ⟨ad115, e115, hx115_0⟩ := Kd.at_string HR0.out x5_1 p115 q115
                cases e115
                replace p115 := eq_true p115
                replace q115 := eq_true q115
                have p116 : 0 ≤ (x5_1 : Int) := of_decide_eq_true (by first | (with_reducible assumption) | assumption)
                have q116 : x5_1 < (l1.length : Int) := of_decide_eq_true (by first | (with_reducible assumption) | assumption)
                obtain ⟨ad116, e116, hx116_0⟩ := Kd.at_string HR1.out x5_1 p116 q116
                cases e116
                replace p116 := eq_true p116
                replace q116 := eq_true q116
                go_wp2
                repeat (go_quiet (fail); try go_wp2)
                go_roundg k1
                case measure => have := HK1.out; omega
                case rel => exact ⟨(wrap64 (x5_1 + 1)), (by first | rfl | (simp; done) | (simp [*]; done)), H', ⟨by have := HK1.out; omega⟩, by repeat (first | exact Drawn0.refl _ | apply Drawn0.step)⟩
              · rw [if_neg c7] at H
                have c7b0 : ((rdOf ByteArray.empty l0 x5_1).toList == (rdOf ByteArray.empty l1 x5_1).toList) = false := beq_eq_false_iff_ne.mpr c7
                have c7b1 : ((rdOf ByteArray.empty l0 x5_1).toList != (rdOf ByteArray.empty l1 x5_1).toList) = true := bne_iff_ne.mpr c7
                obtain rfl := Option.some.inj H
                have p115 : 0 ≤ (x5_1 : Int) := of_decide_eq_true (by first | (with_reducible assumption) | assumption)
                have q115 : x5_1 < (l0.length : Int) := of_decide_eq_true (by first | (with_reducible assumption) | assumption)
                obtain ⟨ad115, e115, hx115_0⟩ := Kd.at_string HR0.out x5_1 p115 q115
                cases e115
                replace p115 := eq_true p115
                replace q115 := eq_true q115
                have p116 : 0 ≤ (x5_1 : Int) := of_decide_eq_true (by first | (with_reducible assumption) | assumption)
                have q116 : x5_1 < (l1.length : Int) := of_decide_eq_true (by first | (with_reducible assumption) | assumption)
                obtain ⟨ad116, e116, hx116_0⟩ := Kd.at_string HR1.out x5_1 p116 q116
                cases e116
                replace p116 := eq_true p116
                replace q116 := eq_true q116
                go_wp2
                repeat (go_quiet (fail); try go_wp2)
                go_ret
                exact ⟨by first | rfl | (simp; done) | (simp [*]; done), by repeat (first | exact Drawn0.refl _ | apply Drawn0.step)⟩
            · rw [if_neg c6] at H
              exact absurd H (by simp)
          · rw [if_neg c5] at H
            exact absurd H (by simp)
        · rw [if_neg c4] at H
          have c4b0 : decide (x5_1 < (l0.length : Int)) = false := decide_eq_false c4
          clear c4
          obtain rfl := Option.some.inj H
          go_wp2
          repeat (go_quiet (fail); try go_wp2)
          go_ret
          exact ⟨by first | rfl | (simp; done) | (simp [*]; done), by repeat (first | exact Drawn0.refl _ | apply Drawn0.step)⟩
  · rw [if_neg c3] at H
    have c3b0 : ((l0.length : Int) == (l1.length : Int)) = false := beq_eq_false_iff_ne.mpr c3
    have c3b1 : ((l0.length : Int) != (l1.length : Int)) = true := bne_iff_ne.mpr c3
    have c3b2 : (l0.length == l1.length) = false := by first | simpa using c3 | (simp at c3 ⊢; omega)
    obtain rfl := Option.some.inj H
    go_enter Try.func14, Try.ntmps14
    go_wp2
    repeat (go_quiet (fail); try go_wp2)
    go_ret
    exact ⟨by first | rfl | (simp; done) | (simp [*]; done), by repeat (first | exact Drawn0.refl _ | apply Drawn0.step)⟩

/-! ### lemmalaw16_ints: function 15 -/
def lemmalaw16_ints.l0 : Nat → List Int → List Int → Int → Option (Bool)
  | 0, _, _, _ => none
  | k + 1, x0, x1, x5 => if x5 < (x0.length : Int) then (if 0 ≤ x5 then (if x5 < (x1.length : Int) then (if (rd x0 x5) = (rd x1 x5) then (lemmalaw16_ints.l0 k x0 x1 (wrap64 (x5 + 1))) else (some false)) else (none)) else (none)) else (some true)
def lemmalaw16_ints.f (k : Nat) (l0 : List Int) (l1 : List Int) : Option (Bool) := if (l0.length : Int) = (l1.length : Int) then (lemmalaw16_ints.l0 k l0 l1 0) else (some false)
theorem lemmalaw16_ints.mono_l : ∀ k, (∀ y0 y1 y2, LeO (lemmalaw16_ints.l0 k y0 y1 y2) (lemmalaw16_ints.l0 (k + 1) y0 y1 y2))
  | 0 => fun _ _ _ r h => by simp [lemmalaw16_ints.l0] at h
  | k + 1 => by
    have ih0 := lemmalaw16_ints.mono_l k
    · intro y0 y1 y2
      unfold lemmalaw16_ints.l0
      repeat' first
      | (with_reducible exact ih0 _ _ _)
      | (with_reducible exact LeO.refl _)
      | (with_reducible exact LeO.none _)
      | (with_reducible refine LeO.ite ?_ ?_)
      | (with_reducible refine LeO.bind ?_ (fun _ => ?_))
      | exact ih0 _ _ _
      | exact LeO.none _
      | refine LeO.ite ?_ ?_
      | refine LeO.bind ?_ (fun _ => ?_)
theorem lemmalaw16_ints.mono : ∀ a0 a1 k, LeO (lemmalaw16_ints.f k a0 a1) (lemmalaw16_ints.f (k + 1) a0 a1) := by
  intro a0 a1 k
  have ih0 := lemmalaw16_ints.mono_l k
  unfold lemmalaw16_ints.f
  repeat' first
      | (with_reducible exact ih0 _ _ _)
      | (with_reducible exact LeO.refl _)
      | (with_reducible exact LeO.none _)
      | (with_reducible refine LeO.ite ?_ ?_)
      | (with_reducible refine LeO.bind ?_ (fun _ => ?_))
      | exact ih0 _ _ _
      | exact LeO.none _
      | refine LeO.ite ?_ ?_
      | refine LeO.bind ?_ (fun _ => ?_)
set_option maxHeartbeats 8000000 in
set_option maxRecDepth 100000 in
theorem lemmalaw16_ints.calls (k : Nat) (A0 : Option Addr) (c0 : Nat) (l0 : List Int) (A1 : Option Addr) (c1 : Nat) (l1 : List Int) (r : Bool) (w : World) (hr0 : Kd.C (Kd.int .i64) w A0 l0.length l0) (hc0 : l0.length ≤ c0) (hr1 : Kd.C (Kd.int .i64) w A1 l1.length l1) (hc1 : l1.length ≤ c1) (h : lemmalaw16_ints.f k l0 l1 = some r) :
    Calls Try.prog 15 #[.slice A0 l0.length c0, .slice A1 l1.length c1] w fun e w' => e = .returned (.bool r) ∧ Drawn0 w w' := by
  have HR0 := Aside0.mk hr0
  have HC0 := Aside0.mk hc0
  clear hr0 hc0
  have HR1 := Aside0.mk hr1
  have HC1 := Aside0.mk hc1
  clear hr1 hc1
  have H : (if (l0.length : Int) = (l1.length : Int) then (lemmalaw16_ints.l0 k l0 l1 0) else (some false)) = some r := h
  clear h
  by_cases c3 : (l0.length : Int) = (l1.length : Int)
  · rw [if_pos c3] at H
    have c3b0 : ((l0.length : Int) == (l1.length : Int)) = true := beq_iff_eq.mpr c3
    have c3b1 : ((l0.length : Int) != (l1.length : Int)) = false := bne_eq_false_iff_eq.mpr c3
    have c3b2 : (l0.length == l1.length) = true := by first | simpa using c3 | (simp at c3 ⊢; omega)
    clear c3
    have H' := Aside0.mk H
    clear H
    go_enter Try.func15, Try.ntmps15
    go_wp2
    repeat (go_quiet (fail); try go_wp2)
    go_loopg [5] k (fun kq v5 w' => ∃ (x5_1 : Int), v5 = .int .i64 x5_1 ∧ Aside0 (lemmalaw16_ints.l0 kq l0 l1 x5_1 = some r) ∧ Aside0 (kq ≤ k) ∧ Drawn0 w w')
    case atStart => exact ⟨(0), (by first | rfl | (simp; done) | (simp [*]; done)), H', ⟨Nat.le_refl _⟩, by repeat (first | exact Drawn0.refl _ | apply Drawn0.step)⟩
    case round =>
      clear H'
      try clear c1
      try clear p2
      try clear c3
      try clear c3b0
      try clear c3b1
      try clear c3b2
      obtain ⟨x5_1, rfl, HA, HK1, ⟨m1, rfl⟩⟩ := hrel
      cases gk with
      | zero => exact absurd HA.out (by simp [lemmalaw16_ints.l0])
      | succ k1 =>
        have H := HA.out
        clear HA
        simp only [lemmalaw16_ints.l0] at H
        by_cases c4 : x5_1 < (l0.length : Int)
        · rw [if_pos c4] at H
          have c4b0 : decide (x5_1 < (l0.length : Int)) = true := decide_eq_true c4
          clear c4
          by_cases c5 : 0 ≤ x5_1
          · rw [if_pos c5] at H
            have c5b0 : decide (0 ≤ x5_1) = true := decide_eq_true c5
            clear c5
            by_cases c6 : x5_1 < (l1.length : Int)
            · rw [if_pos c6] at H
              have c6b0 : decide (x5_1 < (l1.length : Int)) = true := decide_eq_true c6
              clear c6
              by_cases c7 : (rd l0 x5_1) = (rd l1 x5_1)
              · rw [if_pos c7] at H
                have c7b0 : ((rd l0 x5_1) == (rd l1 x5_1)) = true := beq_iff_eq.mpr c7
                have c7b1 : ((rd l0 x5_1) != (rd l1 x5_1)) = false := bne_eq_false_iff_eq.mpr c7
                clear c7
                have H' := Aside0.mk H
                clear H
                have p117 : 0 ≤ (x5_1 : Int) := of_decide_eq_true (by first | (with_reducible assumption) | assumption)
                have q117 : x5_1 < (l0.length : Int) := of_decide_eq_true (by first | (with_reducible assumption) | assumption)
                obtain ⟨ad117, e117, hx117_0⟩ := Kd.at_int HR0.out x5_1 p117 q117
                cases e117
                replace p117 := eq_true p117
                replace q117 := eq_true q117
                have p118 : 0 ≤ (x5_1 : Int) := of_decide_eq_true (by first | (with_reducible assumption) | assumption)
                have q118 : x5_1 < (l1.length : Int) := of_decide_eq_true (by first | (with_reducible assumption) | assumption)
                obtain ⟨ad118, e118, hx118_0⟩ := Kd.at_int HR1.out x5_1 p118 q118
                cases e118
                replace p118 := eq_true p118
                replace q118 := eq_true q118
                go_wp2
                repeat (go_quiet (fail); try go_wp2)
                go_roundg k1
                case measure => have := HK1.out; omega
                case rel => exact ⟨(wrap64 (x5_1 + 1)), (by first | rfl | (simp; done) | (simp [*]; done)), H', ⟨by have := HK1.out; omega⟩, by repeat (first | exact Drawn0.refl _ | apply Drawn0.step)⟩
              · rw [if_neg c7] at H
                have c7b0 : ((rd l0 x5_1) == (rd l1 x5_1)) = false := beq_eq_false_iff_ne.mpr c7
                have c7b1 : ((rd l0 x5_1) != (rd l1 x5_1)) = true := bne_iff_ne.mpr c7
                obtain rfl := Option.some.inj H
                have p117 : 0 ≤ (x5_1 : Int) := of_decide_eq_true (by first | (with_reducible assumption) | assumption)
                have q117 : x5_1 < (l0.length : Int) := of_decide_eq_true (by first | (with_reducible assumption) | assumption)
                obtain ⟨ad117, e117, hx117_0⟩ := Kd.at_int HR0.out x5_1 p117 q117
                cases e117
                replace p117 := eq_true p117
                replace q117 := eq_true q117
                have p118 : 0 ≤ (x5_1 : Int) := of_decide_eq_true (by first | (with_reducible assumption) | assumption)
                have q118 : x5_1 < (l1.length : Int) := of_decide_eq_true (by first | (with_reducible assumption) | assumption)
                obtain ⟨ad118, e118, hx118_0⟩ := Kd.at_int HR1.out x5_1 p118 q118
                cases e118
                replace p118 := eq_true p118
                replace q118 := eq_true q118
                go_wp2
                repeat (go_quiet (fail); try go_wp2)
                go_ret
                exact ⟨by first | rfl | (simp; done) | (simp [*]; done), by repeat (first | exact Drawn0.refl _ | apply Drawn0.step)⟩
            · rw [if_neg c6] at H
              exact absurd H (by simp)
          · rw [if_neg c5] at H
            exact absurd H (by simp)
        · rw [if_neg c4] at H
          have c4b0 : decide (x5_1 < (l0.length : Int)) = false := decide_eq_false c4
          clear c4
          obtain rfl := Option.some.inj H
          go_wp2
          repeat (go_quiet (fail); try go_wp2)
          go_ret
          exact ⟨by first | rfl | (simp; done) | (simp [*]; done), by repeat (first | exact Drawn0.refl _ | apply Drawn0.step)⟩
  · rw [if_neg c3] at H
    have c3b0 : ((l0.length : Int) == (l1.length : Int)) = false := beq_eq_false_iff_ne.mpr c3
    have c3b1 : ((l0.length : Int) != (l1.length : Int)) = true := bne_iff_ne.mpr c3
    have c3b2 : (l0.length == l1.length) = false := by first | simpa using c3 | (simp at c3 ⊢; omega)
    obtain rfl := Option.some.inj H
    go_enter Try.func15, Try.ntmps15
    go_wp2
    repeat (go_quiet (fail); try go_wp2)
    go_ret
    exact ⟨by first | rfl | (simp; done) | (simp [*]; done), by repeat (first | exact Drawn0.refl _ | apply Drawn0.step)⟩

-- NOT PRINTED: function 12 (lemmalaw16_alive)

end Go.Proofs.Ytkonloadedbpkaa.PFoldLossless

namespace Go.Proofs.Ytkonloadedbpkaa.Eq16
open Go.RowKit Go.Proofs.Ytkonloadedbpkaa.PFoldLossless Go.Proofs.Ytkonloadedbpkaa.NamedP
open Go.Proofs.YtkonloadedbpkaaW.PrintWords
set_option linter.unusedVariables false

theorem texts_ev (a b : List ByteArray) (hl : a.length = b.length) (hb : a.length ≤ 9007199254740991) (h : a = b) : ∀ (d j : Nat), j ≤ a.length → a.length - j = d → EvS (fun k => lemmalaw16_texts.l0 k a b j) true := by
  subst h
  intro d
  induction d with
  | zero =>
    intro j hj hd
    refine EvS.some fun k => ?_
    conv => lhs; unfold lemmalaw16_texts.l0
    rw [if_neg (by omega)]
  | succ d ih =>
    intro j hj hd
    refine (ih (j + 1) (by omega) (by omega)).step fun k => ?_
    conv => lhs; unfold lemmalaw16_texts.l0
    rw [if_pos (by omega), if_pos (by omega), if_pos (by omega), if_pos rfl, wrap_in (by omega) (by omega)]
    rfl
theorem texts_f (a : List ByteArray) (hb : a.length ≤ 9007199254740991) : ∃ k, lemmalaw16_texts.f k a a = some true := by
  obtain ⟨K, h⟩ := texts_ev a a rfl hb rfl a.length 0 (by omega) (by omega)
  exact ⟨K, by unfold lemmalaw16_texts.f; rw [if_pos rfl]; exact h K (Nat.le_refl _)⟩
theorem ints_ev (a b : List Int) (hl : a.length = b.length) (hb : a.length ≤ 9007199254740991) : ∀ (d j : Nat), j ≤ a.length → a.length - j = d → EvS (fun k => lemmalaw16_ints.l0 k a b j) (decide (a.drop j = b.drop j)) := by
  intro d
  induction d with
  | zero =>
    intro j hj hd
    refine EvS.some fun k => ?_
    conv => lhs; unfold lemmalaw16_ints.l0
    rw [if_neg (by omega), List.drop_eq_nil_of_le (by omega), List.drop_eq_nil_of_le (by omega)]
    simp
  | succ d ih =>
    intro j hj hd
    have hlt : j < a.length := by omega
    have ea : a.drop j = a[j] :: a.drop (j + 1) := List.drop_eq_getElem_cons hlt
    have eb : b.drop j = b[j]'(by omega) :: b.drop (j + 1) := List.drop_eq_getElem_cons (by omega)
    by_cases e : a[j] = b[j]'(by omega)
    · have h := ih (j + 1) (by omega) (by omega)
      refine EvS.step (h := fun k => lemmalaw16_ints.l0 k a b ((j + 1 : Nat) : Int)) ?_ fun k => ?_
      · rw [show decide (a.drop j = b.drop j) = decide (a.drop (j + 1) = b.drop (j + 1)) from decide_eq_decide.2 (by rw [ea, eb, List.cons.injEq]; exact ⟨fun h => h.2, fun h => ⟨e, h⟩⟩)]
        exact h
      · conv => lhs; unfold lemmalaw16_ints.l0
        rw [if_pos (by omega), if_pos (by omega), if_pos (by omega), rd_at a hlt, rd_at b (by omega), if_pos e, wrap_in (by omega) (by omega)]
        rfl
    · refine EvS.some fun k => ?_
      conv => lhs; unfold lemmalaw16_ints.l0
      rw [if_pos (by omega), if_pos (by omega), if_pos (by omega), rd_at a hlt, rd_at b (by omega), if_neg e, decide_eq_false (by rw [ea, eb, List.cons.injEq]; exact fun h => e h.1)]
theorem ints_evs (a b : List Int) (hb : a.length ≤ 9007199254740991) : EvS (fun k => lemmalaw16_ints.f k a b) (decide (a = b)) := by
  by_cases hl : a.length = b.length
  · obtain ⟨K, h⟩ := ints_ev a b hl hb a.length 0 (by omega) (by omega)
    refine ⟨K, fun k hk => ?_⟩
    have := h k hk
    simp only [List.drop_zero] at this
    show lemmalaw16_ints.f k a b = _
    unfold lemmalaw16_ints.f
    rw [if_pos (by omega)]
    exact this
  · refine ⟨0, fun k _ => ?_⟩
    show lemmalaw16_ints.f k a b = _
    unfold lemmalaw16_ints.f
    rw [if_neg (by omega), decide_eq_false (fun e => hl (by rw [e]))]
theorem ints_f (a b : List Int) (hb : a.length ≤ 9007199254740991) : ∃ k, lemmalaw16_ints.f k a b = some (decide (a = b)) := by
  obtain ⟨K, h⟩ := ints_evs a b hb
  exact ⟨K, h K (Nat.le_refl _)⟩
theorem texts_calls {w : World} {A B : Option Addr} {ca cb n : Nat} {a : List ByteArray} (he : a.length = n) (hA : Kd.C Kd.string w A n a) (ha : n ≤ ca) (hB : Kd.C Kd.string w B n a) (hb : n ≤ cb) (hn : n ≤ 9007199254740991) :
    Calls Try.prog 14 #[.slice A n ca, .slice B n cb] w fun e w' => e = .returned (.bool true) ∧ Drawn0 w w' := by
  subst he
  obtain ⟨k, hk⟩ := texts_f a hn
  exact lemmalaw16_texts.calls k A ca a B cb a true w hA ha hB hb hk
theorem ints_calls {w : World} {A B : Option Addr} {ca cb n : Nat} {a : List Int} (he : a.length = n) (hA : Kd.C (Kd.int .i64) w A n a) (ha : n ≤ ca) (hB : Kd.C (Kd.int .i64) w B n a) (hb : n ≤ cb) (hn : n ≤ 9007199254740991) :
    Calls Try.prog 15 #[.slice A n ca, .slice B n cb] w fun e w' => e = .returned (.bool true) ∧ Drawn0 w w' := by
  subst he
  obtain ⟨k, hk⟩ := ints_f a a hn
  have h := lemmalaw16_ints.calls k A ca a B cb a _ w hA ha hB hb hk
  rw [decide_eq_true rfl] at h
  exact h
end Go.Proofs.Ytkonloadedbpkaa.Eq16
