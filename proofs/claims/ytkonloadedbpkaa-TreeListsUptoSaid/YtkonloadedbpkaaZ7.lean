/- Bulk, RowsOf, NodesIn. -/
import Derived.Test.YtkonloadedbpkaaRows
import Derived.Test.YtkonloadedbpkaaZ4
import Derived.ProofKit
import Derived.OpenShut
import Derived.JoinedCond
import Derived.ShutString
import Derived.ChangeOld
import Derived.Carry
import Derived.SizedLaws
import Derived.SliceStrings
import Derived.Deep.DeepHandedRow
import Derived.Deep.Slices
import Derived.Deep.Fields
import Derived.ChangeSame
namespace Go.Proofs.Ytkonloadedbpkaa.bulks

theorem one_le {H : Type} (d : DataW H) : 1 ≤ Rows.uptoBulk d := by
  cases d with
  | lit l => cases l <;> simp [Rows.uptoBulk]
  | nil => simp [Rows.uptoBulk]
  | ptr d => simp [Rows.uptoBulk]
  | slice elems spare => simp [Rows.uptoBulk]
  | agg parts => simp [Rows.uptoBulk]
  | iface t d => simp [Rows.uptoBulk]
  | map entries => simp [Rows.uptoBulk]
  | held h => simp [Rows.uptoBulk]

/-- a part's bulk is at most the whole's -/
theorem part_le {H : Type} {d : DataW H} {l : List (DataW H)} (h : d ∈ l) : Rows.uptoBulk d ≤ Rows.uptoBulkAll l := by
  induction l with
  | nil => cases h
  | cons x r ih =>
    simp only [Rows.uptoBulkAll]
    cases List.mem_cons.1 h with
    | inl e => subst e; omega
    | inr e => have := ih e; omega

theorem append {H : Type} (l r : List (DataW H)) : Rows.uptoBulkAll (l ++ r) = Rows.uptoBulkAll l + Rows.uptoBulkAll r := by
  induction l with
  | nil => simp [Rows.uptoBulkAll]
  | cons x l ih => simp only [List.cons_append, Rows.uptoBulkAll, ih]; omega

/-- so many values at the most -/
theorem length_le {H : Type} (l : List (DataW H)) : l.length ≤ Rows.uptoBulkAll l := by
  induction l with
  | nil => simp [Rows.uptoBulkAll]
  | cons x r ih => have := one_le x; simp only [Rows.uptoBulkAll, List.length_cons]; omega

/-- a slice's places, and what they hold -/
theorem slice_le {H : Type} (elems spare : List (DataW H)) : elems.length + spare.length + 1 ≤ Rows.uptoBulk (.slice elems spare) := by
  have h1 := length_le elems
  have h2 := length_le spare
  simp only [Rows.uptoBulk]
  omega
theorem slice_elems {H : Type} (elems spare : List (DataW H)) : Rows.uptoBulkAll elems + 1 ≤ Rows.uptoBulk (.slice elems spare) := by
  simp only [Rows.uptoBulk]
  omega

/-- a string's letters -/
theorem string_eq {H : Type} (bytes : List UInt8) : Rows.uptoBulk (DataW.lit (H := H) (.string bytes)) = bytes.length + 1 := by
  simp [Rows.uptoBulk]

/-- THE BOUND, as the builder hands it over ('hk') -/
theorem bound {H : Type} {l : List (DataW H)} (hk : Rows.uptoSmall H l = true) : Rows.uptoBulkAll l ≤ 1048576 := by
  simpa [Rows.uptoSmall] using hk

/-- ROOM: a slice of n elements of b bytes, grown by append: below the 2^48 bytes that append, make and a Builder bear. Here n up to 2^21, b up to 4,096: put your own numbers. -/
theorem room {n b : Nat} (hn : n ≤ 2097152) (hb : b ≤ 4096) : (n + n / 4 + 192) * b ≤ 281474976710656 := by
  have h : (n + n / 4 + 192) * b ≤ 2621632 * 4096 := Nat.mul_le_mul (by omega) hb
  omega

end Go.Proofs.Ytkonloadedbpkaa.bulks

namespace Go.Proofs.Ytkonloadedbpkaa.RowsOf
open Go.RowKit Go.Maps Go.Proofs.Ytkonloadedbpkaa.Sep Go.Proofs.Ytkonloadedbpkaa.FoldPure Go.Proofs.Ytkonloadedbpkaa.FoldMem Go.Proofs.Ytkonloadedbpkaa.NodeMem
open Go.Proofs.YtkonloadedbpkaaW.PrintWords
open Go.Proofs.YtkonloadedbpkaaW.PrintLast
set_option linter.unusedVariables false

/-- Two things as one. -/
def bothR (a b : Res) : Res where
  at_ w f := ∃ f1 f2, a.at_ w f1 ∧ b.at_ w f2 ∧ (∀ k, f1 k → f k) ∧ (∀ k, f2 k → f k) ∧ (∀ k, f1 k → ¬ f2 k)
  move := fun ⟨f1, f2, h1, h2, h3, h4, h5⟩ hm => ⟨f1, f2, a.move h1 (fun k hk => hm k (h3 k hk)), b.move h2 (fun k hk => hm k (h4 k hk)), h3, h4, h5⟩
  mono := fun ⟨f1, f2, h1, h2, h3, h4, h5⟩ hm => ⟨f1, f2, h1, h2, fun k hk => hm k (h3 k hk), fun k hk => hm k (h4 k hk), h5⟩
  bound := fun {w f} ⟨f1, f2, h1, h2, h3, h4, h5⟩ => ⟨fun k => f1 k ∧ k < w.heap.size, fun k => f2 k ∧ k < w.heap.size, a.bound h1, b.bound h2, fun k hk => ⟨h3 k hk.1, hk.2⟩, fun k hk => ⟨h4 k hk.1, hk.2⟩, fun k hk hk2 => h5 k hk.1 hk2.1⟩
theorem split {W w : World} {a b : Res} {rs : List Res} (h : Sep W w (bothR a b :: rs)) : Sep W w (a :: b :: rs) := by
  obtain ⟨hB, fp, ⟨f, g, ⟨f1, f2, h1, h2, h3, h4, h5⟩, k2, k3, k4, k5⟩, h6⟩ := h
  refine ⟨hB, fp, ⟨f1, fun k => f2 k ∨ g k, h1, ⟨f2, g, h2, k2, fun k hk hg => k3 k (h4 k hk) hg, fun k hk => ⟨.inl hk, (k4 k (h4 k hk)).2⟩, fun k hk => .inr hk⟩, fun k hk hk2 => ?_, fun k hk => k4 k (h3 k hk), fun k hk => ?_⟩, h6⟩
  · rcases hk2 with hk2 | hk2
    · exact h5 k hk hk2
    · exact k3 k (h3 k hk) hk2
  · rcases hk with hk | hk
    · exact (k4 k (h4 k hk)).1
    · exact k5 k hk
end Go.Proofs.Ytkonloadedbpkaa.RowsOf

namespace Go.Proofs.Ytkonloadedbpkaa.NodesIn
open Go.ChangeShapes Go.WideShapes Go.ChangeAt Go.RowKit Go.Deep
open Go.Proofs.Ytkonloadedbpkaa.FoldMem
open Go.Proofs.YtkonloadedbpkaaW.PrintWords
set_option linter.unusedVariables false

/-- An argument that is a slice of structs of one-cell fields. -/
theorem open_slice_fields {H : Type} {enc : TypeId × Value → H} {P : Program} {w : World} {base : Nat} {spare : Nat → Bool} {held : Bool} {t e : TypeId} {fs : Array Field} {fuel : Nat} {cs : List Value} {x : DataW H × List MemPlace} (ht : P.underlying t = some (.slice e)) (he : P.underlying e = some (.struct fs))
    (hone : oneCellFields P fs = true) (hC : P.cellsOf e = fs.size) (h : DataW.trod enc P w base spare held fuel t cs = some x) :
    (cs = [.slice none 0 0] ∧ x = (.nil, [])) ∨
    ∃ (a : Addr) (len cap m : Nat) (D : Nat → DataW H) (Pl : Nat → List MemPlace), cs = [.slice (some a) len cap] ∧ base ≤ a.block ∧ len ≤ cap ∧ cap ≤ maxLen ∧ m = (if spare a.block then cap else len) ∧
      x = (.slice ((List.range len).map D) ((List.range (m - len)).map fun j => D (len + j)), MemPlace.row a (m * fs.size) ++ (List.range m).flatMap Pl) ∧
      ∀ i, i < m → ∃ (ys : List (DataW H × List MemPlace)) (n : Nat), D i = .agg (ys.map (·.1)) ∧ Pl i = ys.flatMap (·.2) ∧ ys.length = fs.size ∧
        ∀ (j : Nat) (f : Field), fs[j]? = some f → ∃ (v : Value) (y : DataW H × List MemPlace), w.cell? (a.add (i * fs.size + j)) = some v ∧ ys[j]? = some y ∧ DataW.trod enc P w base spare held n f.type [v] = some y := by
  rcases open_slice ht h with h0 | ⟨a, len, cap, m, n, D, Pl, hcs, hb, hl, hm, hmm, hx, hi⟩
  · exact .inl h0
  · refine .inr ⟨a, len, cap, m, D, Pl, hcs, hb, hl, hm, hmm, by rw [hC] at hx; exact hx, fun i him => ?_⟩
    obtain ⟨cs', hc, ht'⟩ := hi i him
    rw [hC] at hc
    obtain ⟨ys, n', hn', hy, hlen, hyl, hf⟩ := DataW.trod_struct he ht'
    obtain ⟨_, hcl, hat⟩ := World.cells?_some hc
    simp only [Prod.mk.injEq] at hy
    refine ⟨ys, n', hy.1, hy.2, hyl, fun j f hj => ?_⟩
    obtain ⟨ho, hk⟩ := hone_of hone j f hj
    have hjl : j < fs.size := (Array.getElem?_eq_some_iff.1 hj).1
    have hcell := hat j hjl
    have hv : cs'[j]? = some (cs'[j]'(by omega)) := List.getElem?_eq_getElem (by omega)
    have h1 := hf j f hj
    rw [ho, hk] at h1
    have hone' : (cs'.drop j).take 1 = [cs'[j]'(by omega)] := by
      rw [List.drop_eq_getElem_cons (by omega)]
      rfl
    rw [hone'] at h1
    have hys : ys[j]? = some (ys[j]'(by omega)) := List.getElem?_eq_getElem (by omega)
    refine ⟨_, _, ?_, hys, h1.trans hys⟩
    rw [← Go.Deep.add_add, hcell, hv]

/-- What a slice of numbers that came in reads as, and how long it may be. -/
theorem ints_open {H : Type} {enc : TypeId × Value → H} {W : World} {base : Nat} {spare : Nat → Bool} {held : Bool} {fuel : Nat} {cs : List Value} {x : DataW H × List MemPlace}
    (hf : DataW.trod enc Try.prog W base spare held fuel 25 cs = some x) : ∃ (a : Option Addr) (zs : List Int) (cap : Nat), cs = [.slice a zs.length cap] ∧ zs.length ≤ cap ∧ Kd.C (Kd.int .i64) W a zs.length zs ∧ zs.length ≤ Rows.uptoBulk x.1 := by
  rcases open_ints Try.underlying25 Try.underlying3 (by kernel_rfl) hf with ⟨hcs, _⟩ | ⟨ad, len, cap, zs, hcs, _, hl, hm, hz, hx, hcell, hwz⟩
  · exact ⟨none, [], 0, hcs, Nat.le_refl _, Kd.C_nil _ _, by simp⟩
  · subst hx
    have hz' : len ≤ zs.length := by
      rw [hz]
      split
      · exact hl
      · exact Nat.le_refl _
    have hlen : (zs.take len).length = len := by rw [List.length_take]; omega
    refine ⟨some ad, zs.take len, cap, by rw [hlen]; exact hcs, by omega, ?_, ?_⟩
    · refine ⟨rfl, by rw [hlen]; unfold maxLen at hm; omega, fun _ => ⟨ad, rfl, fun j p hj => ⟨[.int .i64 p], rfl, rfl, fun i u hu => ?_⟩⟩⟩
      have hi : i = 0 := by
        have := (List.getElem?_eq_some_iff.1 hu).1
        simpa using this
      subst hi
      have hu' : u = .int .i64 p := by simpa using hu.symm
      subst hu'
      have hj' := (List.getElem?_eq_some_iff.1 hj).1
      rw [List.length_take] at hj'
      have hc := hcell j (by omega)
      rw [List.getElem?_take] at hj
      split at hj
      · have : zs.getD j 0 = p := by rw [List.getD_eq_getElem?_getD, hj]; rfl
        rw [this] at hc
        rw [show j * (Kd.int .i64).sz + 0 = j from by show j * 1 + 0 = j; omega]
        exact hc
      · cases hj
    · have h1 := bulks.slice_le (H := H) (lits .i64 (zs.take len)) (lits .i64 (zs.drop len))
      have h2 : (lits (H := H) .i64 (zs.take len)).length = (zs.take len).length := by simp [lits]
      show _ ≤ Rows.uptoBulk (DataW.slice _ _)
      omega
theorem sum_le {H : Type} (D : Nat → DataW H) (f : Nat → Nat) : ∀ n, (∀ i, i < n → f i ≤ Rows.uptoBulk (D i)) → ((List.range n).map f).sum ≤ Rows.uptoBulkAll ((List.range n).map D) := by
  intro n
  induction n with
  | zero => intro _; simp [Rows.uptoBulkAll]
  | succ n ih =>
    intro h
    rw [List.range_succ, List.map_append, List.map_append, List.sum_append, bulks.append]
    have h1 := ih (fun i hi => h i (by omega))
    have h2 := h n (by omega)
    simp only [List.map_cons, List.map_nil, List.sum_cons, List.sum_nil, Rows.uptoBulkAll]
    omega
/-- What a slice of nodes that came in reads as. -/
theorem nodes_in {H : Type} {enc : TypeId × Value → H} {W : World} {base : Nat} {spare : Nat → Bool} {held : Bool} {a : Option Addr} {len cap : Nat} {d : DataW H} {ps : List MemPlace}
    (h : DataW.Trod enc Try.prog W base spare held 24 (.slice a len cap) d ps) : ∃ zs : List (ByteArray × List Int), zs.length = len ∧ len ≤ cap ∧ (a = none → zs.length = 0 ∧ cap = 0) ∧ Kd.C kP W a zs.length zs ∧ (∀ z ∈ zs, z.1.size ≤ maxLen) ∧
      zs.length ≤ Rows.uptoBulk d ∧ (zs.map (·.2.length)).sum ≤ Rows.uptoBulk d ∧ ∀ z ∈ zs, z.1.size + 1 ≤ Rows.uptoBulk d := by
  obtain ⟨fuel, hf⟩ := h
  rcases open_slice_fields Try.underlying24 Try.underlying27 (by kernel_rfl) (by kernel_rfl) hf with ⟨hcs, _⟩ | ⟨x, l, c, m, D, Pl, hcs, _, hl, hm, hmm, hx, hi⟩
  · simp [Value.cells] at hcs
    obtain ⟨rfl, rfl, rfl⟩ := hcs
    exact ⟨[], rfl, Nat.le_refl _, fun _ => ⟨rfl, rfl⟩, ⟨rfl, by simp, fun h => absurd h (by simp)⟩, fun z hz => by simp at hz, by simp, by simp, fun z hz => by simp at hz⟩
  · simp [Value.cells] at hcs
    obtain ⟨rfl, rfl, rfl⟩ := hcs
    obtain ⟨hx, _⟩ := Prod.mk.inj hx
    subst hx
    have hlm : len ≤ m := by
      rw [hmm]
      split
      · exact hl
      · exact Nat.le_refl _
    have each : ∀ i : Nat, ∃ z : ByteArray × List Int, i < m → ∃ (b : Option Addr) (c : Nat), W.cell? (x.add (i * 2)) = some (.string z.1) ∧ W.cell? (x.add (i * 2 + 1)) = some (.slice b z.2.length c) ∧ z.2.length ≤ c ∧ Kd.C (Kd.int .i64) W b z.2.length z.2 ∧ z.1.size ≤ maxLen ∧ z.2.length ≤ Rows.uptoBulk (D i) ∧ z.1.size + 1 ≤ Rows.uptoBulk (D i) := by
      intro i
      by_cases him : i < m
      · obtain ⟨ys, n, hD, _, _, hf⟩ := hi i him
        obtain ⟨v0, y0, hc0, hy0, ht0⟩ := hf 0 _ rfl
        obtain ⟨v1, y1, hc1, hy1, ht1⟩ := hf 1 _ rfl
        obtain ⟨s, e0, e0b, hs⟩ := DataW.trod_string Try.underlying9 ht0
        obtain ⟨b, zs, cc, e1, hcc, hC, hb⟩ := ints_open ht1
        simp only [List.cons.injEq, and_true] at e0 e1
        subst e0 e1
        have hm0 : y0.1 ∈ ys.map (·.1) := List.mem_map_of_mem (List.mem_of_getElem? hy0)
        have hm1 : y1.1 ∈ ys.map (·.1) := List.mem_map_of_mem (List.mem_of_getElem? hy1)
        have b0 := bulks.part_le hm0
        have b1 := bulks.part_le hm1
        have hag : Rows.uptoBulkAll (ys.map (·.1)) ≤ Rows.uptoBulk (D i) := by
          rw [hD]
          simp only [Rows.uptoBulk]
          omega
        have hy0b : Rows.uptoBulk y0.1 = s.size + 1 := by
          subst e0b
          rw [bulks.string_eq, Array.length_toList]
          rfl
        exact ⟨(s, zs), fun _ => ⟨b, cc, hc0, hc1, hcc, hC, hs, by show zs.length ≤ _; omega, by show s.size + 1 ≤ _; omega⟩⟩
      · exact ⟨(ByteArray.empty, []), fun h => absurd h him⟩
    obtain ⟨f, hf'⟩ := Classical.axiomOfChoice each
    have hlen : ((List.range len).map f).length = len := by simp
    have hse := bulks.slice_elems ((List.range len).map D) ((List.range (m - len)).map fun j => D (len + j))
    have hsl := bulks.slice_le ((List.range len).map D) ((List.range (m - len)).map fun j => D (len + j))
    have hsum := sum_le D (fun i => (f i).2.length) len (fun i hil => by obtain ⟨_, _, _, _, _, _, _, hb, _⟩ := hf' i (by omega); exact hb)
    refine ⟨(List.range len).map f, hlen, hl, (fun h => by cases h), ⟨rfl, by rw [hlen]; unfold maxLen at hm; omega, fun _ => ⟨x, rfl, fun j p hj => ?_⟩⟩, fun z hz => ?_, ?_, ?_, fun z hz => ?_⟩
    · have hj' := (List.getElem?_eq_some_iff.1 hj).1
      rw [hlen] at hj'
      have hp' : p = f j := by
        have := hj
        simp [hj'] at this
        exact this.symm
      subst hp'
      obtain ⟨b, c', h0, h1, h2, h3, _⟩ := hf' j (by omega)
      refine ⟨[.string (f j).1, .slice b (f j).2.length c'], rfl, ⟨[.string (f j).1], [.slice b (f j).2.length c'], rfl, rfl, ⟨b, c', rfl, h2, h3⟩⟩, fun i u hu => ?_⟩
      match i, hu with
      | 0, hu =>
        simp at hu
        subst hu
        exact h0
      | 1, hu =>
        simp at hu
        subst hu
        exact h1
      | i + 2, hu => simp at hu
    · obtain ⟨i, hil, rfl⟩ := List.mem_map.1 hz
      have hil' := List.mem_range.1 hil
      obtain ⟨_, _, _, _, _, _, hs, _⟩ := hf' i (by omega)
      exact hs
    · rw [hlen]
      simp only [List.length_map, List.length_range] at hsl
      omega
    · rw [List.map_map]
      have e : ((fun z : ByteArray × List Int => z.2.length) ∘ f) = fun i => (f i).2.length := rfl
      rw [e]
      omega
    · obtain ⟨i, hil, rfl⟩ := List.mem_map.1 hz
      have hil' := List.mem_range.1 hil
      obtain ⟨_, _, _, _, _, _, _, _, hb⟩ := hf' i (by omega)
      have hp := bulks.part_le (H := H) (d := D i) (l := (List.range len).map D) (List.mem_map.2 ⟨i, hil, rfl⟩)
      omega
theorem iso_C {α β : Type} {d : Kd β} {f : α → β} {g : β → α} (hfg : ∀ x, f (g x) = x) {w : World} {A : Option Addr} {n : Nat} {xs : List β} (h : Kd.C d w A n xs) : Kd.C (Kd.iso d f) w A n (xs.map g) := by
  obtain ⟨h1, h2, h3⟩ := h
  refine ⟨by rw [List.length_map]; exact h1, h2, fun hn => ?_⟩
  obtain ⟨ad, e, hc⟩ := h3 hn
  refine ⟨ad, e, fun j p hp => ?_⟩
  rw [List.getElem?_map] at hp
  obtain ⟨x, hx, rfl⟩ := Option.map_eq_some_iff.1 hp
  obtain ⟨c, hl, hK, hcell⟩ := hc j x hx
  exact ⟨c, hl, by show d.K w (f (g x)) c; rw [hfg]; exact hK, hcell⟩
end Go.Proofs.Ytkonloadedbpkaa.NodesIn
