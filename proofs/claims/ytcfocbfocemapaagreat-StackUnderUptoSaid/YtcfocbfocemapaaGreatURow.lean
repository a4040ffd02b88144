/- For every play and entries below of at most 1048576 values and letters together: what lies under the last entries is not looked at (StackUnder answers true, its arguments as they were). -/
import Derived.Test.YtcfocbfocemapaaGreatRows
import Derived.Test.YtcfocbfocemapaaGreatU20
import Derived.ProofKit
import Derived.OpenShut
import Derived.JoinedCond
import Derived.ShutString
import Derived.ChangeOld
import Derived.Carry
import Derived.SizedLaws
import Derived.SliceStrings
import Derived.Deep.DeepHandedRow
import Derived.Deep.Slices
import Derived.Deep.Fields
import Derived.ChangeSame
import Derived.WalkKit
import Derived.Lib.SmallJoins
namespace Go.Proofs.YtcfocbfocemapaaGreat.bulks

theorem one_le {H : Type} (d : DataW H) : 1 ≤ Rows.uptoBulk d := by
  cases d with
  | lit l => cases l <;> simp [Rows.uptoBulk]
  | nil => simp [Rows.uptoBulk]
  | ptr d => simp [Rows.uptoBulk]
  | slice elems spare => simp [Rows.uptoBulk]
  | agg parts => simp [Rows.uptoBulk]
  | iface t d => simp [Rows.uptoBulk]
  | map entries => simp [Rows.uptoBulk]
  | held h => simp [Rows.uptoBulk]

/-- a part's bulk is at most the whole's -/
theorem part_le {H : Type} {d : DataW H} {l : List (DataW H)} (h : d ∈ l) : Rows.uptoBulk d ≤ Rows.uptoBulkAll l := by
  induction l with
  | nil => cases h
  | cons x r ih =>
    simp only [Rows.uptoBulkAll]
    cases List.mem_cons.1 h with
    | inl e => subst e; omega
    | inr e => have := ih e; omega

theorem append {H : Type} (l r : List (DataW H)) : Rows.uptoBulkAll (l ++ r) = Rows.uptoBulkAll l + Rows.uptoBulkAll r := by
  induction l with
  | nil => simp [Rows.uptoBulkAll]
  | cons x l ih => simp only [List.cons_append, Rows.uptoBulkAll, ih]; omega

/-- so many values at the most -/
theorem length_le {H : Type} (l : List (DataW H)) : l.length ≤ Rows.uptoBulkAll l := by
  induction l with
  | nil => simp [Rows.uptoBulkAll]
  | cons x r ih => have := one_le x; simp only [Rows.uptoBulkAll, List.length_cons]; omega

/-- a slice's places, and what they hold -/
theorem slice_le {H : Type} (elems spare : List (DataW H)) : elems.length + spare.length + 1 ≤ Rows.uptoBulk (.slice elems spare) := by
  have h1 := length_le elems
  have h2 := length_le spare
  simp only [Rows.uptoBulk]
  omega
theorem slice_elems {H : Type} (elems spare : List (DataW H)) : Rows.uptoBulkAll elems + 1 ≤ Rows.uptoBulk (.slice elems spare) := by
  simp only [Rows.uptoBulk]
  omega

/-- a string's letters -/
theorem string_eq {H : Type} (bytes : List UInt8) : Rows.uptoBulk (DataW.lit (H := H) (.string bytes)) = bytes.length + 1 := by
  simp [Rows.uptoBulk]

/-- THE BOUND, as the builder hands it over ('hk') -/
theorem bound {H : Type} {l : List (DataW H)} (hk : Rows.uptoSmall H l = true) : Rows.uptoBulkAll l ≤ 1048576 := by
  simpa [Rows.uptoSmall] using hk

/-- ROOM: a slice of n elements of b bytes, grown by append: below the 2^48 bytes that append, make and a Builder bear. Here n up to 2^21, b up to 4,096: put your own numbers. -/
theorem room {n b : Nat} (hn : n ≤ 2097152) (hb : b ≤ 4096) : (n + n / 4 + 192) * b ≤ 281474976710656 := by
  have h : (n + n / 4 + 192) * b ≤ 2621632 * 4096 := Nat.mul_le_mul (by omega) hb
  omega

end Go.Proofs.YtcfocbfocemapaaGreat.bulks

namespace Go.Proofs.YtcfocbfocemapaaGreat.InA
open Go.ChangeShapes Go.WideShapes Go.ChangeAt Go.RowKit Go.Deep
open Go.Proofs.YtcfocbfocemapaaGreat.PStackPlays Go.Proofs.YtcfocbfocemapaaGreat.PlayP Go.Proofs.YtcfocbfocemapaaGreat.Sets Go.Proofs.YtcfocbfocemapaaGreat.IterA Go.Proofs.YtcfocbfocemapaaGreat.DistB Go.Proofs.YtcfocbfocemapaaGreat.SubA Go.Proofs.YtcfocbfocemapaaGreat.BindW Go.Proofs.YtcfocbfocemapaaGreat.FrsA Go.Proofs.YtcfocbfocemapaaGreat.UndC Go.Proofs.YtcfocbfocemapaaGreat.UndD
open Go.Proofs.YtcfocbfocemapaaGreatW.PrintWords
set_option linter.unusedVariables false

/-- An argument that is a slice of structs of one-cell fields. -/
theorem open_slice_fields {H : Type} {enc : TypeId × Value → H} {P : Program} {w : World} {base : Nat} {spare : Nat → Bool} {held : Bool} {t e : TypeId} {fs : Array Field} {fuel : Nat} {cs : List Value} {x : DataW H × List MemPlace} (ht : P.underlying t = some (.slice e)) (he : P.underlying e = some (.struct fs))
    (hone : oneCellFields P fs = true) (hC : P.cellsOf e = fs.size) (h : DataW.trod enc P w base spare held fuel t cs = some x) :
    (cs = [.slice none 0 0] ∧ x = (.nil, [])) ∨
    ∃ (a : Addr) (len cap m : Nat) (D : Nat → DataW H) (Pl : Nat → List MemPlace), cs = [.slice (some a) len cap] ∧ base ≤ a.block ∧ len ≤ cap ∧ cap ≤ maxLen ∧ m = (if spare a.block then cap else len) ∧
      x = (.slice ((List.range len).map D) ((List.range (m - len)).map fun j => D (len + j)), MemPlace.row a (m * fs.size) ++ (List.range m).flatMap Pl) ∧
      ∀ i, i < m → ∃ (ys : List (DataW H × List MemPlace)) (n : Nat), D i = .agg (ys.map (·.1)) ∧ Pl i = ys.flatMap (·.2) ∧ ys.length = fs.size ∧
        ∀ (j : Nat) (f : Field), fs[j]? = some f → ∃ (v : Value) (y : DataW H × List MemPlace), w.cell? (a.add (i * fs.size + j)) = some v ∧ ys[j]? = some y ∧ DataW.trod enc P w base spare held n f.type [v] = some y := by
  rcases open_slice ht h with h0 | ⟨a, len, cap, m, n, D, Pl, hcs, hb, hl, hm, hmm, hx, hi⟩
  · exact .inl h0
  · refine .inr ⟨a, len, cap, m, D, Pl, hcs, hb, hl, hm, hmm, by rw [hC] at hx; exact hx, fun i him => ?_⟩
    obtain ⟨cs', hc, ht'⟩ := hi i him
    rw [hC] at hc
    obtain ⟨ys, n', hn', hy, hlen, hyl, hf⟩ := DataW.trod_struct he ht'
    obtain ⟨_, hcl, hat⟩ := World.cells?_some hc
    simp only [Prod.mk.injEq] at hy
    refine ⟨ys, n', hy.1, hy.2, hyl, fun j f hj => ?_⟩
    obtain ⟨ho, hk⟩ := hone_of hone j f hj
    have hjl : j < fs.size := (Array.getElem?_eq_some_iff.1 hj).1
    have hcell := hat j hjl
    have hv : cs'[j]? = some (cs'[j]'(by omega)) := List.getElem?_eq_getElem (by omega)
    have h1 := hf j f hj
    rw [ho, hk] at h1
    have hone' : (cs'.drop j).take 1 = [cs'[j]'(by omega)] := by
      rw [List.drop_eq_getElem_cons (by omega)]
      rfl
    rw [hone'] at h1
    have hys : ys[j]? = some (ys[j]'(by omega)) := List.getElem?_eq_getElem (by omega)
    refine ⟨_, _, ?_, hys, h1.trans hys⟩
    rw [← Go.Deep.add_add, hcell, hv]

theorem add_one (a : Addr) (n j : Nat) (hj : 0 < j) : a.add (n + j) = ⟨(a.add n).block, (a.add n).off + j, none⟩ := by
  unfold Addr.add
  split
  · omega
  · split
    · rename_i h
      subst h
      simp
    · simp; omega

section
variable {H : Type} {enc : TypeId × Value → H} {W : World} {base : Nat} {spare : Nat → Bool} {held : Bool}
/-- What a slice of structs that came in reads as. -/
theorem rows_in {α : Type} (d0 : α) {t e : TypeId} {fs : Array Field} (ht : Tryz.prog.underlying t = some (.slice e)) (he : Tryz.prog.underlying e = some (.struct fs)) (hone : oneCellFields Tryz.prog fs = true) (hC : Tryz.prog.cellsOf e = fs.size) (R : Addr → Nat → α → Prop) (b : α → Nat)
    (hR : ∀ (x : Addr) (i : Nat) (ys : List (DataW H × List MemPlace)) (n : Nat), (∀ (j : Nat) (f : Field), fs[j]? = some f → ∃ (v : Value) (y : DataW H × List MemPlace), W.cell? (x.add (i * fs.size + j)) = some v ∧ ys[j]? = some y ∧ DataW.trod enc Tryz.prog W base spare held n f.type [v] = some y) → ∃ z, R x i z ∧ b z ≤ Rows.uptoBulkAll (ys.map (·.1)))
    {a : Option Addr} {len cap : Nat} {d : DataW H} {ps : List MemPlace} (h : DataW.Trod enc Tryz.prog W base spare held t (.slice a len cap) d ps) :
    ∃ zs : List α, zs.length = len ∧ len ≤ cap ∧ zs.length ≤ Rows.uptoBulk d ∧ zs.length ≤ maxLen ∧ (∀ z ∈ zs, b z ≤ Rows.uptoBulk d) ∧ ∀ i (hi : i < zs.length), ∃ x, a = some x ∧ R x i zs[i] := by
  obtain ⟨fuel, hf⟩ := h
  rcases open_slice_fields ht he hone hC hf with ⟨hcs, _⟩ | ⟨x, l, c, m, D, Pl, hcs, _, hl, hm, hmm, hx, hi⟩
  · simp [Value.cells] at hcs
    obtain ⟨rfl, rfl, rfl⟩ := hcs
    exact ⟨[], rfl, Nat.le_refl _, by simp, by simp, fun z hz => by simp at hz, fun i hi => by simp at hi⟩
  · simp [Value.cells] at hcs
    obtain ⟨rfl, rfl, rfl⟩ := hcs
    obtain ⟨hx, _⟩ := Prod.mk.inj hx
    subst hx
    have hlm : len ≤ m := by
      rw [hmm]
      split
      · exact hl
      · exact Nat.le_refl _
    have each : ∀ i : Nat, ∃ z : α, i < m → R x i z ∧ b z ≤ Rows.uptoBulk (D i) := by
      intro i
      by_cases him : i < m
      · obtain ⟨ys, n, hD, _, _, hf⟩ := hi i him
        obtain ⟨z, h1, h2⟩ := hR x i ys n hf
        refine ⟨z, fun _ => ⟨h1, ?_⟩⟩
        rw [hD]
        simp only [Rows.uptoBulk]
        omega
      · exact ⟨d0, fun h => absurd h him⟩
    obtain ⟨f, hf'⟩ := Classical.axiomOfChoice each
    have hlen : ((List.range len).map f).length = len := by simp
    have hse := bulks.slice_elems ((List.range len).map D) ((List.range (m - len)).map fun j => D (len + j))
    have hsl := bulks.slice_le ((List.range len).map D) ((List.range (m - len)).map fun j => D (len + j))
    refine ⟨(List.range len).map f, hlen, hl, ?_, by omega, fun z hz => ?_, fun i hil => ⟨x, rfl, ?_⟩⟩
    · rw [hlen]
      simp only [List.length_map, List.length_range] at hsl
      omega
    · obtain ⟨i, hil, rfl⟩ := List.mem_map.1 hz
      have hil' := List.mem_range.1 hil
      have hb := (hf' i (by omega)).2
      have hp := bulks.part_le (H := H) (d := D i) (l := (List.range len).map D) (List.mem_map.2 ⟨i, hil, rfl⟩)
      omega
    · have hil2 : i < len := by rw [hlen] at hil; exact hil
      have e1 : ((List.range len).map f)[i] = f i := by simp
      rw [e1]
      exact (hf' i (by omega)).1
/-- What a slice of numbers that came in reads as, and how long it may be. -/
theorem ints_open {fuel : Nat} {cs : List Value} {x : DataW H × List MemPlace}
    (hf : DataW.trod enc Tryz.prog W base spare held fuel 24 cs = some x) : ∃ (a : Option Addr) (zs : List Int) (cap : Nat), cs = [.slice a zs.length cap] ∧ zs.length ≤ cap ∧ Kd.C (Kd.int .i64) W a zs.length zs ∧ zs.length ≤ Rows.uptoBulk x.1 ∧ ∀ z ∈ zs, IntOK z := by
  rcases open_ints Tryz.underlying24 Tryz.underlying3 (by kernel_rfl) hf with ⟨hcs, _⟩ | ⟨ad, len, cap, zs, hcs, _, hl, hm, hz, hx, hcell, hwz⟩
  · exact ⟨none, [], 0, hcs, Nat.le_refl _, Kd.C_nil _ _, by simp, fun z hz => by cases hz⟩
  · subst hx
    have hz' : len ≤ zs.length := by
      rw [hz]
      split
      · exact hl
      · exact Nat.le_refl _
    have hlen : (zs.take len).length = len := by rw [List.length_take]; omega
    refine ⟨some ad, zs.take len, cap, by rw [hlen]; exact hcs, by omega, ?_, ?_, fun z hzz => hwz z (List.mem_of_mem_take hzz)⟩
    · refine ⟨rfl, by rw [hlen]; unfold maxLen at hm; omega, fun _ => ⟨ad, rfl, fun j p hj => ⟨[.int .i64 p], rfl, rfl, fun i u hu => ?_⟩⟩⟩
      have hi : i = 0 := by
        have := (List.getElem?_eq_some_iff.1 hu).1
        simpa using this
      subst hi
      have hu' : u = .int .i64 p := by simpa using hu.symm
      subst hu'
      have hj' := (List.getElem?_eq_some_iff.1 hj).1
      rw [List.length_take] at hj'
      have hc := hcell j (by omega)
      rw [List.getElem?_take] at hj
      split at hj
      · have : zs.getD j 0 = p := by rw [List.getD_eq_getElem?_getD, hj]; rfl
        rw [this] at hc
        rw [show j * (Kd.int .i64).sz + 0 = j from by show j * 1 + 0 = j; omega]
        exact hc
      · cases hj
    · have h1 := bulks.slice_le (H := H) (lits .i64 (zs.take len)) (lits .i64 (zs.drop len))
      have h2 : (lits (H := H) .i64 (zs.take len)).length = (zs.take len).length := by simp [lits]
      show _ ≤ Rows.uptoBulk (DataW.slice _ _)
      omega
theorem ints_in {a : Option Addr} {len cap : Nat} {d : DataW H} {ps : List MemPlace} (h : DataW.Trod enc Tryz.prog W base spare held 24 (.slice a len cap) d ps) : ∃ zs : List Int, zs.length = len ∧ len ≤ cap ∧ Kd.C (Kd.int .i64) W a zs.length zs ∧ zs.length ≤ Rows.uptoBulk d ∧ ∀ z ∈ zs, IntOK z := by
  obtain ⟨fuel, hf⟩ := h
  obtain ⟨a2, zs, c2, e, h1, h2, h3, h4⟩ := ints_open hf
  simp [Value.cells] at e
  obtain ⟨rfl, rfl, rfl⟩ := e
  exact ⟨zs, rfl, h1, h2, h3, h4⟩
theorem pairs_in {a : Option Addr} {len cap : Nat} {d : DataW H} {ps : List MemPlace} (h : DataW.Trod enc Tryz.prog W base spare held 23 (.slice a len cap) d ps) : ∃ zs : List S50, zs.length = len ∧ len ≤ cap ∧ Kd.C k50 W a zs.length zs ∧ zs.length ≤ Rows.uptoBulk d ∧ ∀ z ∈ zs, PairOK (prP z) := by
  obtain ⟨zs, h1, h2, h3, h4, h5, h6⟩ := rows_in (⟨0, 0⟩ : S50) Tryz.underlying23 Tryz.underlying50 (by kernel_rfl) (by kernel_rfl) (fun x i z => W.cell? (x.add (i * 2)) = some (.int .i64 z.f0) ∧ W.cell? (x.add (i * 2 + 1)) = some (.int .i64 z.f1) ∧ PairOK (prP z)) (fun _ => 0) (fun x i ys n hf => by
    obtain ⟨v0, y0, hc0, hy0, ht0⟩ := hf 0 _ rfl
    obtain ⟨v1, y1, hc1, hy1, ht1⟩ := hf 1 _ rfl
    obtain ⟨n0, e0, _, w0⟩ := DataW.trod_int Tryz.underlying3 ht0
    obtain ⟨n1, e1, _, w1⟩ := DataW.trod_int Tryz.underlying3 ht1
    simp only [List.cons.injEq, and_true] at e0 e1
    subst e0 e1
    exact ⟨⟨n0, n1⟩, ⟨hc0, hc1, w0, w1⟩, Nat.zero_le _⟩) h
  refine ⟨zs, h1, h2, ⟨rfl, by unfold maxLen at h4; omega, fun hn => ?_⟩, h3, fun z hz => ?_⟩
  · obtain ⟨x, e, _⟩ := h6 0 hn
    refine ⟨x, e, fun j p hp => ?_⟩
    have hj := (List.getElem?_eq_some_iff.1 hp).1
    have hq : zs[j] = p := (List.getElem?_eq_some_iff.1 hp).2
    obtain ⟨x2, e2, k0, k1, _⟩ := h6 j hj
    rw [e] at e2
    cases e2
    rw [hq] at k0 k1
    refine ⟨[.int .i64 p.f0, .int .i64 p.f1], rfl, k50_mk _ p, fun i u hu => ?_⟩
    match i, hu with
    | 0, hu => simp at hu; subst hu; exact k0
    | 1, hu => simp at hu; subst hu; exact k1
    | i + 2, hu => simp at hu
  · obtain ⟨i, hi, rfl⟩ := List.mem_iff_getElem.1 hz
    obtain ⟨_, _, _, _, h⟩ := h6 i hi
    exact h
theorem saids_in {a : Option Addr} {len cap : Nat} {d : DataW H} {ps : List MemPlace} (h : DataW.Trod enc Tryz.prog W base spare held 22 (.slice a len cap) d ps) : ∃ zs : List Sd, zs.length = len ∧ len ≤ cap ∧ SaidC W a zs ∧ zs.length ≤ Rows.uptoBulk d ∧ ∀ z ∈ zs, z.e.length ≤ Rows.uptoBulk d := by
  obtain ⟨zs, h1, h2, h3, h4, h5, h6⟩ := rows_in (⟨0, 0, 0, []⟩ : Sd) Tryz.underlying22 Tryz.underlying83 (by kernel_rfl) (by kernel_rfl) (fun x i z => ∃ (EA : Option Addr) (ec : Nat), W.cell? (x.add (i * 4)) = some (.int .i64 z.k) ∧ W.cell? ⟨(x.add (i * 4)).block, (x.add (i * 4)).off + 1, none⟩ = some (.int .i64 z.a) ∧
      W.cell? ⟨(x.add (i * 4)).block, (x.add (i * 4)).off + 2, none⟩ = some (.int .i64 z.b) ∧ W.cell? ⟨(x.add (i * 4)).block, (x.add (i * 4)).off + 3, none⟩ = some (.slice EA z.e.length ec) ∧ z.e.length ≤ ec ∧ Kd.C (Kd.int .i64) W EA z.e.length z.e) (fun z => z.e.length) (fun x i ys n hf => by
    obtain ⟨v0, y0, hc0, hy0, ht0⟩ := hf 0 _ rfl
    obtain ⟨v1, y1, hc1, hy1, ht1⟩ := hf 1 _ rfl
    obtain ⟨v2, y2, hc2, hy2, ht2⟩ := hf 2 _ rfl
    obtain ⟨v3, y3, hc3, hy3, ht3⟩ := hf 3 _ rfl
    obtain ⟨n0, e0, _⟩ := DataW.trod_int Tryz.underlying3 ht0
    obtain ⟨n1, e1, _⟩ := DataW.trod_int Tryz.underlying3 ht1
    obtain ⟨n2, e2, _⟩ := DataW.trod_int Tryz.underlying3 ht2
    obtain ⟨EA, ee, ec, e3, hec, hE, hb, _⟩ := ints_open ht3
    simp only [List.cons.injEq, and_true] at e0 e1 e2 e3
    subst e0 e1 e2 e3
    rw [show (#[_, _, _, _] : Array Field).size = 4 from rfl] at hc0 hc1 hc2 hc3
    rw [add_one _ _ _ (by omega)] at hc1 hc2 hc3
    refine ⟨⟨n0, n1, n2, ee⟩, ⟨EA, ec, hc0, hc1, hc2, hc3, hec, hE⟩, ?_⟩
    have hm : y3.1 ∈ ys.map (·.1) := List.mem_map_of_mem (List.mem_of_getElem? hy3)
    have := bulks.part_le hm
    show ee.length ≤ _
    omega) h
  refine ⟨zs, h1, h2, fun i hi => ?_, h3, h5⟩
  obtain ⟨x, e, EA, ec, h⟩ := h6 i hi
  exact ⟨x, EA, ec, e, h⟩
theorem ops_in {a : Option Addr} {len cap : Nat} {d : DataW H} {ps : List MemPlace} (h : DataW.Trod enc Tryz.prog W base spare held 25 (.slice a len cap) d ps) (hd : Rows.uptoBulk d ≤ 1048576) : ∃ zs : List Ob, zs.length = len ∧ len ≤ cap ∧ OpC W a zs ∧ zs.length ≤ Rows.uptoBulk d ∧ ∀ z ∈ zs, ObOK z := by
  obtain ⟨zs, h1, h2, h3, h4, h5, h6⟩ := rows_in (⟨0, [], 0⟩ : Ob) Tryz.underlying25 Tryz.underlying55 (by kernel_rfl) (by kernel_rfl) (fun x i z => (∃ (EA : Option Addr) (ec : Nat), W.cell? (x.add (i * 3)) = some (.int .i64 z.k) ∧ W.cell? ⟨(x.add (i * 3)).block, (x.add (i * 3)).off + 1, none⟩ = some (.slice EA z.e.length ec) ∧
      W.cell? ⟨(x.add (i * 3)).block, (x.add (i * 3)).off + 2, none⟩ = some (.int .i64 z.n) ∧ z.e.length ≤ ec ∧ Kd.C (Kd.int .i64) W EA z.e.length z.e) ∧ ∀ y ∈ z.e, IntOK y) (fun z => z.e.length) (fun x i ys n hf => by
    obtain ⟨v0, y0, hc0, hy0, ht0⟩ := hf 0 _ rfl
    obtain ⟨v1, y1, hc1, hy1, ht1⟩ := hf 1 _ rfl
    obtain ⟨v2, y2, hc2, hy2, ht2⟩ := hf 2 _ rfl
    obtain ⟨n0, e0, _⟩ := DataW.trod_int Tryz.underlying3 ht0
    obtain ⟨EA, ee, ec, e1, hec, hE, hb, hio⟩ := ints_open ht1
    obtain ⟨n2, e2, _⟩ := DataW.trod_int Tryz.underlying3 ht2
    simp only [List.cons.injEq, and_true] at e0 e1 e2
    subst e0 e1 e2
    rw [show (#[_, _, _] : Array Field).size = 3 from rfl] at hc0 hc1 hc2
    rw [add_one _ _ _ (by omega)] at hc1 hc2
    refine ⟨⟨n0, ee, n2⟩, ⟨⟨EA, ec, hc0, hc1, hc2, hec, hE⟩, hio⟩, ?_⟩
    have hm : y1.1 ∈ ys.map (·.1) := List.mem_map_of_mem (List.mem_of_getElem? hy1)
    have := bulks.part_le hm
    show ee.length ≤ _
    omega) h
  refine ⟨zs, h1, h2, fun i hi => ?_, h3, fun z hz => ⟨by have := h5 z hz; omega, ?_⟩⟩
  · obtain ⟨x, e, ⟨EA, ec, h⟩, _⟩ := h6 i hi
    exact ⟨x, EA, ec, e, h⟩
  · obtain ⟨i, hi, rfl⟩ := List.mem_iff_getElem.1 hz
    obtain ⟨_, _, _, h⟩ := h6 i hi
    exact h
/-- Lists of expressions that came in. -/
theorem exprs_in {a : Option Addr} {len cap : Nat} {d : DataW H} {ps : List MemPlace} (h : DataW.Trod enc Tryz.prog W base spare held 29 (.slice a len cap) d ps) : ∃ zs : List Ex, zs.length = len ∧ len ≤ cap ∧ Kd.C kE W a zs.length zs ∧ zs.length ≤ Rows.uptoBulk d ∧ ∀ z ∈ zs, z.length ≤ Rows.uptoBulk d ∧ ∀ y ∈ z, IntOK y := by
  obtain ⟨fuel, hf⟩ := h
  rcases open_slice Tryz.underlying29 hf with ⟨hcs, _⟩ | ⟨x, l, c, m, n, D, Pl, hcs, _, hl, hm, hmm, hx, hi⟩
  · simp [Value.cells] at hcs
    obtain ⟨rfl, rfl, rfl⟩ := hcs
    exact ⟨[], rfl, Nat.le_refl _, Kd.C_nil _ _, by simp, fun z hz => by simp at hz⟩
  · simp [Value.cells] at hcs
    obtain ⟨rfl, rfl, rfl⟩ := hcs
    obtain ⟨hx, _⟩ := Prod.mk.inj hx
    subst hx
    have hc1 : Tryz.prog.cellsOf 24 = 1 := by kernel_rfl
    rw [hc1] at hi
    have hlm : len ≤ m := by
      rw [hmm]
      split
      · exact hl
      · exact Nat.le_refl _
    have each : ∀ i : Nat, ∃ z : Ex, i < m → (∃ (EA : Option Addr) (ec : Nat), W.cell? (x.add i) = some (.slice EA z.length ec) ∧ z.length ≤ ec ∧ Kd.C (Kd.int .i64) W EA z.length z) ∧ z.length ≤ Rows.uptoBulk (D i) ∧ ∀ y ∈ z, IntOK y := by
      intro i
      by_cases him : i < m
      · obtain ⟨cs', hcc, ht'⟩ := hi i him
        obtain ⟨EA, zz, ec, e1, hec, hE, hb, hio⟩ := ints_open ht'
        subst e1
        obtain ⟨_, hcl, hat⟩ := World.cells?_some hcc
        have h0 := hat 0 (by omega)
        rw [Nat.mul_one] at h0
        refine ⟨zz, fun _ => ⟨⟨EA, ec, ?_, hec, hE⟩, hb, hio⟩⟩
        have e0 : (x.add i).add 0 = x.add i := by simp [Addr.add]
        rw [e0] at h0
        simpa using h0
      · exact ⟨[], fun h => absurd h him⟩
    obtain ⟨f, hf'⟩ := Classical.axiomOfChoice each
    have hlen : ((List.range len).map f).length = len := by simp
    have hse := bulks.slice_elems ((List.range len).map D) ((List.range (m - len)).map fun j => D (len + j))
    have hsl := bulks.slice_le ((List.range len).map D) ((List.range (m - len)).map fun j => D (len + j))
    refine ⟨(List.range len).map f, hlen, hl, ⟨rfl, by rw [hlen]; unfold maxLen at hm; omega, fun _ => ⟨x, rfl, fun j p hj => ?_⟩⟩, ?_, fun z hz => ?_⟩
    · have hj' := (List.getElem?_eq_some_iff.1 hj).1
      rw [hlen] at hj'
      have hp' : p = f j := by
        have := hj
        simp [hj'] at this
        exact this.symm
      subst hp'
      obtain ⟨⟨EA, ec, k0, k1, k2⟩, _⟩ := hf' j (by omega)
      refine ⟨[.slice EA (f j).length ec], rfl, ⟨EA, ec, rfl, k1, k2⟩, fun i u hu => ?_⟩
      have hi0 : i = 0 := by
        have := (List.getElem?_eq_some_iff.1 hu).1
        simpa using this
      subst hi0
      simp at hu
      subst hu
      rw [show j * kE.sz + 0 = j from by show j * 1 + 0 = j; omega]
      exact k0
    · rw [hlen]
      simp only [List.length_map, List.length_range] at hsl
      omega
    · obtain ⟨i, hil, rfl⟩ := List.mem_map.1 hz
      have hil' := List.mem_range.1 hil
      obtain ⟨_, hb, hio⟩ := hf' i (by omega)
      have hp := bulks.part_le (H := H) (d := D i) (l := (List.range len).map D) (List.mem_map.2 ⟨i, hil, rfl⟩)
      exact ⟨by omega, hio⟩
end
end Go.Proofs.YtcfocbfocemapaaGreat.InA

namespace Go.Proofs.YtcfocbfocemapaaGreat.InB
open Go.ChangeShapes Go.WideShapes Go.ChangeAt Go.RowKit Go.Deep Go.Joins
open Go.Proofs.YtcfocbfocemapaaGreat.PStackPlays Go.Proofs.YtcfocbfocemapaaGreat.PlayP Go.Proofs.YtcfocbfocemapaaGreat.Sets Go.Proofs.YtcfocbfocemapaaGreat.DistB Go.Proofs.YtcfocbfocemapaaGreat.FrsA Go.Proofs.YtcfocbfocemapaaGreat.UndC Go.Proofs.YtcfocbfocemapaaGreat.UndD Go.Proofs.YtcfocbfocemapaaGreat.InA
open Go.Proofs.YtcfocbfocemapaaGreatW.PrintWords
set_option linter.unusedVariables false

/-- A struct of four one-cell fields, by value, opened. -/
theorem open_agg4 {H : Type} {enc : TypeId × Value → H} {P : Program} {w : World} {base : Nat} {spare : Nat → Bool} {held : Bool} {r : Reach} {b0 : Nat} {t : TypeId} {f0 f1 f2 f3 : Field} {v : Value} {d : DataW H} {p : List MemPlace} (hs : P.underlying t = some (.struct #[f0, f1, f2, f3])) (hone : oneCellFields P #[f0, f1, f2, f3] = true) (hC : P.cellsOf t = 4)
    (hv : Value.okWide P w r b0 t v) (h : DataW.Trod enc P w base spare held t v d p) :
    ∃ (v0 v1 v2 v3 : Value) (y0 y1 y2 y3 : DataW H × List MemPlace) (n : Nat), v = .agg #[v0, v1, v2, v3] ∧ d = .agg [y0.1, y1.1, y2.1, y3.1] ∧ p = y0.2 ++ (y1.2 ++ (y2.2 ++ y3.2)) ∧
      DataW.trod enc P w base spare held n f0.type [v0] = some y0 ∧ DataW.trod enc P w base spare held n f1.type [v1] = some y1 ∧ DataW.trod enc P w base spare held n f2.type [v2] = some y2 ∧ DataW.trod enc P w base spare held n f3.type [v3] = some y3 := by
  obtain ⟨cs, rfl, hsz⟩ := okWide_struct hs hv
  obtain ⟨l⟩ := cs
  match l, hsz.trans hC with
  | [c0, c1, c2, c3], _ =>
  obtain ⟨fuel, hf⟩ := h
  obtain ⟨xs, n, _, hx, _, hlen, hg⟩ := DataW.trod_struct hs hf
  match xs, hlen with
  | [y0, y1, y2, y3], _ =>
  have g0 := hg 0 f0 rfl
  have g1 := hg 1 f1 rfl
  have g2 := hg 2 f2 rfl
  have g3 := hg 3 f3 rfl
  obtain ⟨o0, k0⟩ := hone_of hone 0 f0 rfl
  obtain ⟨o1, k1⟩ := hone_of hone 1 f1 rfl
  obtain ⟨o2, k2⟩ := hone_of hone 2 f2 rfl
  obtain ⟨o3, k3⟩ := hone_of hone 3 f3 rfl
  simp only [Prod.mk.injEq] at hx
  exact ⟨c0, c1, c2, c3, y0, y1, y2, y3, n, rfl, by simpa using hx.1, by simpa using hx.2, by simpa [Value.cells, o0, k0] using g0, by simpa [Value.cells, o1, k1] using g1, by simpa [Value.cells, o2, k2] using g2, by simpa [Value.cells, o3, k3] using g3⟩
theorem own : ownKnob Tryz.prog.godebug = none := by kernel_rfl
theorem laidOut : laidOutB Tryz.prog = true := by kernel_rfl
set_option maxRecDepth 100000 in
/-- A play that came in. -/
theorem play_in {H : Type} {enc : TypeId × Value → H} {W : World} {r : Reach} {b0 : Nat} {v : Value} {d : DataW H} {p : List MemPlace} (hv : Value.okWide Tryz.prog W r b0 27 v) (h : DataW.Trod enc Tryz.prog W 0 (fun _ => true) true 27 v d p) (hd : Rows.uptoBulk d ≤ 1048576) :
    ∃ (SA PA GA OA : Option Addr) (sc pc gc oc : Nat) (ss : List Sd) (ps : List S50) (gs : Ex) (ops : List Ob), v = .agg #[.slice SA ss.length sc, .slice PA ps.length pc, .slice GA gs.length gc, .slice OA ops.length oc] ∧ PlayC W SA ss PA ps GA gs OA ops ∧ ps.length ≤ pc ∧ gs.length ≤ gc := by
  obtain ⟨u0, u1, u2, u3, y0, y1, y2, y3, n, rfl, hdd, hp, t0, t1, t2, t3⟩ := open_agg4 Tryz.underlying27 (by kernel_rfl) (by kernel_rfl) hv h
  obtain ⟨a0, l0, c0, e0⟩ := slice_form Tryz.underlying22 t0
  obtain ⟨a1, l1, c1, e1⟩ := slice_form Tryz.underlying23 t1
  obtain ⟨a2, l2, c2, e2⟩ := slice_form Tryz.underlying24 t2
  obtain ⟨a3, l3, c3, e3⟩ := slice_form Tryz.underlying25 t3
  simp only [List.cons.injEq, and_true] at e0 e1 e2 e3
  subst e0 e1 e2 e3
  have hb0 : Rows.uptoBulk y0.1 ≤ Rows.uptoBulk d ∧ Rows.uptoBulk y1.1 ≤ Rows.uptoBulk d ∧ Rows.uptoBulk y2.1 ≤ Rows.uptoBulk d ∧ Rows.uptoBulk y3.1 ≤ Rows.uptoBulk d := by
    rw [hdd]
    simp only [Rows.uptoBulk, Rows.uptoBulkAll]
    omega
  obtain ⟨b0, b1, b2, b3⟩ := hb0
  obtain ⟨ss, rfl, _, hS, hsl, hsx⟩ := saids_in (d := y0.1) (ps := y0.2) ⟨n, t0⟩
  obtain ⟨ps, rfl, hpc, hP, hpl, hpo⟩ := pairs_in (d := y1.1) (ps := y1.2) ⟨n, t1⟩
  obtain ⟨gs, rfl, hgc, hG, hgl, _⟩ := ints_in (d := y2.1) (ps := y2.2) ⟨n, t2⟩
  obtain ⟨ops, rfl, _, hO, hol, hoo⟩ := ops_in (d := y3.1) (ps := y3.2) ⟨n, t3⟩ (by omega)
  exact ⟨a0, a1, a2, a3, c0, c1, c2, c3, ss, ps, gs, ops, rfl, ⟨hS, by omega, fun x hx => by have := hsx x hx; omega, hP, by omega, hpo, hG, by omega, hO, by omega, hoo⟩, hpc, hgc⟩
end Go.Proofs.YtcfocbfocemapaaGreat.InB

namespace Go.Proofs.YtcfocbfocemapaaGreat.stackUnder
open Go.ChangeShapes Go.WideShapes Go.ChangeAt Go.RowKit Go.Deep Go.Joins
open Go.Proofs.YtcfocbfocemapaaGreat.PStackPlays Go.Proofs.YtcfocbfocemapaaGreat.PlayP Go.Proofs.YtcfocbfocemapaaGreat.Sets Go.Proofs.YtcfocbfocemapaaGreat.DistB Go.Proofs.YtcfocbfocemapaaGreat.FrsA Go.Proofs.YtcfocbfocemapaaGreat.UndC Go.Proofs.YtcfocbfocemapaaGreat.UndD Go.Proofs.YtcfocbfocemapaaGreat.InA Go.Proofs.YtcfocbfocemapaaGreat.InB
open Go.Proofs.YtcfocbfocemapaaGreatW.PrintWords
set_option linter.unusedVariables false

set_option maxRecDepth 100000 in
/-- What the walk gives. -/
theorem contract (H : Type) (enc : TypeId × Value → H) (W : World) (base : Nat) (args : Array Value) (ds gs : List (DataW H)) (before : List MemPlace)
    (hval : ∀ (j : Nat) t v, Tryz.f5.params[j]? = some t → args[j]? = some v → Value.okWide Tryz.prog W .any base t v)
    (hW : DataW.Whole enc Tryz.prog Tryz.f5.params.toList Rows.stackUnderSpec.vars false W args.toList ds gs before) (hk : Rows.uptoSmall H (ds ++ gs) = true) :
    Calls Tryz.prog 5 args W fun e W' => ∃ v, e = .returned v ∧ Rows.stackUnderSpec.post enc Tryz.prog Tryz.f5 false true false false W args v W' := by
  have hW' := hW
  obtain ⟨p, q, hA0, hV, rfl, hfz, hnd⟩ := hW
  have hA : DataW.TrodAll enc Tryz.prog W 0 (fun _ => true) true Tryz.f5.params.toList args.toList ds p := hA0
  rw [Tryz.params5] at hA hval
  obtain ⟨v0, vs0, d0, ds0, p0, q0, hargs, rfl, rfl, h0, r0⟩ := trodAll_cons hA
  obtain ⟨v1, vs1, d1, ds1, p1, q1, hvs, rfl, rfl, h1, r1⟩ := trodAll_cons r0
  obtain ⟨rfl, rfl, rfl⟩ := trodAll_nil r1
  subst hvs
  obtain rfl : args = #[v0, v1] := by cases args; simp_all
  obtain ⟨rfl, rfl⟩ := trodVars_none hV
  have k0 := h0
  have k1 := h1
  have lt0 : ∀ x ∈ p0, x.block < W.heap.size := by obtain ⟨m, hm⟩ := k0; exact DataW.trod_lt m _ _ _ hm
  have lt1 : ∀ x ∈ p1, x.block < W.heap.size := by obtain ⟨m, hm⟩ := k1; exact DataW.trod_lt m _ _ _ hm
  have hbd := bulks.bound hk
  simp only [List.append_nil] at hbd
  have hm0 := bulks.part_le (H := H) (d := d0) (l := [d0, d1]) (by simp)
  have hm1 := bulks.part_le (H := H) (d := d1) (l := [d0, d1]) (by simp)
  obtain ⟨SA, PA, GA, OA, sc, pc, gc, oc, ss, ps, gs2, ops, rfl, hP, _, _⟩ := play_in (hval 0 27 v0 rfl rfl) h0 (by omega)
  obtain ⟨n1, t1⟩ := h1
  obtain ⟨BA, bl, bc, e1⟩ := slice_form Tryz.underlying29 t1
  have e2 : v1 = .slice BA bl bc := by
    have h2 := hval 1 29 v1 rfl rfl
    obtain ⟨A3, l3, c3, e3⟩ := okWide_slice Tryz.underlying29 h2
    subst e3
    simpa [Value.cells] using e1
  subst e2
  obtain ⟨bel, rfl, _, hB, hbl, hbx⟩ := exprs_in (d := d1) (ps := p1) k1
  clear hA0
  refine (UndD.under_calls (bc := bc) hP hB (by omega) (fun e he => ⟨by have := (hbx e he).1; omega, (hbx e he).2⟩)).mono fun e W' ⟨he, bel⟩ => ?_
  subst he
  exact ⟨_, rfl, _, _, _, [], _, [], hW', trodAll_mk1 (shut_bool Tryz.underlying4 _), (trodAll_cons_mk (Below.trod InB.laidOut (by kernel_rfl) (of_decide_eq_true (by kernel_rfl)) k0 bel lt0) (trodAll_cons_mk (Below.trod InB.laidOut (by kernel_rfl) (of_decide_eq_true (by kernel_rfl)) k1 bel lt1) trodAll_mk0)), rfl, bel.frame _, fun h => by cases h⟩

set_option maxRecDepth 100000 in
theorem lifted (os : Os) (started : os.Started) (H : Type) (enc : TypeId × Value → H) (F : Stop.Interp) :
    ReturnsInHanded {} Tryz.checked os 5 .any ((Rows.OpenSpec.upto Rows.stackUnderSpec).pre6 enc Tryz.prog Tryz.f5 Rows.stackUnderUptoRow.domain false) (((Rows.OpenSpec.upto Rows.stackUnderSpec).at F).post enc Tryz.prog Tryz.f5 false true false false) := by
  refine returnsInHanded_of_cond (C := Tryz.checked) (s := Rows.OpenSpec.upto Rows.stackUnderSpec) (k := Rows.uptoSmall) rfl own started (by kernel_rfl) Tryz.func5
    (OpenSpec.witness (enc := enc) (C := Tryz.checked) (s := Rows.OpenSpec.upto Rows.stackUnderSpec) (k := Rows.uptoSmall) rfl false ⟨#[], #[.agg #[.slice none 0 0, .slice none 0 0, .slice none 0 0, .slice none 0 0], .slice none 0 0], []⟩ 8 (by kernel_rfl) (by kernel_rfl) (by kernel_rfl)
      (x := ([.agg [.nil, .nil, .nil, .nil], .nil], [], [])) (by kernel_rfl) rfl (by kernel_rfl)) ?_
  intro W base args ds gs before hval hW _ hk _
  exact contract H enc W base args ds gs before hval hW hk

theorem over : Rows.stackUnderUptoRow.holds Tryz.pinned (Rows.OpenSpec.upto Rows.stackUnderSpec) :=
  OpenClaim.holds_of_cond 5 Tryz.f5 rfl rfl rfl rfl rfl rfl rfl ⟨rfl, rfl, rfl, rfl, rfl⟩ rfl rfl rfl rfl rfl (by kernel_rfl) Tryz.func5 (by kernel_rfl)
    (of_decide_eq_true (by kernel_rfl)) (by unfold Func.isWrapper; first | (rw [if_pos (by decide +kernel)]; kernel_rfl) | (rw [if_neg (by decide +kernel)]; exact ⟨rfl, rfl⟩))
    (fun os started H enc _ F => lifted os started H enc F)

theorem proved : Rows.StackUnderUptoSaid := over
#print axioms proved
end Go.Proofs.YtcfocbfocemapaaGreat.stackUnder
