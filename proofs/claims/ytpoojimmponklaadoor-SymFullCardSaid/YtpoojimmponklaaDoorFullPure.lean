/- The names that SymFull gives, and the table as it fills. -/
import Derived.Test.YtpoojimmponklaaDoorLists
import Derived.Test.YtpoojimmponklaaDoorPSymFullx2
namespace Go.Proofs.YtpoojimmponklaaDoor.SymFullPure
open Go.RowKit Go.Maps Go.Proofs.YtpoojimmponklaaDoor.SymTab Go.Proofs.YtpoojimmponklaaDoor.SymBegun Go.Proofs.YtpoojimmponklaaDoor.SymScript Go.Proofs.YtpoojimmponklaaDoor.SymHeap Go.Proofs.YtpoojimmponklaaDoor.PSymFull
open Go.Proofs.YtpoojimmponklaaDoorW.PrintWords
set_option linter.unusedVariables false

def nameN (n : Nat) : ByteArray := (lemmalaw02_numbered.f 6 (n : Int)).getD ByteArray.empty
def backN (s : ByteArray) : Nat := s.data.toList.tail.foldl (fun a c => a * 10 + (c.toNat - 48)) 0
def newN : ByteArray := ⟨#[110, 101, 119]⟩
def fine (n : Nat) : Bool := (lemmalaw02_numbered.f 6 (n : Int)).isSome && symOk (nameN n) && nameOk (nameN n) && (backN (nameN n) == n) && ((nameN n).data.toList != newN.data.toList) && ((nameN n).data.toList != c0.data.toList) && ((nameN n).data.toList != v0.data.toList)
theorem fine_all : (List.range 1024).all fine = true := by decide +kernel
theorem fine_at {n : Nat} (h : n < 1024) : fine n = true := List.all_eq_true.1 fine_all n (List.mem_range.2 h)
theorem num_calls {w : World} {n : Nat} (h : n < 1024) : Calls Tryd.prog 30 #[.int .i64 (n : Int)] w fun e w' => e = .returned (.string (nameN n)) ∧ Below w.heap.size w w' := by
  have hf := fine_at h
  unfold fine at hf
  simp only [Bool.and_eq_true] at hf
  obtain ⟨⟨⟨⟨⟨⟨h1, _⟩, _⟩, _⟩, _⟩, _⟩, _⟩ := hf
  obtain ⟨s, hs⟩ := Option.isSome_iff_exists.1 h1
  have e : nameN n = s := by unfold nameN; rw [hs]; rfl
  rw [e]
  exact lemmalaw02_numbered.calls 6 _ s w hs
theorem sym_ok {n : Nat} (h : n < 1024) : symOk (nameN n) = true := by
  have hf := fine_at h
  unfold fine at hf
  simp only [Bool.and_eq_true] at hf
  exact hf.1.1.1.1.1.2
theorem lab_ok {n : Nat} (h : n < 1024) : nameOk (nameN n) = true := by
  have hf := fine_at h
  unfold fine at hf
  simp only [Bool.and_eq_true] at hf
  exact hf.1.1.1.1.2
theorem back {n : Nat} (h : n < 1024) : backN (nameN n) = n := by
  have hf := fine_at h
  unfold fine at hf
  simp only [Bool.and_eq_true] at hf
  exact beq_iff_eq.1 hf.1.1.1.2
theorem inj {n m : Nat} (hn : n < 1024) (hm : m < 1024) (h : nameN n = nameN m) : n = m := by
  rw [← back hn, ← back hm, h]
theorem ne_new {n : Nat} (h : n < 1024) : nameN n ≠ newN := by
  have hf := fine_at h
  unfold fine at hf
  simp only [Bool.and_eq_true] at hf
  intro e
  have := hf.1.1.2
  rw [e] at this
  simp at this
theorem ne_c0 {n : Nat} (h : n < 1024) : nameN n ≠ c0 := by
  have hf := fine_at h
  unfold fine at hf
  simp only [Bool.and_eq_true] at hf
  intro e
  have := hf.1.2
  rw [e] at this
  simp at this
theorem ne_v0 {n : Nat} (h : n < 1024) : nameN n ≠ v0 := by
  have hf := fine_at h
  unfold fine at hf
  simp only [Bool.and_eq_true] at hf
  intro e
  have := hf.2
  rw [e] at this
  simp at this

/-- The symbols behind n. -/
def symsF (b : Nat → Bool) : Nat → List (ByteArray × Bool)
  | 0 => [(c0, false), (v0, true)]
  | k + 1 => symsF b k ++ [(nameN (k + 2), b (k + 2))]
theorem symsF_len (b : Nat → Bool) (k : Nat) : (symsF b k).length = k + 2 := by
  induction k with
  | zero => rfl
  | succ k ih => simp [symsF, ih]
theorem symsF_in {b : Nat → Bool} {k : Nat} {s : ByteArray} (h : s ∈ (symsF b k).map (·.1)) : s = c0 ∨ s = v0 ∨ ∃ i, 2 ≤ i ∧ i < k + 2 ∧ s = nameN i := by
  induction k with
  | zero =>
    simp [symsF] at h
    rcases h with h | h
    · exact .inl h
    · exact .inr (.inl h)
  | succ k ih =>
    simp only [symsF, List.map_append, List.map_cons, List.map_nil, List.mem_append, List.mem_singleton] at h
    rcases h with h | h
    · rcases ih h with h | h | ⟨i, h1, h2, h3⟩
      · exact .inl h
      · exact .inr (.inl h)
      · exact .inr (.inr ⟨i, h1, by omega, h3⟩)
    · exact .inr (.inr ⟨k + 2, by omega, by omega, h⟩)
theorem symsF_new {b : Nat → Bool} {k : Nat} (hk : k < 1022) : idx (symsF b k) (nameN (k + 2)) = none := by
  cases h : idx (symsF b k) (nameN (k + 2)) with
  | none => rfl
  | some m =>
    have h2 := idx_some_iff.1 (show (idx (symsF b k) (nameN (k + 2))).isSome = true by rw [h]; rfl)
    rcases symsF_in h2 with h3 | h3 | ⟨i, h4, h5, h6⟩
    · exact absurd h3 (ne_c0 (by omega))
    · exact absurd h3 (ne_v0 (by omega))
    · have := inj (by omega) (by omega) h6
      omega
theorem new_ne_c0 : newN ≠ c0 := by decide
theorem new_ne_v0 : newN ≠ v0 := by decide
theorem symsF_newN {b : Nat → Bool} {k : Nat} (hk : k < 1022) : idx (symsF b k) newN = none := by
  cases h : idx (symsF b k) newN with
  | none => rfl
  | some m =>
    have h2 := idx_some_iff.1 (show (idx (symsF b k) newN).isSome = true by rw [h]; rfl)
    rcases symsF_in h2 with h3 | h3 | ⟨i, h4, h5, h6⟩
    · exact absurd h3 new_ne_c0
    · exact absurd h3 new_ne_v0
    · exact absurd h6.symm (ne_new (by omega))

/-- The table behind n = k + 2. -/
structure Fills (b : Nat → Bool) (k : Nat) (T : Tab) : Prop where
  syms : T.syms = symsF b k
  scopes : T.scopes = []
  labels : T.labels = []
  act : ∀ i, 2 ≤ i → i < k + 2 → T.act (nameN i) = if b i then none else some i
  v0 : T.act v0 = some 1
theorem act_none {T : Tab} (hw : WF T) {s : ByteArray} (h : idx T.syms s = none) : T.act s = none := by
  cases ha : T.act s with
  | none => rfl
  | some n =>
    have := hw.act _ _ ha
    rw [h] at this
    cases this
theorem fill_const {b : Nat → Bool} {k : Nat} {T : Tab} (hw : WF T) (h : Fills b k T) (hk : k < 510) (hb : b (k + 2) = false) :
    ∃ U, constT T (nameN (k + 2)) = (U, k + 2, 0) ∧ Fills b (k + 1) U := by
  have hi : idx T.syms (nameN (k + 2)) = none := by rw [h.syms]; exact symsF_new (by omega)
  have hl : T.syms.length = k + 2 := by rw [h.syms, symsF_len]
  refine ⟨{ added T (nameN (k + 2)) false with act := upd T.act (nameN (k + 2)) (k + 2) }, ?_, ?_, h.scopes, h.labels, ?_, ?_⟩
  · unfold constT
    rw [if_neg (by rw [h.scopes]; simp), if_neg (by rw [sym_ok (by omega)]; simp), if_neg (by rw [hi]; simp), if_neg (by omega), hl]
  · show T.syms ++ [(nameN (k + 2), false)] = symsF b (k + 1)
    rw [h.syms, symsF, hb]
  · intro i h1 h2
    show upd T.act (nameN (k + 2)) (k + 2) (nameN i) = _
    unfold upd
    by_cases e : i = k + 2
    · subst e
      rw [if_pos rfl, hb]
      rfl
    · rw [if_neg (fun e2 => e (inj (by omega) (by omega) e2))]
      exact h.act i h1 (by omega)
  · show upd T.act (nameN (k + 2)) (k + 2) v0 = _
    unfold upd
    rw [if_neg (fun e => ne_v0 (by omega) e.symm)]
    exact h.v0
theorem fill_var {b : Nat → Bool} {k : Nat} {T : Tab} (hw : WF T) (h : Fills b k T) (hk : k < 510) (hb : b (k + 2) = true) :
    ∃ U V X, openS T = (U, 0) ∧ varT U (nameN (k + 2)) = (V, k + 2, 0) ∧ closeS V = (X, 0) ∧ Fills b (k + 1) X := by
  have hi : idx T.syms (nameN (k + 2)) = none := by rw [h.syms]; exact symsF_new (by omega)
  have ha := act_none hw hi
  have hl : T.syms.length = k + 2 := by rw [h.syms, symsF_len]
  refine ⟨{ T with scopes := [[]] }, { T with syms := T.syms ++ [(nameN (k + 2), true)], act := upd T.act (nameN (k + 2)) (k + 2), scopes := [[k + 2]] }, { T with syms := T.syms ++ [(nameN (k + 2), true)], scopes := [] }, ?_, ?_, ?_, ?_, rfl, h.labels, ?_, h.v0⟩
  · unfold openS
    rw [if_neg (by rw [h.scopes]; simp), h.scopes]
    rfl
  · unfold varT
    rw [if_neg (by rw [sym_ok (by omega)]; simp)]
    show (if (T.act (nameN (k + 2))).isSome = true then _ else _) = _
    rw [if_neg (by rw [ha]; simp)]
    show (match idx T.syms (nameN (k + 2)) with | some n => _ | none => _) = _
    rw [hi]
    show (if 512 ≤ T.syms.length then _ else _) = _
    rw [if_neg (by omega)]
    show (activate (added { T with scopes := [[]] } (nameN (k + 2)) true) (nameN (k + 2)) T.syms.length, T.syms.length, 0) = _
    rw [hl]
    rfl
  · unfold closeS
    rw [if_neg (by simp)]
    have e : dels { T with syms := T.syms ++ [(nameN (k + 2), true)], act := upd T.act (nameN (k + 2)) (k + 2), scopes := [[k + 2]] } (upd T.act (nameN (k + 2)) (k + 2)) [k + 2] = T.act := by
      funext t
      show del (upd T.act (nameN (k + 2)) (k + 2)) (nameOf _ (k + 2)) t = _
      have hn : nameOf { T with syms := T.syms ++ [(nameN (k + 2), true)], act := upd T.act (nameN (k + 2)) (k + 2), scopes := [[k + 2]] } (k + 2) = nameN (k + 2) := by
        show ((T.syms ++ [(nameN (k + 2), true)]).getD (k + 2) (ByteArray.empty, false)).1 = _
        rw [List.getD_eq_getElem?_getD, List.getElem?_append_right (by omega), hl]
        simp
      rw [hn]
      unfold del upd
      split
      · rename_i e
        rw [e, ha]
      · rfl
    show (({ T with syms := T.syms ++ [(nameN (k + 2), true)], act := dels _ _ [k + 2], scopes := [] } : Tab), 0) = _
    rw [e]
  · show T.syms ++ [(nameN (k + 2), true)] = symsF b (k + 1)
    rw [h.syms, symsF, hb]
  · intro i h1 h2
    show T.act (nameN i) = _
    by_cases e : i = k + 2
    · subst e
      rw [ha, hb]
      rfl
    · exact h.act i h1 (by omega)
theorem fills_start (b : Nat → Bool) : Fills b 0 T2 := by
  refine ⟨rfl, rfl, rfl, fun i h1 h2 => by omega, ?_⟩
  simp [T2, upd]
end Go.Proofs.YtpoojimmponklaaDoor.SymFullPure
