/- The full table: variables again, labels, scopes. -/
import Derived.Test.YtpoojimmponklaaDoorFullPure
import Derived.Test.YtpoojimmponklaaDoorLabelsPure
namespace Go.Proofs.YtpoojimmponklaaDoor.SymFullPure
open Go.RowKit Go.Maps Go.Proofs.YtpoojimmponklaaDoor.SymTab Go.Proofs.YtpoojimmponklaaDoor.SymBegun Go.Proofs.YtpoojimmponklaaDoor.SymScript Go.Proofs.YtpoojimmponklaaDoor.SymHeap
open Go.Proofs.YtpoojimmponklaaDoorW.PrintWords
set_option linter.unusedVariables false

theorem symsF_at (b : Nat → Bool) {k i : Nat} (h1 : 2 ≤ i) (h2 : i < k + 2) : (symsF b k).getD i (ByteArray.empty, false) = (nameN i, b i) := by
  induction k with
  | zero => omega
  | succ k ih =>
    rw [symsF, List.getD_eq_getElem?_getD]
    by_cases h : i < k + 2
    · rw [List.getElem?_append_left (by rw [symsF_len]; exact h), ← List.getD_eq_getElem?_getD]
      exact ih h
    · have e : i = k + 2 := by omega
      subst e
      rw [List.getElem?_append_right (by rw [symsF_len]; exact Nat.le_refl _), symsF_len]
      simp
structure Again (b : Nat → Bool) (n : Nat) (T : Tab) : Prop where
  syms : T.syms = symsF b 510
  scopes : T.scopes = []
  labels : T.labels = []
  act : ∀ i, n ≤ i → i < 512 → T.act (nameN i) = if b i then none else some i
theorem again_of {b : Nat → Bool} {T : Tab} (h : Fills b 510 T) : Again b 2 T := ⟨h.syms, h.scopes, h.labels, fun i h1 h2 => h.act i h1 h2⟩
theorem again_idx {b : Nat → Bool} {n : Nat} {T : Tab} (hw : WF T) (h : Again b n T) (h2 : 2 ≤ n) (hn : n < 512) : idx T.syms (nameN n) = some n := by
  have e : nameOf T n = nameN n := by
    unfold nameOf
    rw [h.syms, symsF_at b h2 (by omega)]
  rw [← e]
  exact idx_nameOf hw (by rw [h.syms, symsF_len]; omega)
theorem again_old {b : Nat → Bool} {n : Nat} {T : Tab} (h : Again b n T) (hn : n < 512) (hb : b n = false) : varT T (nameN n) = (T, 0, 20) ∧ Again b (n + 1) T := by
  refine ⟨?_, h.syms, h.scopes, h.labels, fun i h1 h2 => h.act i (by omega) h2⟩
  unfold varT
  have ha := h.act n (Nat.le_refl _) hn
  rw [hb] at ha
  rw [if_neg (by rw [sym_ok (by omega)]; simp), if_pos (by rw [ha]; rfl)]
theorem again_new {b : Nat → Bool} {n : Nat} {T : Tab} (hw : WF T) (h : Again b n T) (h2 : 2 ≤ n) (hn : n < 512) (hb : b n = true) : ∃ U, varT T (nameN n) = (U, n, 0) ∧ Again b (n + 1) U := by
  have ha := h.act n (Nat.le_refl _) hn
  rw [hb] at ha
  refine ⟨activate T (nameN n) n, ?_, h.syms, ?_, h.labels, fun i h1 h3 => ?_⟩
  · unfold varT
    rw [if_neg (by rw [sym_ok (by omega)]; simp), if_neg (by rw [ha]; simp), again_idx hw h h2 hn]
  · show addLast T.scopes n = []
    rw [h.scopes]
    rfl
  · show upd T.act (nameN n) n (nameN i) = _
    unfold upd
    rw [if_neg (fun e => by have := inj (by omega) (by omega) e; omega)]
    exact h.act i (by omega) h3

def dollar : ByteArray := ⟨#[36]⟩
theorem ok_new : symOk newN = true := by decide
theorem full_new {b : Nat → Bool} {T : Tab} (h : Fills b 510 T) : constT T newN = (T, 0, 22) := by
  unfold constT
  rw [if_neg (by rw [h.scopes]; simp), if_neg (by rw [ok_new]; simp), if_neg (by rw [h.syms, symsF_newN (by omega)]; simp), if_pos (by rw [h.syms, symsF_len]; omega)]
theorem full_var {b : Nat → Bool} {T : Tab} (hw : WF T) (h : Fills b 510 T) : varT T newN = (T, 0, 22) := by
  have hi : idx T.syms newN = none := by rw [h.syms]; exact symsF_newN (by omega)
  unfold varT
  rw [if_neg (by rw [ok_new]; simp), if_neg (by rw [act_none hw hi]; simp), hi]
  exact if_pos (by rw [h.syms, symsF_len]; omega)
theorem full_dollar (T : Tab) : varT T dollar = (T, 0, 21) := by
  unfold varT
  exact if_pos (by decide)
theorem full_v0 {b : Nat → Bool} {T : Tab} (hw : WF T) (h : Fills b 510 T) : constT T v0 = (T, 0, 20) := by
  have hi := hw.act _ _ h.v0
  unfold constT
  rw [if_neg (by rw [h.scopes]; simp), if_neg (by rw [ok_v0]; simp), if_pos (by rw [hi]; rfl)]

/-- The labels behind n. -/
structure Labs (n : Nat) (T : Tab) : Prop where
  len : T.syms.length = 512
  scopes : T.scopes = []
  labels : T.labels = (List.range n).map nameN
theorem labs_of {b : Nat → Bool} {T : Tab} (h : Again b 512 T) : Labs 0 T := ⟨by rw [h.syms, symsF_len], h.scopes, h.labels⟩
theorem labs_mem {n : Nat} {T : Tab} (h : Labs n T) (s : ByteArray) : (labIdx T.labels s).isSome = true ↔ ∃ i, i < n ∧ nameN i = s := by
  rw [SymLabelsPure.labIdx_some, h.labels]
  simp [List.mem_range]
theorem labs_step {n : Nat} {T : Tab} (h : Labs n T) (hn : n < 1024) : ∃ U, labelT T (nameN n) = (U, 0) ∧ Labs (n + 1) U := by
  refine ⟨{ T with labels := T.labels ++ [nameN n] }, ?_, h.len, h.scopes, ?_⟩
  · unfold labelT
    rw [if_neg (by rw [lab_ok hn]; simp), if_neg, if_neg (by rw [h.labels]; simp; omega)]
    intro he
    obtain ⟨i, h1, h2⟩ := (labs_mem h _).1 he
    have := inj (by omega) hn h2
    omega
  · show T.labels ++ [nameN n] = _
    rw [h.labels, List.range_succ, List.map_append]
    rfl
theorem labs_new {T : Tab} (h : Labs 1024 T) : labelT T newN = (T, 22) := by
  unfold labelT
  rw [if_neg (by decide), if_neg, if_pos (by rw [h.labels]; simp)]
  intro he
  obtain ⟨i, h1, h2⟩ := (labs_mem h _).1 he
  exact ne_new h1 h2
theorem labs_old {T : Tab} (h : Labs 1024 T) {m : Nat} (hm : m < 1024) : labelT T (nameN m) = (T, 20) := by
  unfold labelT
  rw [if_neg (by rw [lab_ok hm]; simp), if_pos ((labs_mem h _).2 ⟨m, hm, rfl⟩)]
theorem labs_empty (T : Tab) : labelT T ⟨#[]⟩ = (T, 21) := by
  unfold labelT
  exact if_pos (by decide)

structure Opens (n : Nat) (T : Tab) : Prop where
  len : T.syms.length = 512
  scopes : T.scopes.length = n
  labels : T.labels.length = 1024
theorem opens_of {T : Tab} (h : Labs 1024 T) : Opens 0 T := ⟨h.len, by rw [h.scopes]; rfl, by rw [h.labels]; simp⟩
theorem opens_step {n : Nat} {T : Tab} (h : Opens n T) (hn : n < 16) : ∃ U, openS T = (U, 0) ∧ Opens (n + 1) U := by
  refine ⟨{ T with scopes := T.scopes ++ [[]] }, ?_, h.len, ?_, h.labels⟩
  · unfold openS
    rw [if_neg (by rw [h.scopes]; omega)]
  · show (T.scopes ++ [[]]).length = _
    rw [List.length_append, h.scopes]
    rfl
theorem opens_end {T : Tab} (h : Opens 16 T) : openS T = (T, 23) := by
  unfold openS
  rw [if_pos (by rw [h.scopes]; omega)]
end Go.Proofs.YtpoojimmponklaaDoor.SymFullPure
