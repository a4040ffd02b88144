/- A list of truths that came in. -/
import Derived.Test.YtpoojimmponklaaDoorIn
namespace Go.Proofs.YtpoojimmponklaaDoor.SymBools
open Go.ChangeShapes Go.WideShapes Go.ChangeAt Go.RowKit Go.Deep
open Go.Proofs.YtpoojimmponklaaDoor.SymIn
set_option linter.unusedVariables false

theorem bools_in {H : Type} {enc : TypeId × Value → H} {W : World} {base : Nat} {spare : Nat → Bool} {held : Bool} {a : Option Addr} {len cap : Nat} {d : DataW H} {ps : List MemPlace} {ts : List TypeId} {ds : List (DataW H)} {j : Nat}
    (hsz : (DataW.weightsEach Tryd.prog ts ds).all (· ≤ reachBytes) = true) (ht : ts[j]? = some 29) (hd : ds[j]? = some d)
    (h : DataW.Trod enc Tryd.prog W base spare held 29 (.slice a len cap) d ps) : ∃ l : List Bool, l.length = len ∧ l.length ≤ 1152921504606846976 ∧ (0 < l.length → ∃ x, a = some x) ∧ ∀ x i, a = some x → i < l.length → W.cell? (x.add i) = some (.bool (l.getD i false)) := by
  obtain ⟨fuel, hf⟩ := h
  rcases open_slice Tryd.underlying29 hf with ⟨hcs, _⟩ | ⟨x, l, c, m, n, D, Pl, hcs, _, hl, hm, hmm, hx, hi⟩
  · simp [Value.cells] at hcs
    obtain ⟨rfl, rfl, rfl⟩ := hcs
    exact ⟨[], rfl, by simp, fun h => by simp at h, fun x i hx hi => by simp at hi⟩
  · simp [Value.cells] at hcs
    obtain ⟨rfl, rfl, rfl⟩ := hcs
    obtain ⟨hx, _⟩ := Prod.mk.inj hx
    subst hx
    have hlm : len ≤ m := by
      rw [hmm]
      split
      · exact hl
      · exact Nat.le_refl _
    have z := sized_slice hsz ht hd Tryd.underlying29
    have hb : Tryd.prog.bytesOf 4 = 1 := by kernel_rfl
    rw [hb] at z
    simp only [List.length_map, List.length_range] at z
    have hlen : len ≤ 140737488351232 := Nat.le_trans (by omega) z
    have each : ∀ i, i < m → ∃ b : Bool, W.cell? (x.add i) = some (.bool b) := by
      intro i hlt
      obtain ⟨cs', hc, ht'⟩ := hi i hlt
      rw [cells4] at hc
      obtain ⟨_, hcl, hat⟩ := World.cells?_some hc
      obtain ⟨b, hb, _⟩ := DataW.trod_bool Tryd.underlying4 ht'
      subst hb
      refine ⟨b, ?_⟩
      have := hat 0 (by simp)
      rw [show (x.add (i * 1)).add 0 = x.add i from by rw [Nat.mul_one]; rfl] at this
      simpa using this
    have pick : ∀ k, k ≤ len → ∃ l : List Bool, l.length = k ∧ ∀ i, i < k → W.cell? (x.add i) = some (.bool (l.getD i false)) := by
      intro k
      induction k with
      | zero => intro _; exact ⟨[], rfl, fun i h => by omega⟩
      | succ k ih =>
        intro hk
        obtain ⟨l, hl, hall⟩ := ih (by omega)
        obtain ⟨b, hb⟩ := each k (by omega)
        refine ⟨l ++ [b], by simp [hl], fun i hik => ?_⟩
        by_cases e : i < k
        · rw [List.getD_eq_getElem?_getD, List.getElem?_append_left (by omega), ← List.getD_eq_getElem?_getD]
          exact hall i e
        · have e2 : i = k := by omega
          subst e2
          rw [List.getD_eq_getElem?_getD, List.getElem?_append_right (by omega), hl]
          simpa using hb
    obtain ⟨l, hl2, hall⟩ := pick len (Nat.le_refl _)
    refine ⟨l, hl2, by omega, fun _ => ⟨x, rfl⟩, fun y i hy hi => ?_⟩
    cases hy
    exact hall i (by omega)
end Go.Proofs.YtpoojimmponklaaDoor.SymBools
