/- The document's Vars answers the rising list of the numbers that are asked for. -/
import Derived.Test.YtambldebfhhjpaaFacesMore
namespace Go.Proofs.Ytambldebfhhjpaa.FacesVars
open Go.RowKit Go.Proofs.Ytambldebfhhjpaa.PExprFaces Go.Proofs.YtambldebfhhjpaaW.PrintWords Go.Proofs.Ytambldebfhhjpaa.FacesPure Go.Proofs.Ytambldebfhhjpaa.FacesFuns Go.Proofs.Ytambldebfhhjpaa.FacesMore
set_option linter.unusedVariables false

theorem is_l0 (set : List Int) (x : Int) (hs : set.length ≤ 1048576) (d : Nat) : ∀ (k i : Nat), i ≤ set.length → set.length - i = d → d < k →
    lemmaref03_Kinds_Is.l0 k x (i : Int) false [] 0 false 0 0 set = some ((set.drop i).contains x) := by
  induction d with
  | zero =>
    intro k i h1 hd hk
    obtain ⟨k, rfl⟩ : ∃ m, k = m + 1 := ⟨k - 1, by omega⟩
    simp only [lemmaref03_Kinds_Is.l0]
    rw [if_neg (by omega), List.drop_of_length_le (by omega)]
    rfl
  | succ d ih =>
    intro k i h1 hd hk
    obtain ⟨k, rfl⟩ : ∃ m, k = m + 1 := ⟨k - 1, by omega⟩
    have hlt : i < set.length := by omega
    simp only [lemmaref03_Kinds_Is.l0]
    rw [if_pos (by omega), if_pos (by omega), rd_of hlt, List.drop_eq_getElem_cons hlt]
    by_cases e : set[i] = x
    · rw [if_pos e, e]
      simp
    · rw [if_neg e, wrap_id (by omega) (by omega)]
      have := ih k (i + 1) (by omega) (by omega) (by omega)
      rw [Int.natCast_add] at this
      simp only [Int.natCast_one] at this
      rw [this, List.contains_cons]
      have : (x == set[i]) = false := by
        rw [beq_eq_false_iff_ne]
        exact fun h => e h.symm
      rw [this, Bool.false_or]
theorem is_f (set : List Int) (x : Int) (hs : set.length ≤ 1048576) (k : Nat) (hk : set.length + 3 ≤ k) : lemmaref03_Kinds_Is.f k false [] 0 false 0 0 set x = some (set.contains x) := by
  obtain ⟨k, rfl⟩ : ∃ m, k = m + 2 := ⟨k - 2, by omega⟩
  have h := is_l0 set x hs set.length k 0 (by omega) (by omega) (by omega)
  simp only [Int.natCast_zero, List.drop_zero] at h
  unfold lemmaref03_Kinds_Is.f
  simp only [lemmaref03_Kinds_Is.j0, lemmaref03_Kinds_Is.j1, Bool.false_eq_true, if_false, List.length_nil, Int.natCast_zero]
  by_cases h0 : x ≥ 0
  · rw [if_pos h0, if_neg (by omega)]
    simpa using h
  · rw [if_neg h0]
    simpa using h

/-- What the inner loop keeps. -/
def Best (V : Int → Bool) (e out : List Int) (best : Int) (i : Nat) : Prop :=
  (best = -1 ∧ ∀ j (h : j < e.length), j < i → ¬ cand V out e[j]) ∨
  (∃ b : Nat, ∃ h : b < e.length, b < i ∧ best = (b : Int) ∧ cand V out e[b] ∧ ∀ j (h2 : j < e.length), j < i → cand V out e[j] → e[b] ≤ e[j])
theorem last_at {out : List Int} (h : 0 < out.length) : out.getLast? = some (out[out.length - 1]'(by omega)) := by
  rw [List.getLast?_eq_getElem?, List.getElem?_eq_getElem (by omega)]
section
variable (e set : List Int) (he : e.length ≤ 1048576) (hs : set.length ≤ 1048576)
include he hs
theorem inner (out : List Int) (hout : out.length ≤ 1048576) (d : Nat) : ∀ (k i : Nat) (best : Int), i + d = e.length → Best set.contains e out best i → 2 * d + set.length + 4 ≤ k →
    ∃ best' k', Best set.contains e out best' e.length ∧ k' + 2 * d = k ∧ lemmaref03_Vars.l1 k e out best (i : Int) false [] 0 false 0 0 set = lemmaref03_Vars.l1 k' e out best' (e.length : Int) false [] 0 false 0 0 set := by
  induction d with
  | zero =>
    intro k i best hi hB hk
    have : i = e.length := by omega
    subst this
    exact ⟨best, k, hB, by omega, rfl⟩
  | succ d ih =>
    intro k i best hi hB hk
    obtain ⟨k, rfl⟩ : ∃ m, k = m + 2 := ⟨k - 2, by omega⟩
    have hlt : i < e.length := by omega
    -- the two ways on
    have skip : ¬ cand set.contains out e[i] → lemmaref03_Vars.l1 (k + 2) e out best (i : Int) false [] 0 false 0 0 set = lemmaref03_Vars.j2 (k + 1) e out best (i : Int) true false [] 0 false 0 0 set := by
      intro hc
      rw [show k + 2 = (k + 1) + 1 from rfl]
      simp only [lemmaref03_Vars.l1]
      rw [if_pos (by omega), if_pos (by omega), rd_of hlt, is_f set _ hs _ (by omega)]
      simp only [Option.bind_some]
      by_cases hv : set.contains e[i] = true
      · rw [if_pos hv]
        have hl : ∃ l, out.getLast? = some l ∧ e[i] ≤ l := by
          cases hlo : out.getLast? with
          | none => exact absurd ⟨hv, fun l hl2 => by rw [hlo] at hl2; cases hl2⟩ hc
          | some l =>
            refine ⟨l, rfl, ?_⟩
            rcases Int.lt_or_le l e[i] with g | g
            · exact absurd ⟨hv, fun l' hl' => by rw [hlo] at hl'; cases hl'; exact g⟩ hc
            · exact g
        obtain ⟨l, hlo, hle⟩ := hl
        have hpos : 0 < out.length := by
          cases out with
          | nil => simp at hlo
          | cons a r => simp
        have hla := last_at hpos
        rw [hlo] at hla
        rw [if_pos (by omega), wrap_id (i := (out.length : Int) - 1) (by omega) (by omega), if_pos (by omega), if_pos (by omega), show ((out.length : Int) - 1) = ((out.length - 1 : Nat) : Int) by omega, rd_of (by omega), ← Option.some.inj hla, decide_eq_true hle]
      · rw [if_neg hv]
    have keep : cand set.contains out e[i] → lemmaref03_Vars.l1 (k + 2) e out best (i : Int) false [] 0 false 0 0 set = lemmaref03_Vars.j2 (k + 1) e out best (i : Int) false false [] 0 false 0 0 set := by
      rintro ⟨hv, hl⟩
      rw [show k + 2 = (k + 1) + 1 from rfl]
      simp only [lemmaref03_Vars.l1]
      rw [if_pos (by omega), if_pos (by omega), rd_of hlt, is_f set _ hs _ (by omega)]
      simp only [Option.bind_some]
      rw [if_pos hv]
      by_cases hpos : 0 < out.length
      · have hla := last_at hpos
        have := hl _ hla
        rw [if_pos (by omega), wrap_id (i := (out.length : Int) - 1) (by omega) (by omega), if_pos (by omega), if_pos (by omega), show ((out.length : Int) - 1) = ((out.length - 1 : Nat) : Int) by omega, rd_of (by omega), decide_eq_false (by omega)]
      · rw [if_neg (by omega)]
    have w1 : wrap64 ((i : Int) + 1) = ((i + 1 : Nat) : Int) := by rw [wrap_id (by omega) (by omega)]; rfl
    by_cases hc : cand set.contains out e[i]
    · rw [keep hc]
      simp only [lemmaref03_Vars.j2, Bool.false_eq_true, if_false]
      rcases hB with ⟨rfl, hno⟩ | ⟨b, hb, hbi, rfl, hcb, hmin⟩
      · rw [if_pos (by omega), w1]
        obtain ⟨best', k', hB', hk', heq⟩ := ih k (i + 1) (i : Int) (by omega) (.inr ⟨i, hlt, by omega, rfl, hc, fun j h2 hj hcj => by
          by_cases ej : j = i
          · subst ej; exact Int.le_refl _
          · exact absurd hcj (hno j h2 (by omega))⟩) (by omega)
        exact ⟨best', k', hB', by omega, heq⟩
      · rw [if_neg (by omega), if_pos (by omega), if_pos (by omega), if_pos (by omega), if_pos (by omega), rd_of hlt, rd_of hb, w1]
        by_cases hless : e[i] < e[b]
        · rw [if_pos hless]
          obtain ⟨best', k', hB', hk', heq⟩ := ih k (i + 1) (i : Int) (by omega) (.inr ⟨i, hlt, by omega, rfl, hc, fun j h2 hj hcj => by
            by_cases ej : j = i
            · subst ej; exact Int.le_refl _
            · have := hmin j h2 (by omega) hcj; omega⟩) (by omega)
          exact ⟨best', k', hB', by omega, heq⟩
        · rw [if_neg hless]
          obtain ⟨best', k', hB', hk', heq⟩ := ih k (i + 1) (b : Int) (by omega) (.inr ⟨b, hb, by omega, rfl, hcb, fun j h2 hj hcj => by
            by_cases ej : j = i
            · subst ej; omega
            · exact hmin j h2 (by omega) hcj⟩) (by omega)
          exact ⟨best', k', hB', by omega, heq⟩
    · rw [skip hc]
      simp only [lemmaref03_Vars.j2, if_true]
      rw [w1]
      obtain ⟨best', k', hB', hk', heq⟩ := ih k (i + 1) best (by omega) (by
        rcases hB with ⟨rfl, hno⟩ | ⟨b, hb, hbi, rfl, hcb, hmin⟩
        · exact .inl ⟨rfl, fun j h2 hj => by
            by_cases ej : j = i
            · subst ej; exact hc
            · exact hno j h2 (by omega)⟩
        · exact .inr ⟨b, hb, by omega, rfl, hcb, fun j h2 hj hcj => by
            by_cases ej : j = i
            · subst ej; exact absurd hcj hc
            · exact hmin j h2 (by omega) hcj⟩) (by omega)
      exact ⟨best', k', hB', by omega, heq⟩
theorem outer (m : Nat) : ∀ (k : Nat) (out : List Int), out.length + m = e.length → Upto set.contains e out → (m + 1) * (2 * e.length + 2) + set.length + 4 ≤ k →
    ∃ r, lemmaref03_Vars.l0 k e out false [] 0 false 0 0 set = some r ∧ Picks set.contains e r := by
  induction m with
  | zero =>
    intro k out hlen hU hk
    rw [Nat.zero_add, Nat.one_mul] at hk
    obtain ⟨k, rfl⟩ : ∃ q, k = q + 1 := ⟨k - 1, by omega⟩
    simp only [lemmaref03_Vars.l0]
    obtain ⟨best, k', hB, hk', heq⟩ := inner e set he hs out (by omega) e.length k 0 (-1) (by omega) (.inl ⟨rfl, fun j h hj => by omega⟩) (by omega)
    simp only [Int.natCast_zero] at heq
    rw [heq]
    obtain ⟨k', rfl⟩ : ∃ q, k' = q + 1 := ⟨k' - 1, by omega⟩
    simp only [lemmaref03_Vars.l1]
    rw [if_neg (by omega)]
    rcases hB with ⟨rfl, hno⟩ | ⟨b, hb, hbi, rfl, hcb, hmin⟩
    · rw [if_pos (by omega)]
      refine ⟨out, rfl, upto_done hU (fun x hx => ?_)⟩
      obtain ⟨j, hj, rfl⟩ := List.mem_iff_getElem.1 hx
      exact hno j hj hj
    · exfalso
      have hU2 := upto_more hU (List.getElem_mem hb) hcb (fun y hy hcy => by
        obtain ⟨j, hj, rfl⟩ := List.mem_iff_getElem.1 hy
        exact hmin j hj hj hcy)
      have := rising_len _ e hU2.rising (fun x hx => (hU2.sub x hx).1)
      rw [List.length_append, List.length_singleton] at this
      omega
  | succ m ih =>
    intro k out hlen hU hk
    have hmul : (m + 1 + 1) * (2 * e.length + 2) = (m + 1) * (2 * e.length + 2) + (2 * e.length + 2) := Nat.succ_mul _ _
    obtain ⟨k, rfl⟩ : ∃ q, k = q + 1 := ⟨k - 1, by omega⟩
    simp only [lemmaref03_Vars.l0]
    obtain ⟨best, k', hB, hk', heq⟩ := inner e set he hs out (by omega) e.length k 0 (-1) (by omega) (.inl ⟨rfl, fun j h hj => by omega⟩) (by omega)
    simp only [Int.natCast_zero] at heq
    rw [heq]
    obtain ⟨k', rfl⟩ : ∃ q, k' = q + 1 := ⟨k' - 1, by omega⟩
    simp only [lemmaref03_Vars.l1]
    rw [if_neg (by omega)]
    rcases hB with ⟨rfl, hno⟩ | ⟨b, hb, hbi, rfl, hcb, hmin⟩
    · rw [if_pos (by omega)]
      refine ⟨out, rfl, upto_done hU (fun x hx => ?_)⟩
      obtain ⟨j, hj, rfl⟩ := List.mem_iff_getElem.1 hx
      exact hno j hj hj
    · have hU2 := upto_more hU (List.getElem_mem hb) hcb (fun y hy hcy => by
        obtain ⟨j, hj, rfl⟩ := List.mem_iff_getElem.1 hy
        exact hmin j hj hj hcy)
      rw [if_neg (by omega), if_pos (by omega), if_pos (by omega), if_pos (by omega), rd_of hb]
      exact ih k' (out ++ [e[b]]) (by rw [List.length_append, List.length_singleton]; omega) hU2 (by omega)
theorem rvars_f : ∃ k r, lemmaref03_Vars.f k e false [] 0 false 0 0 set = some r ∧ Picks set.contains e r := by
  obtain ⟨r, h1, h2⟩ := outer e set he hs e.length _ [] (by simp) (upto_nil _ _) (Nat.le_refl _)
  exact ⟨_, r, h1, h2⟩
end
end Go.Proofs.Ytambldebfhhjpaa.FacesVars
