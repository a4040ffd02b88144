/- What the document's functions that ExprFaces calls answer. -/
import Derived.Test.YtambldebfhhjpaaFacesFuns
namespace Go.Proofs.Ytambldebfhhjpaa.FacesMore
open Go.RowKit Go.Proofs.Ytambldebfhhjpaa.PExprFaces Go.Proofs.YtambldebfhhjpaaW.PrintWords Go.Proofs.Ytambldebfhhjpaa.FacesPure Go.Proofs.Ytambldebfhhjpaa.FacesFuns
set_option linter.unusedVariables false

/-! ### Equal, Places -/
theorem req_l0 (l1 l0 : List Int) (hl : l0.length = l1.length) (hn : l0.length < 140737488351232) (d : Nat) : ∀ (k i : Nat), i ≤ l0.length → l0.length - i = d → d < k →
    lemmaref03_Equal.l0 k l0 l1 (i : Int) = some (decide (l0.drop i = l1.drop i)) := by
  induction d with
  | zero =>
    intro k i h1 hd hk
    obtain ⟨k, rfl⟩ : ∃ m, k = m + 1 := ⟨k - 1, by omega⟩
    simp only [lemmaref03_Equal.l0]; rw [if_neg (by omega)]
    simp [List.drop_of_length_le (show l0.length ≤ i by omega), List.drop_of_length_le (show l1.length ≤ i by omega)]
  | succ d ih =>
    intro k i h1 hd hk
    obtain ⟨k, rfl⟩ : ∃ m, k = m + 1 := ⟨k - 1, by omega⟩
    have hlt : i < l0.length := by omega
    simp only [lemmaref03_Equal.l0]
    rw [if_pos (by omega), if_pos (by omega), if_pos (by omega), rd_of hlt, rd_of (show i < l1.length by omega)]
    rw [List.drop_eq_getElem_cons hlt, List.drop_eq_getElem_cons (show i < l1.length by omega)]
    by_cases e : l0[i] = l1[i]
    · rw [if_pos e, wrap_id (by omega) (by omega)]
      have := ih k (i + 1) (by omega) (by omega) (by omega)
      rw [Int.natCast_add] at this
      simp only [Int.natCast_one] at this
      rw [this, e]
      generalize l0.drop (i + 1) = s
      generalize l1.drop (i + 1) = t
      generalize l1[i] = x
      simp
    · rw [if_neg e]
      generalize l0.drop (i + 1) = s
      generalize l1.drop (i + 1) = t
      generalize l1[i] = x at e ⊢
      generalize l0[i] = y at e ⊢
      simp [e]

theorem req_f (l0 l1 : List Int) (hn : l0.length < 140737488351232) (k : Nat) (hk : l0.length < k) : lemmaref03_Equal.f k l0 l1 = some (decide (l0 = l1)) := by
  unfold lemmaref03_Equal.f
  by_cases h : l0.length = l1.length
  · rw [if_pos (by omega)]
    have := req_l0 l1 l0 h hn l0.length k 0 (by omega) (by omega) hk
    simp only [Int.natCast_zero, List.drop_zero] at this
    exact this
  · rw [if_neg (by omega)]
    have : l0 ≠ l1 := fun e => h (by rw [e])
    simp [this]
theorem rpl_l0 (e p : List Int) (he : e.length ≤ 1048576) (hp : p.length ≤ 1048576) (d : Nat) : ∀ (k i : Nat), i ≤ e.length + 1 → e.length + 1 - i = d → d + p.length < k →
    (i = 0 ∨ i + p.length ≤ e.length + 1) → ∃ n, n ≤ e.length + 1 ∧ lemmaref03_Places.l0 k e p (placesTo e p i) (i : Int) = some (placesTo e p n) ∧ e.length < n + p.length := by
  induction d with
  | zero =>
    intro k i hi hd hk h0
    obtain ⟨k, rfl⟩ : ∃ m, k = m + 1 := ⟨k - 1, by omega⟩
    refine ⟨i, hi, ?_, by omega⟩
    simp only [lemmaref03_Places.l0]
    rw [wrap_id (by omega) (by omega), if_neg (by omega)]
  | succ d ih =>
    intro k i hi hd hk h0
    obtain ⟨k, rfl⟩ : ∃ m, k = m + 1 := ⟨k - 1, by omega⟩
    by_cases hlt : i + p.length ≤ e.length
    · simp only [lemmaref03_Places.l0]
      rw [wrap_id (i := (i : Int) + p.length) (by omega) (by omega), if_pos (by omega), if_pos (by omega), if_pos (by omega)]
      rw [show ((i : Int) + p.length).toNat = i + p.length by omega, show ((i : Int)).toNat = i by omega, drop_take, req_f _ _ (by simp; omega) k (by simp; omega), wrap_id (i := (i : Int) + 1) (by omega) (by omega)]
      simp only [Option.bind_some]
      have hs := placesTo_succ e p i
      have hl := placesTo_len e p i
      have next := ih k (i + 1) (by omega) (by omega) (by omega) (by omega)
      rw [Int.natCast_add, hs] at next
      simp only [Int.natCast_one] at next
      by_cases hh : stands e p i
      · rw [if_pos hh] at next
        rw [decide_eq_true hh.2, if_pos rfl, if_pos (by omega)]
        exact next
      · rw [if_neg hh, List.append_nil] at next
        have : (e.drop i).take p.length ≠ p := fun h => hh ⟨hlt, h⟩
        rw [decide_eq_false this, if_neg (by simp)]
        exact next
    · refine ⟨i, hi, ?_, by omega⟩
      simp only [lemmaref03_Places.l0]
      rw [wrap_id (by omega) (by omega), if_neg (by omega)]

theorem rplaces_f (e p : List Int) (he : e.length ≤ 1048576) (hp : p.length ≤ 1048576) : ∃ k n, lemmaref03_Places.f k e p = some (placesTo e p n) ∧ e.length < n + p.length ∧ n ≤ e.length + 1 := by
  obtain ⟨n, hn, h, hh⟩ := rpl_l0 e p he hp (e.length + 1) (e.length + 1 + p.length + 1) 0 (by omega) (by omega) (by omega) (by omega)
  refine ⟨e.length + 1 + p.length + 1, n, ?_, hh, hn⟩
  unfold lemmaref03_Places.f
  have : placesTo e p 0 = [] := rfl
  rw [this] at h
  rw [show ((0 : Int)) = ((0 : Nat) : Int) from rfl, h]


theorem placesTo_off {e p : List Int} {n : Nat} (h : e.length < n + p.length) (d : Nat) : placesTo e p (n + d) = placesTo e p n := by
  induction d with
  | zero => rfl
  | succ d ih =>
    rw [show n + (d + 1) = (n + d) + 1 from rfl, placesTo_succ, ih, if_neg (fun hs => by have := hs.1; omega), List.append_nil]
theorem placesTo_same {e p : List Int} {n m : Nat} (hn : e.length < n + p.length) (hm : e.length < m + p.length) : placesTo e p n = placesTo e p m := by
  rcases Nat.le_total n m with h | h
  · obtain ⟨d, rfl⟩ := Nat.exists_eq_add_of_le h
    exact (placesTo_off hn d).symm
  · obtain ⟨d, rfl⟩ := Nat.exists_eq_add_of_le h
    exact placesTo_off hm d

/-! ### Join -/
theorem rjoin_l1 (l : List (List Int)) (hb : l.flatten.length ≤ 4194304) {i : Nat} (hi : i < l.length) (hl : l.length ≤ 1048577) (r : List Int × Int) (d : Nat) : ∀ (k j : Nat), j ≤ l[i].length → l[i].length - j = d →
    (∀ k', k ≤ k' + d + 1 → lemmaref03_Join.l0 k' l (l.take (i + 1)).flatten ((i + 1 : Nat) : Int) = some r) → d < k → lemmaref03_Join.l1 k l ((l.take i).flatten ++ l[i].take j) (i : Int) (j : Int) = some r := by
  have e1 : (l.take (i + 1)).flatten = (l.take i).flatten ++ l[i] := by
    rw [List.take_succ_eq_append_getElem hi, List.flatten_append, List.flatten_cons, List.flatten_nil, List.append_nil]
  have e2 : l.flatten = (l.take (i + 1)).flatten ++ (l.drop (i + 1)).flatten := by
    rw [← List.flatten_append, List.take_append_drop]
  have e3 : (l.take i).flatten.length + l[i].length ≤ l.flatten.length := by
    have := congrArg List.length e2
    rw [e1] at this
    simp only [List.length_append] at this
    omega
  induction d with
  | zero =>
    intro k j hj hd hnext hk
    obtain ⟨k, rfl⟩ : ∃ m, k = m + 1 := ⟨k - 1, by omega⟩
    simp only [lemmaref03_Join.l1]
    rw [if_pos (by omega), if_pos (by omega), rdL_of hi, if_neg (by omega), wrap_id (by omega) (by omega), List.take_of_length_le (l := l[i]) (by omega), ← e1]
    exact hnext k (by omega)
  | succ d ih =>
    intro k j hj hd hnext hk
    obtain ⟨k, rfl⟩ : ∃ m, k = m + 1 := ⟨k - 1, by omega⟩
    have hlt : j < l[i].length := by omega
    simp only [lemmaref03_Join.l1]
    rw [if_pos (by omega), if_pos (by omega), rdL_of hi, if_pos (by omega), if_pos (by omega), if_pos (by rw [List.length_append, List.length_take]; omega), rd_of hlt, wrap_id (by omega) (by omega), List.append_assoc, ← List.take_succ_eq_append_getElem hlt]
    have := ih k (j + 1) (by omega) (by omega) (fun k' hk' => hnext k' (by omega)) (by omega)
    rw [Int.natCast_add] at this
    exact this
theorem rjoin_l0 (l : List (List Int)) (hb : l.flatten.length ≤ 4194304) (hl : l.length ≤ 1048577) (d : Nat) : ∀ (k i : Nat), i ≤ l.length → l.length - i = d → (l.drop i).flatten.length + 2 * d < k →
    lemmaref03_Join.l0 k l (l.take i).flatten (i : Int) = some (if 200 < l.flatten.length then ([], 31) else (l.flatten, 0)) := by
  induction d with
  | zero =>
    intro k i hi hd hk
    obtain ⟨k, rfl⟩ : ∃ m, k = m + 1 := ⟨k - 1, by omega⟩
    simp only [lemmaref03_Join.l0]
    rw [if_neg (by omega), List.take_of_length_le (by omega)]
    by_cases h : 200 < l.flatten.length
    · rw [if_pos (by omega), if_pos h]
    · rw [if_neg (by omega), if_neg h]
  | succ d ih =>
    intro k i hi hd hk
    obtain ⟨k, rfl⟩ : ∃ m, k = m + 1 := ⟨k - 1, by omega⟩
    have hlt : i < l.length := by omega
    have e4 : (l.drop i).flatten.length = l[i].length + (l.drop (i + 1)).flatten.length := by
      rw [List.drop_eq_getElem_cons hlt, List.flatten_cons, List.length_append]
    simp only [lemmaref03_Join.l0]
    rw [if_pos (by omega)]
    have := rjoin_l1 l hb hlt hl _ l[i].length k 0 (by omega) (by omega) (fun k' hk' => ih k' (i + 1) (by omega) (by omega) (by omega)) (by omega)
    simpa using this
theorem rjoin_f (l : List (List Int)) (hb : l.flatten.length ≤ 4194304) (hl : l.length ≤ 1048577) : ∃ k, lemmaref03_Join.f k l = some (if 200 < l.flatten.length then ([], 31) else (l.flatten, 0)) :=
  ⟨_, by
    unfold lemmaref03_Join.f
    have := rjoin_l0 l hb hl l.length (l.flatten.length + 2 * l.length + 1) 0 (by omega) (by omega) (by simp)
    simpa using this⟩
theorem pjoin_f (l : List (List Int)) (hb : l.flatten.length ≤ 4194304) (hl : l.length ≤ 1048577) : ∃ k, expr_Join.f k l = some (if 200 < l.flatten.length then ([], 31) else (l.flatten, 0)) := by
  by_cases h : 200 < l.flatten.length
  · rw [if_pos h]
    exact join_long l hl hb h
  · rw [if_neg h]
    exact join_ok l hl (by omega)

/-! ### Compare -/
theorem lex_swap_lt (a b : List Int) : lexL a b = 1 ↔ lexL b a = -1 := by
  have := lexL_swap a b
  omega
theorem ahead_l0 (l0 l1 : List Int) (hl : l0.length = l1.length) (hn : l0.length < 140737488351232) (d : Nat) : ∀ (k i : Nat), i ≤ l0.length → l0.length - i = d → d < k →
    lemmaref03_ahead.l0 k l0 l1 (i : Int) = some (decide (lexL (l0.drop i) (l1.drop i) = -1)) := by
  induction d with
  | zero =>
    intro k i h1 hd hk
    obtain ⟨k, rfl⟩ : ∃ m, k = m + 1 := ⟨k - 1, by omega⟩
    simp only [lemmaref03_ahead.l0]; rw [if_neg (by omega)]
    simp [List.drop_of_length_le (show l0.length ≤ i by omega), List.drop_of_length_le (show l1.length ≤ i by omega), lexL]
  | succ d ih =>
    intro k i h1 hd hk
    obtain ⟨k, rfl⟩ : ∃ m, k = m + 1 := ⟨k - 1, by omega⟩
    have hlt : i < l0.length := by omega
    simp only [lemmaref03_ahead.l0]
    rw [if_pos (by omega), if_pos (by omega), if_pos (by omega), rd_of hlt, rd_of (show i < l1.length by omega)]
    rw [List.drop_eq_getElem_cons hlt, List.drop_eq_getElem_cons (show i < l1.length by omega)]
    have hx : lexL (l0[i] :: l0.drop (i + 1)) (l1[i]'(by omega) :: l1.drop (i + 1)) = if ordI l0[i] (l1[i]'(by omega)) = 0 then lexL (l0.drop (i + 1)) (l1.drop (i + 1)) else ordI l0[i] (l1[i]'(by omega)) := rfl
    rw [hx]
    have ho := ordI_cases l0[i] (l1[i]'(by omega))
    by_cases e : l0[i] = l1[i]'(by omega)
    · have e0 : ordI l0[i] (l1[i]'(by omega)) = 0 := by rcases ho with h | h | h <;> omega
      rw [if_pos e, if_pos e0, wrap_id (by omega) (by omega)]
      have := ih k (i + 1) (by omega) (by omega) (by omega)
      rw [Int.natCast_add] at this
      simp only [Int.natCast_one] at this
      exact this
    · have e0 : ordI l0[i] (l1[i]'(by omega)) ≠ 0 := by rcases ho with h | h | h <;> omega
      rw [if_neg e, if_neg e0]
      congr 1
      rw [Bool.eq_iff_iff, decide_eq_true_eq, decide_eq_true_eq]
      rcases ho with h | h | h <;> omega
theorem ahead_f (l0 l1 : List Int) (hn : l0.length < 140737488351232) (k : Nat) (hk : l0.length < k) : lemmaref03_ahead.f k l0 l1 = some (decide (cmpL l0 l1 = -1)) := by
  unfold lemmaref03_ahead.f cmpL
  by_cases h : l0.length = l1.length
  · rw [if_pos (by omega), if_pos h]
    have := ahead_l0 l0 l1 h hn l0.length k 0 (by omega) (by omega) hk
    simpa using this
  · rw [if_neg (by omega), if_neg h]
    congr 1
    rw [Bool.eq_iff_iff, decide_eq_true_eq, decide_eq_true_eq]
    have ho := ordI_cases (l0.length : Int) (l1.length : Int)
    rcases ho with h2 | h2 | h2 <;> omega
theorem rcmp_f (l0 l1 : List Int) (hn : l0.length < 140737488351232) (hn1 : l1.length < 140737488351232) : ∃ k, lemmaref03_Compare.f k l0 l1 = some (cmpL l0 l1) := by
  refine ⟨l0.length + l1.length + 1, ?_⟩
  unfold lemmaref03_Compare.f
  rw [ahead_f l0 l1 hn _ (by omega), ahead_f l1 l0 hn1 _ (by omega)]
  simp only [Option.bind_some]
  have hs := cmpL_swap l0 l1
  rcases cmpL_cases l0 l1 with h | h | h
  · rw [h]; rfl
  · rw [h] at hs ⊢
    rw [show cmpL l1 l0 = 0 by omega]; rfl
  · rw [h] at hs ⊢
    rw [show cmpL l1 l0 = -1 by omega]; rfl

/-! ### room -/
theorem roomy_f (l : List Int) (h : l.length ≤ 1048576) : lemmalaw03_roomy.f l = some (l ++ [-71, -72, -73]) := by
  unfold lemmalaw03_roomy.f
  rw [if_pos (by simp; omega)]
  simp only [Option.bind_some, List.nil_append]
  rw [if_pos (by simp; omega)]
end Go.Proofs.Ytambldebfhhjpaa.FacesMore
