/- What the printed functions that ExprKeeps calls answer. -/
import Derived.Test.YtpoojimmponklaaDoorKeepsPure
import Derived.Test.YtpoojimmponklaaDoorKeepsWhere
namespace Go.Proofs.YtpoojimmponklaaDoor.KeepsFuns
open Go.RowKit Go.Proofs.YtpoojimmponklaaDoor.PExprKeeps Go.Proofs.YtpoojimmponklaaDoorW.PrintWords Go.Proofs.YtpoojimmponklaaDoor.KeepsPure
set_option linter.unusedVariables false

theorem wrap_id {i : Int} (h0 : -9223372036854775808 ≤ i) (h : i ≤ 9223372036854775807) : wrap64 i = i := by unfold wrap64; omega
theorem rd_of {xs : List Int} {n : Nat} (h : n < xs.length) : rd xs (n : Int) = xs[n] := by
  unfold rd; simp [h]
theorem rdL_of {xs : List (List Int)} {n : Nat} (h : n < xs.length) : rd_L1 xs (n : Int) = xs[n] := by
  unfold rd_L1; simp [h]

/-! ### cutUp -/
theorem join_l0 (l : List (List Int)) (hl : l.length ≤ 1048577) (ht : l.flatten.length ≤ 200) (d : Nat) : ∀ (k i : Nat), i ≤ l.length → l.length - i = d → d < k →
    expr_Join.l0 k (l.take i).flatten l (l.length : Int) (i : Int) = some (l.flatten, 0) := by
  induction d with
  | zero =>
    intro k i hi hd hk
    obtain ⟨k, rfl⟩ : ∃ m, k = m + 1 := ⟨k - 1, by omega⟩
    simp only [expr_Join.l0]
    rw [if_neg (by omega), List.take_of_length_le (by omega)]
  | succ d ih =>
    intro k i hi hd hk
    obtain ⟨k, rfl⟩ : ∃ m, k = m + 1 := ⟨k - 1, by omega⟩
    have hlt : i < l.length := by omega
    have e1 : (l.take (i + 1)).flatten = (l.take i).flatten ++ l[i] := by
      rw [List.take_succ_eq_append_getElem hlt, List.flatten_append, List.flatten_cons, List.flatten_nil, List.append_nil]
    have e2 : l.flatten = (l.take (i + 1)).flatten ++ (l.drop (i + 1)).flatten := by
      rw [← List.flatten_append, List.take_append_drop]
    have e3 : (l.take i).flatten.length + l[i].length ≤ 200 := by
      have := congrArg List.length e2
      rw [e1] at this
      simp only [List.length_append] at this
      omega
    simp only [expr_Join.l0]
    rw [if_pos (by omega), if_pos (by omega), if_pos (by omega), rdL_of hlt, wrap_id (i := 200 - _) (by omega) (by omega), if_neg (by omega), if_pos (by omega), ← e1, wrap_id (by omega) (by omega)]
    have := ih k (i + 1) (by omega) (by omega) (by omega)
    rw [Int.natCast_add] at this
    exact this

theorem join_ok (l : List (List Int)) (hl : l.length ≤ 1048577) (ht : l.flatten.length ≤ 200) : ∃ k, expr_Join.f k l = some (l.flatten, 0) :=
  ⟨l.length + 1, by have := join_l0 l hl ht l.length (l.length + 1) 0 (by omega) (by omega) (by omega); unfold expr_Join.f; simpa using this⟩

theorem join_l0' (l : List (List Int)) (hl : l.length ≤ 1048577) (hb : l.flatten.length ≤ 4194304) (ht : 200 < l.flatten.length) (d : Nat) : ∀ (k i : Nat), i ≤ l.length → l.length - i = d → d < k → (l.take i).flatten.length ≤ 200 →
    expr_Join.l0 k (l.take i).flatten l (l.length : Int) (i : Int) = some ([], 31) := by
  induction d with
  | zero =>
    intro k i hi hd hk h2
    rw [List.take_of_length_le (by omega)] at h2
    omega
  | succ d ih =>
    intro k i hi hd hk h2
    obtain ⟨k, rfl⟩ : ∃ m, k = m + 1 := ⟨k - 1, by omega⟩
    have hlt : i < l.length := by omega
    have e1 : (l.take (i + 1)).flatten = (l.take i).flatten ++ l[i] := by
      rw [List.take_succ_eq_append_getElem hlt, List.flatten_append, List.flatten_cons, List.flatten_nil, List.append_nil]
    have e2 : l.flatten = (l.take (i + 1)).flatten ++ (l.drop (i + 1)).flatten := by
      rw [← List.flatten_append, List.take_append_drop]
    have e3 : (l.take i).flatten.length + l[i].length ≤ l.flatten.length := by
      have := congrArg List.length e2
      rw [e1] at this
      simp only [List.length_append] at this
      omega
    simp only [expr_Join.l0]
    rw [if_pos (by omega), if_pos (by omega), if_pos (by omega), rdL_of hlt, wrap_id (i := 200 - _) (by omega) (by omega)]
    by_cases h3 : ((l[i]).length : Int) > 200 - ((l.take i).flatten.length : Int)
    · rw [if_pos h3]
    · rw [if_neg h3, if_pos (by omega), ← e1, wrap_id (by omega) (by omega)]
      have h4 : (l.take (i + 1)).flatten.length ≤ 200 := by
        rw [e1, List.length_append]
        omega
      have := ih k (i + 1) (by omega) (by omega) (by omega) h4
      rw [Int.natCast_add] at this
      exact this

theorem join_long (l : List (List Int)) (hl : l.length ≤ 1048577) (hb : l.flatten.length ≤ 4194304) (ht : 200 < l.flatten.length) : ∃ k, expr_Join.f k l = some ([], 31) :=
  ⟨l.length + 1, by have := join_l0' l hl hb ht l.length (l.length + 1) 0 (by omega) (by omega) (by omega) (by simp); unfold expr_Join.f; simpa using this⟩

/-! ### same, Equal, in -/
theorem same_l0 (l1 l0 : List Int) (hl : l0.length = l1.length) (hn : l0.length < 140737488351232) (d : Nat) : ∀ (k i : Nat), i ≤ l0.length → l0.length - i = d → d < k →
    expr_same_int.l0 k l1 l0 (l0.length : Int) (i : Int) = some (decide (l0.drop i = l1.drop i)) := by
  induction d with
  | zero =>
    intro k i h1 hd hk
    obtain ⟨k, rfl⟩ : ∃ m, k = m + 1 := ⟨k - 1, by omega⟩
    simp only [expr_same_int.l0]; rw [if_neg (by omega)]
    simp [List.drop_of_length_le (show l0.length ≤ i by omega), List.drop_of_length_le (show l1.length ≤ i by omega)]
  | succ d ih =>
    intro k i h1 hd hk
    obtain ⟨k, rfl⟩ : ∃ m, k = m + 1 := ⟨k - 1, by omega⟩
    have hlt : i < l0.length := by omega
    simp only [expr_same_int.l0]
    rw [if_pos (by omega), if_pos (by omega), if_pos (by omega), if_pos (by omega), rd_of hlt, rd_of (show i < l1.length by omega)]
    rw [List.drop_eq_getElem_cons hlt, List.drop_eq_getElem_cons (show i < l1.length by omega)]
    by_cases e : l0[i] = l1[i]
    · rw [if_pos e, wrap_id (by omega) (by omega)]
      have := ih k (i + 1) (by omega) (by omega) (by omega)
      rw [Int.natCast_add] at this
      simp only [Int.natCast_one] at this
      rw [this, e]
      generalize l0.drop (i + 1) = s
      generalize l1.drop (i + 1) = t
      generalize l1[i] = x
      simp
    · rw [if_neg e]
      generalize l0.drop (i + 1) = s
      generalize l1.drop (i + 1) = t
      generalize l1[i] = x at e ⊢
      generalize l0[i] = y at e ⊢
      simp [e]

theorem same_int (l0 l1 : List Int) (hn : l0.length < 140737488351232) (k : Nat) (hk : l0.length < k) : expr_same_int.f k l0 l1 = some (decide (l0 = l1)) := by
  unfold expr_same_int.f
  by_cases h : l0.length = l1.length
  · rw [if_pos (by omega)]
    have := same_l0 l1 l0 h hn l0.length k 0 (by omega) (by omega) hk
    simp only [Int.natCast_zero, List.drop_zero] at this
    exact this
  · rw [if_neg (by omega)]
    have : l0 ≠ l1 := fun e => h (by rw [e])
    simp [this]
theorem samelaw_l0 (l1 l0 : List Int) (hl : l0.length = l1.length) (hn : l0.length < 140737488351232) (d : Nat) : ∀ (k i : Nat), i ≤ l0.length → l0.length - i = d → d < k →
    lemmalaw03_same.l0 k l0 l1 (i : Int) = some (decide (l0.drop i = l1.drop i)) := by
  induction d with
  | zero =>
    intro k i h1 hd hk
    obtain ⟨k, rfl⟩ : ∃ m, k = m + 1 := ⟨k - 1, by omega⟩
    simp only [lemmalaw03_same.l0]; rw [if_neg (by omega)]
    simp [List.drop_of_length_le (show l0.length ≤ i by omega), List.drop_of_length_le (show l1.length ≤ i by omega)]
  | succ d ih =>
    intro k i h1 hd hk
    obtain ⟨k, rfl⟩ : ∃ m, k = m + 1 := ⟨k - 1, by omega⟩
    have hlt : i < l0.length := by omega
    simp only [lemmalaw03_same.l0]
    rw [if_pos (by omega), if_pos (by omega), if_pos (by omega), rd_of hlt, rd_of (show i < l1.length by omega)]
    rw [List.drop_eq_getElem_cons hlt, List.drop_eq_getElem_cons (show i < l1.length by omega)]
    by_cases e : l0[i] = l1[i]
    · rw [if_pos e, wrap_id (by omega) (by omega)]
      have := ih k (i + 1) (by omega) (by omega) (by omega)
      rw [Int.natCast_add] at this
      simp only [Int.natCast_one] at this
      rw [this, e]
      generalize l0.drop (i + 1) = s
      generalize l1.drop (i + 1) = t
      generalize l1[i] = x
      simp
    · rw [if_neg e]
      generalize l0.drop (i + 1) = s
      generalize l1.drop (i + 1) = t
      generalize l1[i] = x at e ⊢
      generalize l0[i] = y at e ⊢
      simp [e]
theorem same_law (l0 : List Int) (hn : l0.length < 140737488351232) : ∃ k, lemmalaw03_same.f k l0 l0 = some true :=
  ⟨l0.length + 1, by
    unfold lemmalaw03_same.f
    rw [if_pos rfl]
    have := samelaw_l0 l0 l0 rfl hn l0.length (l0.length + 1) 0 (by omega) (by omega) (by omega)
    simpa using this⟩

def stands (e p : List Int) (i : Nat) : Prop := i + p.length ≤ e.length ∧ (e.drop i).take p.length = p
instance (e p : List Int) (i : Nat) : Decidable (stands e p i) := inferInstanceAs (Decidable (_ ∧ _))
def placesTo (e p : List Int) (i : Nat) : List Int := ((List.range i).filter fun (j : Nat) => decide (stands e p j)).map fun (j : Nat) => (j : Int)
theorem placesTo_succ (e p : List Int) (i : Nat) : placesTo e p (i + 1) = placesTo e p i ++ (if stands e p i then [(i : Int)] else []) := by
  unfold placesTo
  rw [List.range_succ, List.filter_append, List.map_append]
  congr 1
  by_cases h : stands e p i <;> simp [h]
theorem placesTo_len (e p : List Int) (i : Nat) : (placesTo e p i).length ≤ i := by
  unfold placesTo
  rw [List.length_map]
  exact Nat.le_trans (List.length_filter_le _ _) (by simp)
theorem drop_take (e : List Int) (i n : Nat) : (e.take (i + n)).drop i = (e.drop i).take n := by
  rw [List.drop_take]
  congr 1
  omega
theorem where_l0 (e p : List Int) (he : e.length ≤ 1048576) (hp : p.length ≤ 1048576) (d : Nat) : ∀ (k i : Nat), i ≤ e.length + 1 → e.length + 1 - i = d → d + p.length < k →
    (i = 0 ∨ i + p.length ≤ e.length + 1) → ∃ n, n ≤ e.length + 1 ∧ expr_where_int.l0 k e p (placesTo e p i) (i : Int) = some (placesTo e p n) ∧ e.length < n + p.length := by
  induction d with
  | zero =>
    intro k i hi hd hk h0
    obtain ⟨k, rfl⟩ : ∃ m, k = m + 1 := ⟨k - 1, by omega⟩
    refine ⟨i, hi, ?_, by omega⟩
    simp only [expr_where_int.l0]
    rw [wrap_id (by omega) (by omega), if_neg (by omega)]
  | succ d ih =>
    intro k i hi hd hk h0
    obtain ⟨k, rfl⟩ : ∃ m, k = m + 1 := ⟨k - 1, by omega⟩
    by_cases hlt : i + p.length ≤ e.length
    · simp only [expr_where_int.l0]
      rw [wrap_id (i := (i : Int) + p.length) (by omega) (by omega), if_pos (by omega), if_pos (by omega), if_pos (by omega)]
      rw [show ((i : Int) + p.length).toNat = i + p.length by omega, show ((i : Int)).toNat = i by omega, drop_take, same_int _ _ (by simp; omega) k (by simp; omega), wrap_id (i := (i : Int) + 1) (by omega) (by omega)]
      simp only [Option.bind_some]
      have hs := placesTo_succ e p i
      have hl := placesTo_len e p i
      have next := ih k (i + 1) (by omega) (by omega) (by omega) (by omega)
      rw [Int.natCast_add, hs] at next
      simp only [Int.natCast_one] at next
      by_cases hh : stands e p i
      · rw [if_pos hh] at next
        rw [decide_eq_true hh.2, if_pos rfl, if_pos (by omega)]
        exact next
      · rw [if_neg hh, List.append_nil] at next
        have : (e.drop i).take p.length ≠ p := fun h => hh ⟨hlt, h⟩
        rw [decide_eq_false this, if_neg (by simp)]
        exact next
    · refine ⟨i, hi, ?_, by omega⟩
      simp only [expr_where_int.l0]
      rw [wrap_id (by omega) (by omega), if_neg (by omega)]

theorem places_f (e p : List Int) (he : e.length ≤ 1048576) (hp : p.length ≤ 1048576) : ∃ k n, expr_Places.f k e p = some (placesTo e p n) ∧ e.length < n + p.length ∧ n ≤ e.length + 1 := by
  obtain ⟨n, hn, h, hh⟩ := where_l0 e p he hp (e.length + 1) (e.length + 1 + p.length + 1) 0 (by omega) (by omega) (by omega) (by omega)
  refine ⟨e.length + 1 + p.length + 1, n, ?_, hh, hn⟩
  unfold expr_Places.f expr_where_int.f
  have : placesTo e p 0 = [] := rfl
  rw [this] at h
  rw [show ((0 : Int)) = ((0 : Nat) : Int) from rfl, h]
  rfl
end Go.Proofs.YtpoojimmponklaaDoor.KeepsFuns
