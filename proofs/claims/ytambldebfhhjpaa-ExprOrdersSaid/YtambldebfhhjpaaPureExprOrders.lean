/- For every three lists of numbers the order laws of Compare and Equal hold (ExprOrders answers true), wherever the lists fit the model's memory. -/
import Derived.Test.YtambldebfhhjpaaPExprOrdersx2
import Derived.Test.YtambldebfhhjpaaWSized
namespace Go.Proofs.Ytambldebfhhjpaa.Pure
open Go.RowKit Go.Proofs.Ytambldebfhhjpaa.PExprOrders Go.Proofs.YtambldebfhhjpaaW.PrintWords Go.Proofs.YtambldebfhhjpaaW.PrintLast

def ordI (a b : Int) : Int := if a < b then -1 else if a > b then 1 else 0
def lexL : List Int → List Int → Int
  | [], [] => 0
  | [], _ :: _ => -1
  | _ :: _, [] => 1
  | a :: s, b :: t => if ordI a b = 0 then lexL s t else ordI a b
def cmpL (a b : List Int) : Int := if a.length = b.length then lexL a b else ordI a.length b.length

theorem ordI_cases (a b : Int) : (ordI a b = -1 ∧ a < b) ∨ (ordI a b = 0 ∧ a = b) ∨ (ordI a b = 1 ∧ b < a) := by
  unfold ordI; split
  · exact .inl ⟨rfl, ‹_›⟩
  · split
    · exact .inr (.inr ⟨rfl, ‹_›⟩)
    · exact .inr (.inl ⟨rfl, by omega⟩)

theorem lexL_cases (a b : List Int) : lexL a b = -1 ∨ lexL a b = 0 ∨ lexL a b = 1 := by
  induction a generalizing b with
  | nil => cases b <;> simp [lexL]
  | cons x s ih =>
    cases b with
    | nil => simp [lexL]
    | cons y t =>
      simp only [lexL]; split
      · exact ih t
      · rcases ordI_cases x y with h | h | h <;> simp [h.1]

theorem lexL_swap (a b : List Int) : lexL a b = - lexL b a := by
  induction a generalizing b with
  | nil => cases b <;> simp [lexL]
  | cons x s ih =>
    cases b with
    | nil => simp [lexL]
    | cons y t =>
      have := ih t
      simp only [lexL]
      rcases ordI_cases x y with h | h | h <;> rcases ordI_cases y x with g | g | g <;> simp only [h.1, g.1] <;> first | omega | (simp; done) | (simpa using this)

theorem lexL_eq (a b : List Int) : lexL a b = 0 ↔ a = b := by
  induction a generalizing b with
  | nil => cases b <;> simp [lexL]
  | cons x s ih =>
    cases b with
    | nil => simp [lexL]
    | cons y t =>
      have := ih t
      simp only [lexL]
      rcases ordI_cases x y with h | h | h
      · simp only [h.1]; simp; omega
      · simp only [h.1, if_true, this]; simp [h.2]
      · simp only [h.1]; simp; omega

theorem lexL_trans (a b c : List Int) (h1 : lexL a b ≤ 0) (h2 : lexL b c ≤ 0) : lexL a c ≤ 0 := by
  induction a generalizing b c with
  | nil => cases c <;> simp [lexL]
  | cons x s ih =>
    cases b with
    | nil => simp [lexL] at h1
    | cons y t =>
      cases c with
      | nil => simp [lexL] at h2
      | cons z u =>
        simp only [lexL] at h1 h2 ⊢
        rcases ordI_cases x y with h | h | h <;> rcases ordI_cases y z with g | g | g <;> simp only [h.1, g.1] at h1 h2
        · rcases ordI_cases x z with k | k | k <;> simp only [k.1] <;> first | omega | (simp; done)
        · rcases ordI_cases x z with k | k | k <;> simp only [k.1] <;> first | omega | (simp; done)
        · simp at h2
        · rcases ordI_cases x z with k | k | k <;> simp only [k.1] <;> first | omega | (simp; done)
        · rcases ordI_cases x z with k | k | k <;> simp only [k.1]
          · simp
          · simp only [if_true] at h1 h2 ⊢; exact ih t u h1 h2
          · omega
        · simp at h2
        · simp at h1
        · simp at h1
        · simp at h1

theorem cmpL_cases (a b : List Int) : cmpL a b = -1 ∨ cmpL a b = 0 ∨ cmpL a b = 1 := by
  unfold cmpL; split
  · exact lexL_cases a b
  · rcases ordI_cases a.length b.length with h | h | h <;> simp [h.1]
theorem cmpL_swap (a b : List Int) : cmpL a b = - cmpL b a := by
  unfold cmpL
  by_cases h : a.length = b.length
  · rw [if_pos h, if_pos h.symm, lexL_swap]
  · rw [if_neg h, if_neg (fun e => h e.symm)]
    rcases ordI_cases a.length b.length with h | h | h <;> rcases ordI_cases b.length a.length with g | g | g <;> rw [h.1, g.1] <;> omega
theorem cmpL_eq (a b : List Int) : cmpL a b = 0 ↔ a = b := by
  unfold cmpL
  by_cases h : a.length = b.length
  · rw [if_pos h, lexL_eq]
  · rw [if_neg h]
    rcases ordI_cases a.length b.length with g | g | g
    · rw [g.1]; constructor
      · intro e; omega
      · intro e; rw [e] at h; exact absurd rfl h
    · omega
    · rw [g.1]; constructor
      · intro e; omega
      · intro e; rw [e] at h; exact absurd rfl h
theorem cmpL_le (a b : List Int) (h : cmpL a b ≤ 0) : a.length ≤ b.length ∧ (a.length = b.length → lexL a b ≤ 0) := by
  unfold cmpL at h
  by_cases e : a.length = b.length
  · rw [if_pos e] at h; exact ⟨by omega, fun _ => h⟩
  · rw [if_neg e] at h
    rcases ordI_cases a.length b.length with g | g | g
    · exact ⟨by omega, fun k => absurd k e⟩
    · omega
    · rw [g.1] at h; omega
theorem cmpL_trans (a b c : List Int) (h1 : cmpL a b ≤ 0) (h2 : cmpL b c ≤ 0) : cmpL a c ≤ 0 := by
  obtain ⟨l1, k1⟩ := cmpL_le a b h1
  obtain ⟨l2, k2⟩ := cmpL_le b c h2
  unfold cmpL
  by_cases e : a.length = c.length
  · rw [if_pos e]; exact lexL_trans a b c (k1 (by omega)) (k2 (by omega))
  · rw [if_neg e]
    rcases ordI_cases a.length c.length with g | g | g <;> rw [g.1] <;> omega
theorem cmpL_trans0 (a b c : List Int) (h1 : cmpL a b ≤ 0) (h2 : cmpL b c ≤ 0) (h : cmpL a c = 0) : cmpL a b = 0 ∧ cmpL b c = 0 := by
  have e := (cmpL_eq a c).1 h
  subst e
  have s := cmpL_swap b a
  have h3 : cmpL b a = 0 := by omega
  exact ⟨by omega, h3⟩
theorem cmpL_more (a : List Int) : cmpL a (a ++ [0]) = -1 := by
  unfold cmpL
  rw [if_neg (by simp)]
  rcases ordI_cases a.length (a ++ [0]).length with g | g | g
  · exact g.1
  · have := g.2; simp only [List.length_append, List.length_singleton] at this; omega
  · have := g.2; simp only [List.length_append, List.length_singleton] at this; omega

theorem wrap_up {i : Int} (h0 : 0 ≤ i) (h : i < 140737488351232) : wrap64 (i + 1) = i + 1 := by unfold wrap64; omega
theorem rd_of {xs : List Int} {n : Nat} (h : n < xs.length) : rd xs (n : Int) = xs[n] := by
  unfold rd; simp [h]

theorem same_l0 (l1 l0 : List Int) (hl : l0.length = l1.length) (hn : l0.length < 140737488351232) (d : Nat) : ∀ (k i : Nat), i ≤ l0.length → l0.length - i = d → d < k →
    expr_same_int.l0 k l1 l0 (l0.length : Int) (i : Int) = some (decide (l0.drop i = l1.drop i)) := by
  induction d with
  | zero =>
    intro k i h1 hd hk
    obtain ⟨k, rfl⟩ : ∃ m, k = m + 1 := ⟨k - 1, by omega⟩
    simp only [expr_same_int.l0]; rw [if_neg (by omega)]
    simp [List.drop_of_length_le (show l0.length ≤ i by omega), List.drop_of_length_le (show l1.length ≤ i by omega)]
  | succ d ih =>
    intro k i h1 hd hk
    obtain ⟨k, rfl⟩ : ∃ m, k = m + 1 := ⟨k - 1, by omega⟩
    have hlt : i < l0.length := by omega
    simp only [expr_same_int.l0]
    rw [if_pos (by omega), if_pos (by omega), if_pos (by omega), if_pos (by omega), rd_of hlt, rd_of (show i < l1.length by omega)]
    rw [List.drop_eq_getElem_cons hlt, List.drop_eq_getElem_cons (show i < l1.length by omega)]
    by_cases e : l0[i] = l1[i]
    · rw [if_pos e, wrap_up (by omega) (by omega)]
      have := ih k (i + 1) (by omega) (by omega) (by omega)
      rw [Int.natCast_add] at this
      simp only [Int.natCast_one] at this
      rw [this, e]
      generalize l0.drop (i + 1) = s
      generalize l1.drop (i + 1) = t
      generalize l1[i] = x
      simp
    · rw [if_neg e]
      generalize l0.drop (i + 1) = s
      generalize l1.drop (i + 1) = t
      generalize l1[i] = x at e ⊢
      generalize l0[i] = y at e ⊢
      simp [e]

theorem same_f (l0 l1 : List Int) (hn : l0.length < 140737488351232) (k : Nat) (hk : l0.length < k) : expr_Equal.f k l0 l1 = some (decide (l0 = l1)) := by
  unfold expr_Equal.f expr_same_int.f
  by_cases h : l0.length = l1.length
  · rw [if_pos (by omega)]
    have := same_l0 l1 l0 h hn l0.length k 0 (by omega) (by omega) hk
    simp only [Int.natCast_zero, List.drop_zero] at this
    rw [this]; rfl
  · rw [if_neg (by omega)]
    have : l0 ≠ l1 := fun e => h (by rw [e])
    simp [this]

theorem cmpC (a b : Int) : cmp_Compare_int.f a b = some (ordI a b) := by
  unfold cmp_Compare_int.f cmp_isNaN_int.f ordI
  simp only [bne_self_eq_false, Option.bind_some, Bool.false_eq_true, if_false]
  split
  · rfl
  · split <;> rfl

theorem lex_l0 (l0 l1 : List Int) (hl : l0.length = l1.length) (hn : l0.length < 140737488351232) (d : Nat) : ∀ (k i : Nat), i ≤ l0.length → l0.length - i = d → d < k →
    slices_Compare_int_int.l0 k l0 l1 l0 (l0.length : Int) (i : Int) = some (lexL (l0.drop i) (l1.drop i)) := by
  induction d with
  | zero =>
    intro k i h1 hd hk
    obtain ⟨k, rfl⟩ : ∃ m, k = m + 1 := ⟨k - 1, by omega⟩
    simp only [slices_Compare_int_int.l0]; rw [if_neg (by omega), if_neg (by omega)]
    simp [List.drop_of_length_le (show l0.length ≤ i by omega), List.drop_of_length_le (show l1.length ≤ i by omega), lexL]
  | succ d ih =>
    intro k i h1 hd hk
    obtain ⟨k, rfl⟩ : ∃ m, k = m + 1 := ⟨k - 1, by omega⟩
    have hlt : i < l0.length := by omega
    simp only [slices_Compare_int_int.l0]
    rw [if_pos (by omega), if_pos (by omega), if_pos (by omega), if_neg (by omega), if_pos (by omega), rd_of hlt, rd_of (show i < l1.length by omega), cmpC]
    rw [List.drop_eq_getElem_cons hlt, List.drop_eq_getElem_cons (show i < l1.length by omega)]
    simp only [Option.bind_some, lexL]
    by_cases e : ordI l0[i] l1[i] = 0
    · rw [if_pos e, if_pos e, wrap_up (by omega) (by omega)]
      have := ih k (i + 1) (by omega) (by omega) (by omega)
      rw [Int.natCast_add] at this
      simp only [Int.natCast_one] at this
      rw [this]
    · rw [if_neg e, if_neg e]

theorem cmp_f (l0 l1 : List Int) (hn : l0.length < 140737488351232) (k : Nat) (hk : l0.length < k) : expr_Compare.f k l0 l1 = some (cmpL l0 l1) := by
  unfold expr_Compare.f slices_Compare_int_int.f cmpL
  by_cases h : l0.length = l1.length
  · rw [if_pos (by omega), if_pos h]
    have := lex_l0 l0 l1 h hn l0.length k 0 (by omega) (by omega) hk
    simp only [Int.natCast_zero, List.drop_zero] at this
    rw [this]; rfl
  · rw [if_neg (by omega), if_neg h, cmpC]; rfl

theorem j0_more (l0 : List Int) (h0 : l0.length < 17592186044416) (k : Nat) (hk : l0.length < k) :
    (if ([] : List Int).length + l0.length < 17592186044416 then ((some (([] : List Int) ++ l0 : List Int)).bind fun y117 => (if y117.length < 17592186044416 then ((expr_Compare.f k l0 (y117 ++ [0])).bind fun t123 => (some (t123 == (-1)))) else (none))) else (none)) = some true := by
  rw [if_pos (by simp; omega)]
  simp only [List.nil_append, Option.bind_some]
  rw [if_pos h0, cmp_f _ _ (by omega) k hk, cmpL_more]
  rfl

theorem ExprOrders : lemmalaw03_ExprOrders.Pure := by
  intro a b c _ ha _ _ hb _ _ hc _
  refine ⟨a.length + b.length + c.length + 2, ?_⟩
  have C : ∀ x y : List Int, x.length < 140737488351232 → x.length < a.length + b.length + c.length + 2 → expr_Compare.f (a.length + b.length + c.length + 2) x y = some (cmpL x y) := fun x y h hk => cmp_f x y h _ hk
  unfold lemmalaw03_ExprOrders.f
  rw [C a b (by omega) (by omega), C b c (by omega) (by omega), C a c (by omega) (by omega), C b a (by omega) (by omega)]
  simp only [Option.bind_some]
  have hs := cmpL_swap a b
  have hw : wrap64 (-cmpL b a) = -cmpL b a := by
    unfold wrap64; rcases cmpL_cases b a with h | h | h <;> rw [h] <;> omega
  rw [hw, if_pos hs, same_f a b (by omega) _ (by omega)]
  simp only [Option.bind_some]
  have he : ((cmpL a b == 0) != decide (a = b)) = false := by
    by_cases e : a = b
    · simp [e]
      exact (cmpL_eq b b).2 rfl
    · have : cmpL a b ≠ 0 := fun h => e ((cmpL_eq a b).1 h)
      simp [this, e]
  rw [he, if_neg (by simp), same_f a a (by omega) _ (by omega)]
  simp only [Option.bind_some, decide_true, if_true]
  have hc3 := cmpL_cases a b
  rw [if_neg (by omega)]
  have hd : decide (cmpL a b > 1) = false := decide_eq_false (by omega)
  rw [hd]
  have hj := j0_more a (by omega) (a.length + b.length + c.length + 1) (by omega)
  simp only [lemmalaw03_ExprOrders.j0, Bool.false_eq_true, if_false, hj]
  by_cases h1 : cmpL a b ≤ 0
  · rw [if_pos h1]
    by_cases h2 : cmpL b c ≤ 0
    · rw [if_pos h2]
      have h3 := cmpL_trans a b c h1 h2
      have h4 := cmpL_trans0 a b c h1 h2
      rw [if_neg (by omega)]
      by_cases h5 : cmpL a b = 0
      · rw [if_pos h5]
        have e := (cmpL_eq a b).1 h5
        subst e
        rw [if_neg (by simp)]
      · rw [if_neg h5]
        have : cmpL a c ≠ 0 := fun h => h5 (h4 h).1
        rw [if_neg (by simp [this])]
    · rw [if_neg h2]
  · rw [if_neg h1]

end Go.Proofs.Ytambldebfhhjpaa.Pure

namespace Go.Proofs.Ytambldebfhhjpaa.PrintWords
open Go.ChangeShapes Go.WideShapes
/-- The words' law on a slice's size, under the name by which the printed row calls it. -/
theorem sized_ints {H : Type} {enc : TypeId × Value → H} {P : Program} {W : World} {base : Nat} {spare : Nat → Bool} {held : Bool} {t e : TypeId} {k : IntKind} {a : Option Addr} {len cap : Nat} {d : DataW H} {ps : List MemPlace} {ts : List TypeId} {ds : List (DataW H)} {j : Nat}
    (hsz : (DataW.weightsEach P ts ds).all (· ≤ reachBytes) = true) (ht : ts[j]? = some t) (hd : ds[j]? = some d) (hu : P.underlying t = some (.slice e)) (he : P.underlying e = some (.int k)) (hc : P.cellsOf e = 1) {B : Nat} (hB : P.bytesOf e = B)
    (h : DataW.Trod enc P W base spare held t (.slice a len cap) d ps) : len * B ≤ 140737488351232 :=
  Go.Proofs.YtambldebfhhjpaaW.PrintWords.sized_ints hsz ht hd hu he hc hB h
end Go.Proofs.Ytambldebfhhjpaa.PrintWords
