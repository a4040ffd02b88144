/- PlayP, BindP. -/
import Derived.Test.YtcfocbfocemapaaGreatU3
namespace Go.Proofs.YtcfocbfocemapaaGreat.PlayP
open Go.RowKit Go.Proofs.YtcfocbfocemapaaGreat.PStackPlays Go.Proofs.YtcfocbfocemapaaGreatW.PrintWords
set_option linter.unusedVariables false
set_option linter.unusedSimpArgs false

abbrev Ex := List Int
/-- A hypothesis: label f0, floating f1, variable f2, expression f3. -/
abbrev Hy := S93
/-- A frame: hypotheses, pairs, goal. -/
structure Fr where
  hyps : List Hy
  pairs : List S50
  goal : Ex

/-- What stands for a variable. -/
def find (env : List (Int × Ex)) (x : Int) : Option Ex := (env.find? (fun b => b.1 == x)).map (·.2)
/-- An expression with the variables put in. -/
def putL (env : List (Int × Ex)) (e : Ex) : Ex := e.flatMap fun x => (find env x).getD [x]
/-- What stands for a frame's variables, by the entries. -/
def envOf : List Hy → List Ex → List (Int × Ex)
  | h :: hs, e :: es => if h.f1 then (h.f2, e.tail) :: envOf hs es else envOf hs es
  | _, _ => []

theorem env_cons (h : Hy) (hs : List Hy) (e : Ex) (es : List Ex) : envOf (h :: hs) (e :: es) = if h.f1 then (h.f2, e.tail) :: envOf hs es else envOf hs es := rfl
theorem find_nil (x : Int) : find [] x = none := rfl
theorem find_cons (b : Int × Ex) (env : List (Int × Ex)) (x : Int) : find (b :: env) x = if b.1 = x then some b.2 else find env x := by
  unfold find
  by_cases h : b.1 = x
  · simp [List.find?_cons, h]
  · have : (b.1 == x) = false := by simpa using h
    simp [List.find?_cons, this, h]
theorem find_mem {env : List (Int × Ex)} {x : Int} {e : Ex} (h : find env x = some e) : (x, e) ∈ env := by
  induction env with
  | nil => cases h
  | cons b env ih =>
    rw [find_cons] at h
    split at h
    · rename_i hb
      obtain ⟨b1, b2⟩ := b
      simp only [Option.some.injEq] at h hb
      subst hb h
      exact List.mem_cons_self ..
    · exact List.mem_cons_of_mem _ (ih h)
theorem find_of_mem {env : List (Int × Ex)} (hn : (env.map (·.1)).Nodup) {b : Int × Ex} (hb : b ∈ env) : find env b.1 = some b.2 := by
  induction env with
  | nil => cases hb
  | cons a env ih =>
    rw [find_cons]
    simp only [List.map_cons, List.nodup_cons] at hn
    rcases List.mem_cons.1 hb with rfl | hb
    · rw [if_pos rfl]
    · rw [if_neg, ih hn.2 hb]
      intro e
      exact hn.1 (e ▸ List.mem_map_of_mem hb)
theorem find_none {env : List (Int × Ex)} {x : Int} : find env x = none ↔ x ∉ env.map (·.1) := by
  induction env with
  | nil => simp [find_nil]
  | cons b env ih =>
    rw [find_cons]
    by_cases h : b.1 = x
    · simp [h]
    · rw [if_neg h, ih]
      simp only [List.map_cons, List.mem_cons, not_or]
      constructor
      · exact fun k => ⟨fun e => h e.symm, k⟩
      · exact fun k => k.2
theorem find_perm {a b : List (Int × Ex)} (hp : a.Perm b) (hn : (a.map (·.1)).Nodup) (x : Int) : find a x = find b x := by
  cases h : find a x with
  | none =>
    rw [find_none] at h
    have : x ∉ b.map (·.1) := fun k => h ((hp.map (·.1)).mem_iff.2 k)
    exact (find_none.2 this).symm
  | some e =>
    have hm := hp.mem_iff.1 (find_mem h)
    exact (find_of_mem ((hp.map (·.1)).nodup_iff.1 hn) hm).symm
theorem putL_congr {a b : List (Int × Ex)} (h : ∀ x, find a x = find b x) (e : Ex) : putL a e = putL b e := by
  unfold putL
  congr 1
  funext x
  rw [h]
theorem putL_nil (env : List (Int × Ex)) : putL env [] = [] := rfl
theorem putL_cons (env : List (Int × Ex)) (x : Int) (e : Ex) : putL env (x :: e) = (find env x).getD [x] ++ putL env e := rfl
theorem putL_append (env : List (Int × Ex)) (a b : Ex) : putL env (a ++ b) = putL env a ++ putL env b := by unfold putL; rw [List.flatMap_append]

/-- Are two variables a pair of the list, either way round? -/
def hadB (l : List S50) (a b : Int) : Bool := l.any fun p => p.f0 == a && p.f1 == b || p.f0 == b && p.f1 == a
/-- May these two strings stand for two variables that must be distinct? -/
def apartB (V : Int → Bool) (l : List S50) (s t : Ex) : Bool := s.all fun a => t.all fun b => !(V a && V b) || (a != b && hadB l a b)
def subE (env : List (Int × Ex)) (v : Int) : Ex := (find env v).getD [v]
def brokenB (V : Int → Bool) (l : List S50) (env : List (Int × Ex)) (ps : List S50) : Bool := ps.any fun p => !apartB V l (subE env p.f0) (subE env p.f1)

/-- The type of an entry fits? -/
def kind1 (h : Hy) (e : Ex) : Bool := !h.f1 || (decide (e ≠ []) && e.head? == h.f3.head?)
/-- The types of the entries fit? -/
def kindB : List Hy → List Ex → Bool
  | h :: hs, e :: es => kind1 h e && kindB hs es
  | _, _ => true
/-- The essential hypotheses fit? -/
def essB (env : List (Int × Ex)) : List Hy → List Ex → Bool
  | h :: hs, e :: es => (h.f1 || decide (putL env h.f3 = e)) && essB env hs es
  | _, _ => true
/-- What an assertion makes of the entries: the error's number, or the conclusion. -/
def applyE (V : Int → Bool) (l : List S50) (f : Fr) (ents : List Ex) : Except Int Ex :=
  if ents.length < f.hyps.length then .error 113 else
  if kindB f.hyps (ents.drop (ents.length - f.hyps.length)) = false then .error 114 else
  if essB (envOf f.hyps (ents.drop (ents.length - f.hyps.length))) f.hyps (ents.drop (ents.length - f.hyps.length)) = false then .error 115 else
  if brokenB V l (envOf f.hyps (ents.drop (ents.length - f.hyps.length))) f.pairs = true then .error 116 else
  if 200 < (putL (envOf f.hyps (ents.drop (ents.length - f.hyps.length))) f.goal).length then .error 31 else
  if 40 ≤ ents.length - f.hyps.length then .error 117 else .ok (putL (envOf f.hyps (ents.drop (ents.length - f.hyps.length))) f.goal)

def flVars (hs : List Hy) : List Int := (hs.filter S93.f1).map S93.f2
/-- A frame that may be; its lists are no longer than so. -/
structure FrameOK (f : Fr) : Prop where
  nodup : (flVars f.hyps).Nodup
  typed : ∀ h ∈ f.hyps, h.f1 = true → h.f3 ≠ []
  pairs : ∀ p ∈ f.pairs, p.f0 ∈ flVars f.hyps ∧ p.f1 ∈ flVars f.hyps
  few : f.hyps.length ≤ 2097152
  fewp : f.pairs.length ≤ 2097152
  fewg : f.goal.length ≤ 2097152
  short : ∀ h ∈ f.hyps, h.f3.length ≤ 2097152

theorem env_vars (hs : List Hy) : ∀ es : List Ex, es.length = hs.length → (envOf hs es).map (·.1) = flVars hs := by
  induction hs with
  | nil => intro es _; cases es <;> rfl
  | cons h hs ih =>
    intro es hl
    cases es with
    | nil => cases hl
    | cons e es =>
      have := ih es (by simpa using hl)
      unfold envOf
      cases hf : h.f1 with
      | true =>
        rw [if_pos rfl, List.map_cons, this]
        unfold flVars
        rw [List.filter_cons_of_pos hf]
        rfl
      | false =>
        rw [if_neg (by simp), this]
        unfold flVars
        rw [List.filter_cons_of_neg (by simp [hf])]
theorem env_short (hs : List Hy) {N : Nat} : ∀ es : List Ex, (∀ e ∈ es, e.length ≤ N) → ∀ b ∈ envOf hs es, b.2.length ≤ N := by
  induction hs with
  | nil => intro es _ b hb; cases es <;> cases hb
  | cons h hs ih =>
    intro es he b hb
    cases es with
    | nil => cases hb
    | cons e es =>
      have hi := ih es (fun x hx => he x (List.mem_cons_of_mem _ hx))
      unfold envOf at hb
      split at hb
      · rcases List.mem_cons.1 hb with rfl | hb
        · have := he e (List.mem_cons_self ..)
          simp
          omega
        · exact hi b hb
      · exact hi b hb

/-! ### what the printed functions answer -/
theorem wrap_id {i : Int} (h0 : -9223372036854775808 ≤ i) (h : i ≤ 9223372036854775807) : wrap64 i = i := by unfold wrap64; omega
theorem rd_of {xs : List Int} {n : Nat} (h : n < xs.length) : rd xs (n : Int) = xs[n] := by
  unfold rd; simp [h]
theorem rdL_of {xs : List (List Int)} {n : Nat} (h : n < xs.length) : rd_L3 xs (n : Int) = xs[n] := by
  unfold rd_L3; simp [h]
theorem rdT_of {xs : List Hy} {n : Nat} (h : n < xs.length) : rd_T93 xs (n : Int) = xs[n] := by
  unfold rd_T93; simp [h]
theorem rdP_of {xs : List S50} {n : Nat} (h : n < xs.length) : rd_T50 xs (n : Int) = xs[n] := by
  unfold rd_T50; simp [h]
theorem take_eq_step {a b : List Int} {i : Nat} (h : a.take i = b.take i) (ha : i < a.length) (hb : i < b.length) (e : a[i] = b[i]) : a.take (i + 1) = b.take (i + 1) := by
  rw [List.take_succ_eq_append_getElem ha, List.take_succ_eq_append_getElem hb, h, e]
theorem sameE_l0 {a b : List Int} (hl : a.length = b.length) (hs : a.length ≤ 4194304) (d : Nat) : ∀ (k i : Nat), i ≤ a.length → a.length - i = d → d < k → a.take i = b.take i →
    lemmalaw11_sameExpr.l0 k a b (i : Int) = some (decide (a = b)) := by
  induction d with
  | zero =>
    intro k i hi hd hk he
    obtain ⟨k, rfl⟩ : ∃ m, k = m + 1 := ⟨k - 1, by omega⟩
    simp only [lemmalaw11_sameExpr.l0]
    rw [if_neg (by omega)]
    rw [List.take_of_length_le (by omega), List.take_of_length_le (by omega)] at he
    simp [he]
  | succ d ih =>
    intro k i hi hd hk he
    obtain ⟨k, rfl⟩ : ∃ m, k = m + 1 := ⟨k - 1, by omega⟩
    simp only [lemmalaw11_sameExpr.l0]
    rw [if_pos (by omega), if_pos (by omega), if_pos (by omega), rd_of (by omega : i < a.length), rd_of (by omega : i < b.length), wrap_id (by omega) (by omega)]
    by_cases e : a[i]'(by omega) = b[i]'(by omega)
    · rw [if_pos e]
      have := ih k (i + 1) (by omega) (by omega) (by omega) (take_eq_step he (by omega) (by omega) e)
      rw [Int.natCast_add] at this
      exact this
    · rw [if_neg e]
      have : a ≠ b := fun h => e (by subst h; rfl)
      simp [this]
theorem sameE_0 {a b : List Int} (hl : a.length = b.length) (hs : a.length ≤ 4194304) {k : Nat} (hk : a.length < k) : lemmalaw11_sameExpr.l0 k a b 0 = some (decide (a = b)) := sameE_l0 hl hs _ k 0 (by omega) rfl (by omega) rfl
theorem sameE_ok (a b : List Int) (ha : a.length ≤ 4194304) : ∃ k, lemmalaw11_sameExpr.f k a b = some (decide (a = b)) := by
  refine ⟨a.length + 1, ?_⟩
  unfold lemmalaw11_sameExpr.f
  by_cases h : a.length = b.length
  · rw [if_pos (by omega)]
    exact sameE_0 h ha (by omega)
  · rw [if_neg (by omega)]
    have : a ≠ b := fun e => h (by rw [e])
    simp [this]
theorem eq_l0 {a b : List Int} (hl : a.length = b.length) (hs : a.length ≤ 4194304) (d : Nat) : ∀ (k i : Nat), i ≤ a.length → a.length - i = d → d < k → a.take i = b.take i →
    expr_same_int.l0 k b a (a.length : Int) (i : Int) = some (decide (a = b)) := by
  induction d with
  | zero =>
    intro k i hi hd hk he
    obtain ⟨k, rfl⟩ : ∃ m, k = m + 1 := ⟨k - 1, by omega⟩
    simp only [expr_same_int.l0]
    rw [if_neg (by omega)]
    rw [List.take_of_length_le (by omega), List.take_of_length_le (by omega)] at he
    simp [he]
  | succ d ih =>
    intro k i hi hd hk he
    obtain ⟨k, rfl⟩ : ∃ m, k = m + 1 := ⟨k - 1, by omega⟩
    simp only [expr_same_int.l0]
    rw [if_pos (by omega), if_pos (by omega), if_pos (by omega), if_pos (by omega), rd_of (by omega : i < a.length), rd_of (by omega : i < b.length), wrap_id (by omega) (by omega)]
    by_cases e : a[i]'(by omega) = b[i]'(by omega)
    · rw [if_pos e]
      have := ih k (i + 1) (by omega) (by omega) (by omega) (take_eq_step he (by omega) (by omega) e)
      rw [Int.natCast_add] at this
      exact this
    · rw [if_neg e]
      have : a ≠ b := fun h => e (by subst h; rfl)
      simp [this]
theorem eq_0 {a b : List Int} (hl : a.length = b.length) (hs : a.length ≤ 4194304) {k : Nat} (hk : a.length < k) : expr_same_int.l0 k b a (a.length : Int) 0 = some (decide (a = b)) := eq_l0 hl hs _ k 0 (by omega) rfl (by omega) rfl
theorem eq_ok (a b : List Int) (ha : a.length ≤ 4194304) : ∃ k, expr_Equal.f k a b = some (decide (a = b)) := by
  refine ⟨a.length + 1, ?_⟩
  unfold expr_Equal.f expr_same_int.f
  by_cases h : a.length = b.length
  · rw [if_pos (by omega), eq_0 h ha (by omega)]
    rfl
  · rw [if_neg (by omega)]
    have : a ≠ b := fun e => h (by rw [e])
    simp [this]
/-! ### stands, put -/
/-! ### few -/
def few1 (x : Int) : Int := let t := Int.tmod x 16; let k := if t < 0 then t + 16 else t; if 10 ≤ k then k + 90 else k
def fewL (l : List Int) : List Int := l.map few1
theorem few1_range (x : Int) : (0 ≤ few1 x ∧ few1 x < 10) ∨ (100 ≤ few1 x ∧ few1 x ≤ 105) := by
  have h1 : -16 < Int.tmod x 16 := Int.lt_tmod_of_pos x (by omega)
  have h2 : Int.tmod x 16 < 16 := Int.tmod_lt_of_pos x (by omega)
  unfold few1
  simp only
  split <;> split <;> omega
theorem rest_ok (x : Int) : lemmalaw11_rest.f x 16 = some (if Int.tmod x 16 < 0 then Int.tmod x 16 + 16 else Int.tmod x 16) := by
  unfold lemmalaw11_rest.f
  have h1 : -16 < Int.tmod x 16 := Int.lt_tmod_of_pos x (by omega)
  have h2 : Int.tmod x 16 < 16 := Int.tmod_lt_of_pos x (by omega)
  rw [if_neg (by omega)]
  split
  · rw [wrap_id (by omega) (by omega)]
  · rfl
theorem few_l0 (l : List Int) (hs : l.length ≤ 4194304) (d : Nat) : ∀ (k i : Nat), i ≤ l.length → l.length - i = d → d < k → lemmalaw11_few.l0 k l (fewL (l.take i)) (i : Int) = some (fewL l) := by
  induction d with
  | zero =>
    intro k i hi hd hk
    obtain ⟨k, rfl⟩ : ∃ m, k = m + 1 := ⟨k - 1, by omega⟩
    simp only [lemmalaw11_few.l0]
    rw [if_neg (by omega), List.take_of_length_le (by omega)]
  | succ d ih =>
    intro k i hi hd hk
    obtain ⟨k, rfl⟩ : ∃ m, k = m + 1 := ⟨k - 1, by omega⟩
    have h1 := ih k (i + 1) (by omega) (by omega) (by omega)
    have hlt : i < l.length := by omega
    have e0 : fewL (l.take (i + 1)) = fewL (l.take i) ++ [few1 l[i]] := by
      unfold fewL
      rw [List.take_succ_eq_append_getElem hlt, List.map_append]
      rfl
    rw [Int.natCast_add, e0] at h1
    have hfl : (fewL (l.take i)).length ≤ 4194304 := by
      unfold fewL
      rw [List.length_map, List.length_take]
      omega
    simp only [lemmalaw11_few.l0]
    rw [if_pos (by omega), if_pos (by omega), rd_of hlt, rest_ok, Option.bind_some]
    have h3 : -16 < Int.tmod l[i] 16 := Int.lt_tmod_of_pos l[i] (by omega)
    have h4 : Int.tmod l[i] 16 < 16 := Int.tmod_lt_of_pos l[i] (by omega)
    unfold few1 at h1
    simp only at h1
    generalize Int.tmod l[i] 16 = t at *
    generalize hk2 : (if t < 0 then t + 16 else t) = u at *
    have hu : 0 ≤ u ∧ u < 16 := by
      subst hk2
      split <;> omega
    by_cases h10 : 10 ≤ u
    · rw [if_pos h10, if_pos (by omega), wrap_id (by omega) (by omega), wrap_id (by omega) (by omega)]
      rw [if_pos h10] at h1
      exact h1
    · rw [if_neg h10, if_pos (by omega), wrap_id (by omega) (by omega)]
      rw [if_neg h10] at h1
      exact h1
theorem few_ok (l : List Int) (hs : l.length ≤ 4194304) : ∃ k, lemmalaw11_few.f k l = some (fewL l) :=
  ⟨l.length + 1, few_l0 l hs _ (l.length + 1) 0 (by omega) rfl (by omega)⟩
theorem fewL_len (l : List Int) : (fewL l).length = l.length := by unfold fewL; simp
end Go.Proofs.YtcfocbfocemapaaGreat.PlayP

namespace Go.Proofs.YtcfocbfocemapaaGreat.BindP
open Go.RowKit Go.Proofs.YtcfocbfocemapaaGreat.PStackPlays Go.Proofs.YtcfocbfocemapaaGreat.PlayP Go.Proofs.YtcfocbfocemapaaGreatW.PrintWords
set_option linter.unusedVariables false
set_option linter.unusedSimpArgs false

theorem env_more (hs : List Hy) : ∀ (es : List Ex) (i : Nat) (h1 : i < hs.length) (h2 : i < es.length), envOf (hs.take (i + 1)) (es.take (i + 1)) = envOf (hs.take i) (es.take i) ++ (if (hs[i]).f1 then [((hs[i]).f2, (es[i]).tail)] else []) := by
  induction hs with
  | nil => intro es i h1; simp at h1
  | cons h hs ih =>
    intro es i h1 h2
    cases es with
    | nil => simp at h2
    | cons e es =>
      cases i with
      | zero =>
        simp only [List.take_succ_cons, List.take_zero, List.getElem_cons_zero]
        rw [env_cons]
        cases h.f1 <;> simp [envOf]
      | succ i =>
        simp only [List.take_succ_cons, List.getElem_cons_succ]
        rw [env_cons, env_cons, ih es i (by simpa using h1) (by simpa using h2)]
        cases h.f1 <;> simp
theorem kind_more (hs : List Hy) : ∀ (es : List Ex) (i : Nat) (h1 : i < hs.length) (h2 : i < es.length), kindB (hs.take (i + 1)) (es.take (i + 1)) = (kindB (hs.take i) (es.take i) && kind1 hs[i] es[i]) := by
  induction hs with
  | nil => intro es i h1; simp at h1
  | cons h hs ih =>
    intro es i h1 h2
    cases es with
    | nil => simp at h2
    | cons e es =>
      cases i with
      | zero =>
        simp only [List.take_succ_cons, List.take_zero, List.getElem_cons_zero]
        show (kind1 h e && kindB [] []) = _
        simp [kindB]
      | succ i =>
        simp only [List.take_succ_cons, List.getElem_cons_succ]
        show (kind1 h e && kindB (hs.take (i + 1)) (es.take (i + 1))) = ((kind1 h e && kindB (hs.take i) (es.take i)) && _)
        rw [ih es i (by simpa using h1) (by simpa using h2), Bool.and_assoc]
theorem kind_at (hs : List Hy) : ∀ (es : List Ex), kindB hs es = true → ∀ (i : Nat) (h1 : i < hs.length) (h2 : i < es.length), kind1 hs[i] es[i] = true := by
  induction hs with
  | nil => intro es _ i h1; simp at h1
  | cons h hs ih =>
    intro es hk i h1 h2
    cases es with
    | nil => simp at h2
    | cons e es =>
      have hk2 : (kind1 h e && kindB hs es) = true := hk
      rw [Bool.and_eq_true] at hk2
      cases i with
      | zero => exact hk2.1
      | succ i => exact ih es hk2.2 i (by simpa using h1) (by simpa using h2)
theorem ess_more (env : List (Int × Ex)) (hs : List Hy) : ∀ (es : List Ex) (i : Nat) (h1 : i < hs.length) (h2 : i < es.length), essB env (hs.take (i + 1)) (es.take (i + 1)) = (essB env (hs.take i) (es.take i) && ((hs[i]).f1 || decide (putL env (hs[i]).f3 = es[i]))) := by
  induction hs with
  | nil => intro es i h1; simp at h1
  | cons h hs ih =>
    intro es i h1 h2
    cases es with
    | nil => simp at h2
    | cons e es =>
      cases i with
      | zero =>
        simp only [List.take_succ_cons, List.take_zero, List.getElem_cons_zero]
        show ((h.f1 || decide (putL env h.f3 = e)) && essB env [] []) = _
        simp [essB]
      | succ i =>
        simp only [List.take_succ_cons, List.getElem_cons_succ]
        show ((h.f1 || decide (putL env h.f3 = e)) && essB env (hs.take (i + 1)) (es.take (i + 1))) = (((h.f1 || decide (putL env h.f3 = e)) && essB env (hs.take i) (es.take i)) && _)
        rw [ih es i (by simpa using h1) (by simpa using h2), Bool.and_assoc]
theorem ess_at (env : List (Int × Ex)) (hs : List Hy) : ∀ (es : List Ex), essB env hs es = true → ∀ (i : Nat) (h1 : i < hs.length) (h2 : i < es.length), ((hs[i]).f1 || decide (putL env (hs[i]).f3 = es[i])) = true := by
  induction hs with
  | nil => intro es _ i h1; simp at h1
  | cons h hs ih =>
    intro es hk i h1 h2
    cases es with
    | nil => simp at h2
    | cons e es =>
      have hk2 : ((h.f1 || decide (putL env h.f3 = e)) && essB env hs es) = true := hk
      rw [Bool.and_eq_true] at hk2
      cases i with
      | zero => exact hk2.1
      | succ i => exact ih es hk2.2 i (by simpa using h1) (by simpa using h2)
theorem broken_congr {a b : List (Int × Ex)} (h : ∀ x, find a x = find b x) (V : Int → Bool) (l : List S50) (ps : List S50) : brokenB V l a ps = brokenB V l b ps := by
  unfold brokenB subE
  congr 1
  funext p
  rw [h, h]
theorem env_len (hs : List Hy) : ∀ es : List Ex, (envOf hs es).length ≤ hs.length := by
  induction hs with
  | nil => intro es; cases es <;> simp [envOf]
  | cons h hs ih =>
    intro es
    cases es with
    | nil => simp [envOf]
    | cons e es =>
      have := ih es
      rw [env_cons]
      split <;> simp <;> omega
end Go.Proofs.YtcfocbfocemapaaGreat.BindP
