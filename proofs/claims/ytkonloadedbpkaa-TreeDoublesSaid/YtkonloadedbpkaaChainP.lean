/- TreeDoubles, plain: a chain of nodes, each leaning on the one ahead of it some times; and nodes without kids. -/
import Derived.Test.YtkonloadedbpkaaTreeP
namespace Go.Proofs.Ytkonloadedbpkaa.ChainP
open Go.RowKit Go.Proofs.Ytkonloadedbpkaa.FoldPure Go.Proofs.Ytkonloadedbpkaa.FoldMem Go.Proofs.Ytkonloadedbpkaa.Gather Go.Proofs.Ytkonloadedbpkaa.FoldSame Go.Proofs.Ytkonloadedbpkaa.KindsP Go.Proofs.Ytkonloadedbpkaa.KindsW Go.Proofs.Ytkonloadedbpkaa.TreeW Go.Proofs.Ytkonloadedbpkaa.KindsS Go.Proofs.Ytkonloadedbpkaa.ShareP Go.Proofs.Ytkonloadedbpkaa.ShareR Go.Proofs.Ytkonloadedbpkaa.ShareL Go.Proofs.Ytkonloadedbpkaa.SameW Go.Proofs.Ytkonloadedbpkaa.TreeP
set_option linter.unusedVariables false
set_option linter.unusedSimpArgs false

def mS : ByteArray := ⟨#[109]⟩
def otherS : ByteArray := ⟨#[111, 116, 104, 101, 114]⟩
def chAt (b : ByteArray) (t i : Nat) : Nd := (if i = 0 then b else mS, if i = 0 then [] else List.replicate t (i - 1))
def chN (b : ByteArray) (t n : Nat) : List Nd := (List.range n).map (chAt b t)
theorem chN_len (b : ByteArray) (t n : Nat) : (chN b t n).length = n := by simp [chN]
theorem chN_at (b : ByteArray) (t : Nat) {n i : Nat} (h : i < (chN b t n).length) : (chN b t n)[i] = chAt b t i := by simp [chN]
theorem chN_succ (b : ByteArray) (t n : Nat) : chN b t (n + 1) = chN b t n ++ [chAt b t n] := by simp [chN, List.range_succ]
theorem ch_valid (b : ByteArray) (t n : Nat) : Valid (chN b t n) := by
  intro i x hx k hk
  have hi := (List.getElem?_eq_some_iff.1 hx).1
  rw [List.getElem?_eq_getElem hi, chN_at] at hx
  have := Option.some.inj hx
  subst this
  unfold chAt at hk
  by_cases e : i = 0
  · simp [e] at hk
  · simp only [if_neg e] at hk
    have := List.eq_of_mem_replicate hk
    omega
theorem ch_kids (b : ByteArray) (t n : Nat) : ∀ x ∈ chN b t n, x.2.length ≤ t := by
  intro x hx
  obtain ⟨i, hi, rfl⟩ := List.mem_iff_getElem.1 hx
  rw [chN_at]
  unfold chAt
  split <;> simp
theorem sum_kids : ∀ {t : Nat} {m : List Nd}, (∀ x ∈ m, x.2.length ≤ t) → (m.map (·.2.length)).sum ≤ t * m.length
  | t, [], _ => by simp
  | t, x :: m, h => by
    have h1 := sum_kids (t := t) (m := m) fun y hy => h y (by simp [hy])
    have h2 := h x (by simp)
    simp only [List.map_cons, List.sum_cons, List.length_cons, Nat.mul_succ]
    omega
theorem ch_labs {b : ByteArray} (hb : b.size ≤ maxLen) (t n : Nat) : ∀ x ∈ chN b t n, x.1.size ≤ maxLen := by
  intro x hx
  obtain ⟨i, hi, rfl⟩ := List.mem_iff_getElem.1 hx
  rw [chN_at]
  unfold chAt
  by_cases e : i = 0
  · simp only [if_pos e]
    exact hb
  · simp only [if_neg e]
    show mS.size ≤ maxLen
    decide

/-! ### size, depth -/
def szC (t : Nat) : Nat → Nat
  | 0 => 1
  | i + 1 => min (1 + t * szC t i) 2001
theorem szC_le (t : Nat) : ∀ i, szC t i ≤ 2001
  | 0 => by simp [szC]
  | i + 1 => by unfold szC; omega
theorem gSize_rep (x : Nat) : ∀ (t a : Nat), a ≤ 2001 → (List.replicate t x).foldl (fun a n => cap2 (a + n)) a = min (a + t * x) 2001
  | 0, a, h => by simp; omega
  | t + 1, a, h => by
    rw [List.replicate_succ, List.foldl_cons, gSize_rep x t (cap2 (a + x)) (by unfold cap2; split <;> omega), Nat.succ_mul]
    unfold cap2
    generalize t * x = p
    split <;> omega
theorem ch_sz (b : ByteArray) (t : Nat) {n : Nat} : ∀ i, i < n → sz (chN b t n) i = szC t i
  | 0, h => by
    have hl : 0 < (chN b t n).length := by rw [chN_len]; exact h
    rw [sz_at (ch_valid b t n) hl, chN_at]
    rfl
  | i + 1, h => by
    have hl : i + 1 < (chN b t n).length := by rw [chN_len]; exact h
    rw [sz_at (ch_valid b t n) hl, chN_at]
    have e : (chAt b t (i + 1)).2 = List.replicate t i := by unfold chAt; rw [if_neg (by omega), if_neg (by omega)]; rfl
    rw [e, List.map_replicate, ch_sz b t i (by omega)]
    unfold gSize
    rw [gSize_rep _ _ _ (by omega)]
    rfl
theorem ch_size (b : ByteArray) (t : Nat) {n : Nat} (h : 0 < n) : sizeN (chN b t n) = szC t (n - 1) := by
  have := ch_sz b t (n := n) (n - 1) (by omega)
  rw [← this]
  show sz (chN b t n) ((chN b t n).length - 1) = _
  rw [chN_len]
theorem gDepth_rep (x : Nat) : ∀ (t a : Nat), (List.replicate t x).foldl (fun a n => max a n) a = if t = 0 then a else max a x
  | 0, a => rfl
  | t + 1, a => by
    rw [List.replicate_succ, List.foldl_cons, gDepth_rep x t]
    split <;> simp <;> omega
theorem ch_dp (b : ByteArray) {t : Nat} (ht : 0 < t) {n : Nat} : ∀ i, i < n → dp (chN b t n) i = i + 1
  | 0, h => by
    have hl : 0 < (chN b t n).length := by rw [chN_len]; exact h
    rw [dp_at (ch_valid b t n) hl, chN_at]
    rfl
  | i + 1, h => by
    have hl : i + 1 < (chN b t n).length := by rw [chN_len]; exact h
    rw [dp_at (ch_valid b t n) hl, chN_at]
    have e : (chAt b t (i + 1)).2 = List.replicate t i := by unfold chAt; rw [if_neg (by omega), if_neg (by omega)]; rfl
    rw [e, List.map_replicate, ch_dp b ht i (by omega)]
    unfold gDepth
    rw [gDepth_rep, if_neg (by omega)]
    omega
theorem ch_depth (b : ByteArray) {t : Nat} (ht : 0 < t) {n : Nat} (h : 0 < n) : depthN (chN b t n) = n := by
  have := ch_dp b ht (n := n) (n - 1) (by omega)
  show dp (chN b t n) ((chN b t n).length - 1) = _
  rw [chN_len, this]
  omega
theorem fold_max : ∀ (l : List Nat) (a B : Nat), a ≤ B → (∀ x ∈ l, x ≤ B) → l.foldl (fun a n => max a n) a ≤ B
  | [], a, B, h, _ => h
  | x :: l, a, B, h, hl => fold_max l (max a x) B (by have := hl x (by simp); omega) fun y hy => hl y (by simp [hy])
/-- No derivation is deeper than its list is long. -/
theorem dp_le {l : List Nd} (hv : Valid l) : ∀ (k i : Nat), i < k → i < l.length → dp l i ≤ i + 1
  | k + 1, i, hk, hi => by
    rw [dp_at hv hi]
    unfold gDepth
    refine Nat.succ_le_succ (fold_max _ _ _ (Nat.zero_le _) fun x hx => ?_)
    obtain ⟨j, hj, rfl⟩ := List.mem_map.1 hx
    have hji := hv i l[i] (List.getElem?_eq_getElem hi) j hj
    have := dp_le hv k j (by omega) (by omega)
    omega
/-! ### shared -/
theorem ch_share (b : ByteArray) {t : Nat} (ht : 0 < t) {n : Nat} (h : 0 < n) : (shareN (chN b t n)).length = n := by
  have hl : 0 < (chN b t n).length := by rw [chN_len]; exact h
  have hv := ch_valid b t n
  have hle := share_le hv hl
  have hp := share_pos hv hl
  have hd := bis_dp (came_bis hv hl) hv (share_valid hv hl) (came_last hv hl)
  rw [chN_len] at hle hd
  rw [ch_dp b ht (n - 1) (by omega)] at hd
  have := dp_le (share_valid hv hl) (shareN (chN b t n)).length ((shareN (chN b t n)).length - 1) (by omega) (by omega)
  omega
/-! ### the same -/
theorem ch_same (b : ByteArray) (t n : Nat) (h : 0 < n) : lastA (chN b t n) = lastB (chN b t n) (chN b t n) :=
  bis_same (bis_refl _ (ch_valid b t n)) (ch_valid b t n) (ch_valid b t n) ⟨rfl, by rw [chN_len]; omega⟩
theorem ch_other {t n : Nat} (ht : 0 < t) (h : 0 < n) : ¬ lastA (chN mS t n) = lastB (chN mS t n) (chN otherS t n) := by
  intro e
  have hB := num_bis (ch_valid mS t n) (ch_valid otherS t n)
  have down : ∀ i, i < n → (kTo (chN otherS t n) (kT (chN mS t n)) (chN otherS t n).length).2.getD i 0 = (kN (chN mS t n)).getD i 0 → False := by
    intro i
    induction i with
    | zero =>
      intro hi hr
      obtain ⟨h1, h2, h3, _⟩ := hB 0 0 ⟨by rw [chN_len]; exact h, by rw [chN_len]; exact h, hr⟩
      rw [chN_at, chN_at] at h3
      exact absurd (show mS = otherS from h3) (by decide)
    | succ i ih =>
      intro hi hr
      obtain ⟨h1, h2, _, _, h5⟩ := hB (i + 1) (i + 1) ⟨by rw [chN_len]; exact hi, by rw [chN_len]; exact hi, hr⟩
      have e1 : ∀ b, (chAt b t (i + 1)).2 = List.replicate t i := fun b => by unfold chAt; rw [if_neg (by omega), if_neg (by omega)]; rfl
      have h6 := h5 0 (by rw [chN_at, e1]; simpa using ht) (by rw [chN_at, e1]; simpa using ht)
      simp only [chN_at, e1, List.getElem_replicate] at h6
      exact ih (by omega) h6.2.2
  refine down (n - 1) (by omega) ?_
  unfold lastA lastB at e
  simp only [chN_len] at e ⊢
  exact e.symm

/-! ### nodes without kids -/
def flN (ts : List ByteArray) : List Nd := ts.map (fun s => (s, []))
theorem fl_valid (ts : List ByteArray) : Valid (flN ts) := by
  intro i x hx k hk
  unfold flN at hx
  rw [List.getElem?_map] at hx
  obtain ⟨s, _, rfl⟩ := Option.map_eq_some_iff.1 hx
  simp at hk
theorem fl_kids (ts : List ByteArray) : ∀ x ∈ flN ts, x.2 = [] := by
  intro x hx
  obtain ⟨s, _, rfl⟩ := List.mem_map.1 hx
  rfl
theorem fl_size {ts : List ByteArray} (h : 0 < ts.length) : sizeN (flN ts) = 1 := by
  have hl : (flN ts).length - 1 < (flN ts).length := by simp [flN]; omega
  show sz (flN ts) ((flN ts).length - 1) = _
  rw [sz_at (fl_valid ts) hl, fl_kids ts _ (List.getElem_mem hl)]
  rfl
theorem fl_depth {ts : List ByteArray} (h : 0 < ts.length) : depthN (flN ts) = 1 := by
  have hl : (flN ts).length - 1 < (flN ts).length := by simp [flN]; omega
  show dp (flN ts) ((flN ts).length - 1) = _
  rw [dp_at (fl_valid ts) hl, fl_kids ts _ (List.getElem_mem hl)]
  rfl
theorem fl_share {ts : List ByteArray} (h : 0 < ts.length) : (shareN (flN ts)).length = 1 := by
  have hl : 0 < (flN ts).length := by simp [flN]; omega
  have hv := fl_valid ts
  have hp := share_pos hv hl
  have hled := share_led hv hl
  refine Classical.byContradiction fun hne => ?_
  obtain ⟨r, hr, hj⟩ := hled 0 (by omega)
  obtain ⟨i, hi⟩ := came_from hv hl hr
  obtain ⟨hil, hrl, _, e, _⟩ := came_bis hv hl i r hi
  have : (flN ts)[i].2 = [] := fl_kids ts _ (List.getElem_mem hil)
  rw [this] at e
  have h0 : (shareN (flN ts))[r].2 = [] := List.eq_nil_of_length_eq_zero e.symm
  rw [h0] at hj
  simp at hj
end Go.Proofs.Ytkonloadedbpkaa.ChainP
