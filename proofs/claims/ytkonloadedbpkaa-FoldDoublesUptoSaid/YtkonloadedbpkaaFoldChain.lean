/- The chain of doubles: what Nodes makes of it. -/
import Derived.Test.YtkonloadedbpkaaFoldSame
namespace Go.Proofs.Ytkonloadedbpkaa.FoldChain
open Go.RowKit Go.Proofs.Ytkonloadedbpkaa.FoldPure Go.Proofs.Ytkonloadedbpkaa.FoldRun Go.Proofs.Ytkonloadedbpkaa.Gather Go.Proofs.Ytkonloadedbpkaa.Reached Go.Proofs.Ytkonloadedbpkaa.NodesPure Go.Proofs.Ytkonloadedbpkaa.FoldFacts Go.Proofs.Ytkonloadedbpkaa.FoldCount Go.Proofs.Ytkonloadedbpkaa.FoldExact Go.Proofs.Ytkonloadedbpkaa.FoldSame
set_option linter.unusedVariables false
set_option linter.unusedSimpArgs false

def leafS : ByteArray := { data := #[108, 101, 97, 102] }
def manyS : ByteArray := { data := #[109, 97, 110, 121] }
def oneS : ByteArray := { data := #[111, 110, 101] }
/-- How many kids node j has. -/
def wide (depth many j : Nat) : Nat := if j = 0 then 0 else if j ≤ depth then many else 1
def labAt (depth : Nat) (ts : List ByteArray) (j : Nat) : ByteArray := if j = 0 then leafS else if j ≤ depth then manyS else oneS ++ ts.getD (j - depth - 1) ByteArray.empty
def dblAt (depth many : Nat) (ts : List ByteArray) (j : Nat) : Nd := (labAt depth ts j, List.replicate (wide depth many j) (j - 1))
/-- The first n nodes. -/
def dbl (depth many : Nat) (ts : List ByteArray) (n : Nat) : List Nd := (List.range n).map (dblAt depth many ts)
section
variable {depth many : Nat} {ts : List ByteArray}
theorem dbl_len (n : Nat) : (dbl depth many ts n).length = n := by simp [dbl]
theorem dbl_succ (n : Nat) : dbl depth many ts (n + 1) = dbl depth many ts n ++ [dblAt depth many ts n] := by simp [dbl, List.range_succ]
theorem dbl_get {n j : Nat} (h : j < (dbl depth many ts n).length) : (dbl depth many ts n)[j] = dblAt depth many ts j := by simp [dbl]
theorem dbl_get? {n j : Nat} (h : j < n) : (dbl depth many ts n)[j]? = some (dblAt depth many ts j) := by simp [dbl, h]
theorem dbl_valid (n : Nat) : Valid (dbl depth many ts n) := by
  intro i x hx k hk
  have hi := (List.getElem?_eq_some_iff.1 hx).1
  rw [dbl_len] at hi
  rw [dbl_get? hi] at hx
  cases hx
  have h1 := List.mem_replicate.1 hk
  have h2 : i ≠ 0 := by
    rintro rfl
    exact h1.1 rfl
  omega
theorem wide_pos (hm : 0 < many) {j : Nat} (hj : 0 < j) : 0 < wide depth many j := by
  unfold wide
  rw [if_neg (by omega)]
  split <;> omega
theorem dbl_led (hm : 0 < many) (n : Nat) : AllLed (dbl depth many ts n) := by
  intro j hj
  rw [dbl_len] at hj
  refine ⟨j + 1, by rw [dbl_len]; exact hj, ?_⟩
  rw [dbl_get]
  have : 0 < wide depth many (j + 1) := wide_pos (depth := depth) hm (Nat.succ_pos j)
  exact List.mem_replicate.2 ⟨by omega, by omega⟩
theorem dbl_nodup (hm : 0 < many) (n : Nat) : (dbl depth many ts n).Nodup := by
  unfold dbl List.Nodup
  refine List.pairwise_map.2 (List.pairwise_lt_range.imp ?_)
  intro a b hab he
  have h1 : (dblAt depth many ts a).2 = (dblAt depth many ts b).2 := by rw [he]
  unfold dblAt at h1
  simp only at h1
  have hb := wide_pos (depth := depth) hm (j := b) (by omega)
  have h2 : (b - 1) ∈ List.replicate (wide depth many b) (b - 1) := List.mem_replicate.2 ⟨by omega, rfl⟩
  rw [← h1] at h2
  have h3 := List.mem_replicate.1 h2
  by_cases h0 : a = 0
  · subst h0
    exact h3.1 rfl
  · omega
theorem dbl_kids (n : Nat) : (dbl depth many ts n).map Prod.snd = (List.range n).map (fun j => List.replicate (wide depth many j) (j - 1)) := by
  unfold dbl
  rw [List.map_map]
  rfl
theorem sum_one (a x : Nat) : ∀ n, ((List.range n).map (fun r => if r = a then x else 0)).sum = if a < n then x else 0 := by
  intro n
  induction n with
  | zero => simp
  | succ n ih =>
    rw [List.range_succ, List.map_append, List.sum_append, ih]
    simp only [List.map_cons, List.map_nil, List.sum_cons, List.sum_nil]
    by_cases h : n = a
    · subst h
      rw [if_neg (by omega), if_pos rfl, if_pos (by omega)]
      omega
    · rw [if_neg h]
      by_cases h2 : a < n
      · rw [if_pos h2, if_pos (by omega)]
        omega
      · rw [if_neg h2, if_neg (by omega)]
        rfl
theorem dbl_places (n j : Nat) : placesN (dbl depth many ts n) j = if j + 1 < n then wide depth many (j + 1) else 0 := by
  unfold placesN
  rw [dbl_kids, List.map_map, ← sum_one (j + 1) (wide depth many (j + 1)) n]
  congr 1
  refine List.map_congr_left fun r hr => ?_
  show List.count j (List.replicate (wide depth many r) (r - 1)) = _
  rw [List.count_replicate]
  by_cases h : r = j + 1
  · subst h
    simp
  · rw [if_neg h]
    by_cases h0 : r = 0
    · subst h0
      simp [wide]
    · rw [if_neg]
      simp
      omega
theorem dbl_saved (hm : 2 ≤ many) {n : Nat} (hn : depth < n) {j : Nat} (hj : j < n) : savedN (dbl depth many ts n) j = if 1 ≤ j ∧ j < depth then 1 else 0 := by
  unfold savedN
  rw [dbl_places, List.getD_eq_getElem?_getD, dbl_get? hj]
  have h1 : ((some (dblAt depth many ts j)).getD (ByteArray.empty, [])).2.length = wide depth many j := by simp [dblAt]
  rw [h1]
  by_cases h0 : j = 0
  · subst h0
    rw [if_neg (by simp [wide]), if_neg (by omega)]
  · have hw : 0 < wide depth many j := wide_pos (by omega) (by omega)
    by_cases hd : j < depth
    · have h2 : wide depth many (j + 1) = many := by
        unfold wide
        rw [if_neg (by omega), if_pos (by omega)]
      rw [h2, if_pos (by rw [if_pos (by omega)]; omega), if_pos (by omega)]
    · have h2 : wide depth many (j + 1) = 1 := by
        unfold wide
        rw [if_neg (by omega), if_neg (by omega)]
      rw [h2, if_neg (by split <;> omega), if_neg (by omega)]
theorem sum_saved (d : Nat) : ∀ n, ((List.range n).map (fun j => if 1 ≤ j ∧ j < d then 1 else 0)).sum = min (n - 1) (d - 1) := by
  intro n
  induction n with
  | zero => simp
  | succ n ih =>
    rw [List.range_succ, List.map_append, List.sum_append, ih]
    simp only [List.map_cons, List.map_nil, List.sum_cons, List.sum_nil]
    split <;> omega
theorem sum_wide1 : ∀ d, d ≤ depth → ((List.range (1 + d)).map (wide depth many)).sum = many * d := by
  intro d
  induction d with
  | zero => intro _; simp [wide]
  | succ d ih =>
    intro h
    rw [show 1 + (d + 1) = (1 + d) + 1 by omega, List.range_succ, List.map_append, List.sum_append, ih (by omega)]
    simp only [List.map_cons, List.map_nil, List.sum_cons, List.sum_nil]
    have h2 : wide depth many (1 + d) = many := by
      unfold wide
      rw [if_neg (by omega), if_pos (by omega)]
    rw [h2, Nat.mul_succ]
    omega
theorem sum_wide : ∀ o, ((List.range (1 + depth + o)).map (wide depth many)).sum = many * depth + o := by
  intro o
  induction o with
  | zero => exact sum_wide1 depth (Nat.le_refl _)
  | succ o ih =>
    rw [show 1 + depth + (o + 1) = (1 + depth + o) + 1 by omega, List.range_succ, List.map_append, List.sum_append, ih]
    simp only [List.map_cons, List.map_nil, List.sum_cons, List.sum_nil]
    have h2 : wide depth many (1 + depth + o) = 1 := by
      unfold wide
      rw [if_neg (by omega), if_neg (by omega)]
    rw [h2]
    omega
theorem dbl_edges (o : Nat) : ((dbl depth many ts (1 + depth + o)).map (·.2.length)).sum = many * depth + o := by
  rw [← sum_wide (depth := depth) (many := many) o]
  unfold dbl
  rw [List.map_map]
  congr 1
  refine List.map_congr_left fun r hr => ?_
  show (List.replicate _ _).length = _
  simp
/-- How many codes, and how many of them save. -/
theorem dbl_codes (hm : 2 ≤ many) (hd : 1 ≤ depth) (o : Nat) (ms : List ByteArray) : (codesL ms (dbl depth many ts (1 + depth + o))).codes.length = many * depth + o + depth ∧ (codesL ms (dbl depth many ts (1 + depth + o))).codes.count (-1) = depth - 1 := by
  obtain ⟨h1, h2⟩ := same_codes (ms := ms) (dbl_valid (depth := depth) (many := many) (ts := ts) (1 + depth + o)) (by rw [dbl_len]; omega) (dbl_led (by omega) _) (dbl_nodup (by omega) _)
  have hs : ((List.range (dbl depth many ts (1 + depth + o)).length).map (savedN (dbl depth many ts (1 + depth + o)))).sum = depth - 1 := by
    rw [dbl_len]
    have : (List.range (1 + depth + o)).map (savedN (dbl depth many ts (1 + depth + o))) = (List.range (1 + depth + o)).map (fun j => if 1 ≤ j ∧ j < depth then 1 else 0) := List.map_congr_left fun j hj => dbl_saved hm (by omega) (List.mem_range.1 hj)
    rw [this, sum_saved]
    omega
  have he : (((dbl depth many ts (1 + depth + o)).map Prod.snd).map List.length).sum = many * depth + o := by
    rw [List.map_map]
    exact dbl_edges o
  rw [hs, he] at h1
  rw [hs] at h2
  exact ⟨by omega, h2⟩

/-! ### the names -/
abbrev LS := (ByteArray → Option Nat) × List ByteArray
def lstep (first : Nat) (lab : ByteArray) (p : LS) : LS := if (p.1 lab).isSome then p else (setF p.1 lab (first + p.2.length), p.2 ++ [lab])
def lsOf (s : NS) : LS := (s.at_, s.labels)
theorem label_ls (first : Nat) (lab : ByteArray) (s : NS) : lsOf (nameLabel first lab s) = lstep first lab (lsOf s) := by
  unfold nameLabel lstep lsOf
  split <;> rfl
def chain (first : Nat) (lab : Nat → ByteArray) : Nat → LS → LS
  | 0, p => lstep first (lab 0) p
  | n + 1, p => lstep first (lab (n + 1)) (chain first lab n p)
theorem name_seen (P : List Part) (first : Nat) : ∀ (k n : Nat) (s : NS), s.seen.getD n false = true → nameT P first k n s = s := by
  intro k n s h
  cases k with
  | zero => rfl
  | succ k =>
    unfold nameT
    rw [if_pos h]
theorem fold_seen (P : List Part) (first k n : Nat) : ∀ (c : Nat) (s : NS), s.seen.getD n false = true → (List.replicate c n).foldl (fun s j => nameT P first k j s) s = s := by
  intro c
  induction c with
  | zero => intro s _; rfl
  | succ c ih =>
    intro s h
    rw [List.replicate_succ, List.foldl_cons, name_seen P first k n s h]
    exact ih s h
theorem name_chain {P : List Part} (first : Nat) {lab : Nat → ByteArray} {c : Nat → Nat} {N : Nat} (hP : ∀ j, j < N → (partOf P j).kids = List.replicate (c j) (j - 1) ∧ (partOf P j).label = lab j) (h0 : c 0 = 0) (hc : ∀ j, 0 < j → 0 < c j) :
    ∀ (n k : Nat) (s : NS), n < k → n < N → n < s.seen.length → (∀ j, j ≤ n → s.seen.getD j false = false) → (nameT P first k n s).seen.getD n false = true ∧ lsOf (nameT P first k n s) = chain first lab n (lsOf s) := by
  have hset : ∀ (s : NS) (n : Nat), n < s.seen.length → (s.seen.set n true).getD n false = true := fun s n h => by
    rw [List.getD_eq_getElem?_getD, List.getElem?_set_self h]
    rfl
  intro n
  induction n with
  | zero =>
    intro k s hk hN hl hs
    obtain ⟨k, rfl⟩ : ∃ k', k = k' + 1 := ⟨k - 1, by omega⟩
    unfold nameT
    rw [if_neg (by rw [hs 0 (Nat.le_refl _)]; simp), (hP 0 hN).1, (hP 0 hN).2, h0]
    simp only [List.replicate_zero, List.foldl_nil]
    rw [nameLabel_seen, label_ls]
    exact ⟨hset s 0 hl, rfl⟩
  | succ n ih =>
    intro k s hk hN hl hs
    obtain ⟨k, rfl⟩ : ∃ k', k = k' + 1 := ⟨k - 1, by omega⟩
    unfold nameT
    obtain ⟨c', hc'⟩ : ∃ c', c (n + 1) = c' + 1 := ⟨c (n + 1) - 1, by have := hc (n + 1) (by omega); omega⟩
    rw [if_neg (by rw [hs _ (Nat.le_refl _)]; simp), (hP (n + 1) hN).1, (hP (n + 1) hN).2, hc', List.replicate_succ, List.foldl_cons]
    simp only [Nat.add_sub_cancel]
    obtain ⟨h1, h2⟩ := ih k { s with seen := s.seen.set (n + 1) true } (by omega) (by omega) (by simp; omega) (fun j hj => by
      show (s.seen.set (n + 1) true).getD j false = false
      rw [List.getD_eq_getElem?_getD, List.getElem?_set_ne (by omega), ← List.getD_eq_getElem?_getD]
      exact hs j (by omega))
    have hkeep : (nameT P first k n { s with seen := s.seen.set (n + 1) true }).seen.getD (n + 1) false = true := by
      have : ∀ (k m : Nat) (s : NS) (j : Nat), s.seen.getD j false = true → (nameT P first k m s).seen.getD j false = true := by
        intro k
        induction k with
        | zero => intro m s j h; exact h
        | succ k ihk =>
          intro m s j h
          unfold nameT
          split
          · exact h
          · rw [nameLabel_seen]
            have hj := true_lt h
            refine foldl_inv (fun s' : NS => s'.seen.getD j false = true) _ (fun b a hb => ihk a b j hb) _ _ ?_
            show (s.seen.set m true).getD j false = true
            by_cases e : m = j
            · subst e
              exact hset s m hj
            · rw [List.getD_eq_getElem?_getD, List.getElem?_set_ne e, ← List.getD_eq_getElem?_getD]
              exact h
      exact this k n _ _ (hset s (n + 1) hl)
    rw [fold_seen P first k n c' _ h1, nameLabel_seen, label_ls, h2]
    exact ⟨hkeep, rfl⟩
theorem chain_more (first : Nat) (lab : Nat → ByteArray) (a : Nat) (p : LS) : ∀ d, ∃ t, (chain first lab (a + d) p).2 = (chain first lab a p).2 ++ t := by
  intro d
  induction d with
  | zero => exact ⟨[], by simp⟩
  | succ d ih =>
    obtain ⟨t, ht⟩ := ih
    show ∃ t, (lstep first (lab (a + d + 1)) (chain first lab (a + d) p)).2 = _
    unfold lstep
    split
    · exact ⟨t, ht⟩
    · refine ⟨t ++ [lab (a + d + 1)], ?_⟩
      show (chain first lab (a + d) p).2 ++ _ = _
      rw [ht, List.append_assoc]
/-- The first two names. -/
theorem dbl_names (hm : 1 ≤ many) (hd : 1 ≤ depth) (o : Nat) : ∃ t, (namesL [] (dbl depth many ts (1 + depth + o))).labels = [leafS, manyS] ++ t := by
  have hv := dbl_valid (depth := depth) (many := many) (ts := ts) (1 + depth + o)
  have hl := dbl_len (depth := depth) (many := many) (ts := ts) (1 + depth + o)
  obtain ⟨hc, hroot⟩ := same_parts hv (by omega) (dbl_led (by omega) _) (dbl_nodup (by omega) _)
  have hlen : (partsL (dbl depth many ts (1 + depth + o))).length = 1 + depth + o := by
    have := congrArg List.length hc
    rw [List.length_map] at this
    omega
  have hP : ∀ j, j < 1 + depth + o → (partOf (partsL (dbl depth many ts (1 + depth + o))) j).kids = List.replicate (wide depth many j) (j - 1) ∧ (partOf (partsL (dbl depth many ts (1 + depth + o))) j).label = labAt depth ts j := fun j hj => by
    have := same_at hc j
    rw [List.getD_eq_getElem?_getD, dbl_get? hj] at this
    exact this
  have h := (name_chain (first := 0) hP rfl (fun j hj => wide_pos (by omega) hj) (rootN (dbl depth many ts (1 + depth + o))) (rootN (dbl depth many ts (1 + depth + o)) + 1) (names0 (partsL (dbl depth many ts (1 + depth + o))) []) (by omega) (by omega) (by simp [names0]; omega) (fun j hj => by
    unfold names0
    rw [List.getD_eq_getElem?_getD, List.getElem?_replicate]
    split <;> rfl)).2
  have h2 : (namesL [] (dbl depth many ts (1 + depth + o))).labels = (chain 0 (labAt depth ts) (rootN (dbl depth many ts (1 + depth + o))) (lsOf (names0 (partsL (dbl depth many ts (1 + depth + o))) []))).2 := congrArg Prod.snd h
  obtain ⟨t, ht⟩ := chain_more 0 (labAt depth ts) 1 (lsOf (names0 (partsL (dbl depth many ts (1 + depth + o))) [])) (rootN (dbl depth many ts (1 + depth + o)) - 1)
  rw [show 1 + (rootN (dbl depth many ts (1 + depth + o)) - 1) = rootN (dbl depth many ts (1 + depth + o)) by omega] at ht
  refine ⟨t, ?_⟩
  rw [h2, ht]
  congr 1
  have l0 : labAt depth ts 0 = leafS := rfl
  have l1 : labAt depth ts 1 = manyS := by
    unfold labAt
    rw [if_neg (by omega), if_pos hd]
  have hne : ¬ manyS = leafS := by decide
  show (lstep 0 (labAt depth ts 1) (lstep 0 (labAt depth ts 0) (ix [], []))).2 = _
  rw [l0, l1]
  unfold lstep setF
  simp [ix, hne]
end
end Go.Proofs.Ytkonloadedbpkaa.FoldChain
