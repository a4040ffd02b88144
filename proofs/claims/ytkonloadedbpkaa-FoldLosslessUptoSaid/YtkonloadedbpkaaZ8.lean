/- FoldBis, FoldChain, SpreadP, Kept. -/
import Derived.Test.YtkonloadedbpkaaZ7
import Derived.Test.YtkonloadedbpkaaZ6
import Derived.Test.YtkonloadedbpkaaZ3
import Derived.OwnWalk
namespace Go.Proofs.Ytkonloadedbpkaa.FoldBis
open Go.Proofs.Ytkonloadedbpkaa.FoldPure Go.Proofs.Ytkonloadedbpkaa.FoldRun Go.Proofs.Ytkonloadedbpkaa.Gather Go.Proofs.Ytkonloadedbpkaa.Reached Go.Proofs.Ytkonloadedbpkaa.NodesPure Go.Proofs.Ytkonloadedbpkaa.FoldFacts Go.Proofs.Ytkonloadedbpkaa.FoldCount Go.Proofs.Ytkonloadedbpkaa.FoldExact Go.Proofs.Ytkonloadedbpkaa.ShareR
set_option linter.unusedVariables false

theorem down_led {l : List Nd} (i : Nat) : ∀ {on : List Bool} {j : Nat}, (onDown l i on).getD j false = true → on.getD j false = true ∨ ∃ r, r < i ∧ (onDown l i on).getD r false = true ∧ j ∈ (l.getD r (ByteArray.empty, [])).2 := by
  induction i with
  | zero => intro on j h; exact .inl h
  | succ i ih =>
    intro on j h
    unfold onDown at h ⊢
    rcases ih h with h1 | ⟨r, hr, h2, h3⟩
    · by_cases ho : on.getD i false = true
      · rw [if_pos ho] at h1
        by_cases hm : j ∈ (l.getD i (ByteArray.empty, [])).2
        · right
          refine ⟨i, by omega, ?_, hm⟩
          rw [if_pos ho]
          exact down_keeps l i (mark_keeps _ ho)
        · rw [mark_far hm] at h1
          exact .inl h1
      · rw [if_neg ho] at h1
        exact .inl h1
    · exact .inr ⟨r, by omega, h2, h3⟩
theorem on_lt {l : List Nd} {j : Nat} (h : (onT l).getD j false = true) : j < l.length := by
  have := true_lt h
  rwa [on_len] at this
theorem on_led {l : List Nd} {j : Nat} (h : (onT l).getD j false = true) : j = l.length - 1 ∨ ∃ r, ∃ hr : r < l.length, (onT l).getD r false = true ∧ j ∈ l[r].2 := by
  rcases down_led l.length h with h1 | ⟨r, hr, h2, h3⟩
  · left
    by_cases e : l.length - 1 = j
    · exact e.symm
    · rw [List.getD_eq_getElem?_getD, List.getElem?_set_ne e, List.getElem?_replicate] at h1
      split at h1
      · cases h1
      · cases h1
  · right
    refine ⟨r, hr, h2, ?_⟩
    rw [List.getD_eq_getElem?_getD, List.getElem?_eq_getElem hr] at h3
    exact h3
theorem place_len (P : List Part) (s : ByteArray) (ks : List Nat) : ((place P s ks).1.length = P.length ∧ (place P s ks).2 < P.length) ∨ ((place P s ks).1.length = P.length + 1 ∧ (place P s ks).2 = P.length) := by
  unfold place
  cases hf : findPart P s ks with
  | some n =>
    left
    refine ⟨rfl, ?_⟩
    have := (List.getElem?_eq_some_iff.1 (ix_some hf)).1
    simpa using this
  | none =>
    right
    refine ⟨?_, rfl⟩
    show (bumpAll _ _).length = _
    rw [bumpAll_length]
    simp
theorem num_onto {l : List Nd} {on : List Bool} : ∀ i, i ≤ l.length → (gatherTo l on i).2.length = l.length ∧ ∀ n, n < (gatherTo l on i).1.length → ∃ j, j < i ∧ on.getD j false = true ∧ (gatherTo l on i).2.getD j 0 = n := by
  intro i
  induction i with
  | zero => intro _; exact ⟨by simp [gatherTo], fun n h => by simp [gatherTo] at h⟩
  | succ i ih =>
    intro hi
    have hlt : i < l.length := by omega
    obtain ⟨h1, h2⟩ := ih (by omega)
    cases hov : on.getD i false with
    | false =>
      rw [gather_off hlt hov]
      exact ⟨h1, fun n hn => by
        obtain ⟨j, hj, a, b⟩ := h2 n hn
        exact ⟨j, by omega, a, b⟩⟩
    | true =>
      have e : gatherTo l on (i + 1) = gStep on (gatherTo l on i) i l[i] := by
        rw [gatherTo, List.getElem?_eq_getElem hlt]
      rw [e]
      unfold gStep
      rw [if_pos hov]
      refine ⟨by simpa using h1, fun n hn => ?_⟩
      simp only at hn ⊢
      have hp := place_len (gatherTo l on i).1 l[i].1 (l[i].2.map ((gatherTo l on i).2.getD · 0))
      generalize place (gatherTo l on i).1 l[i].1 (l[i].2.map ((gatherTo l on i).2.getD · 0)) = p at hn hp ⊢
      by_cases hlt2 : n < (gatherTo l on i).1.length
      · obtain ⟨j, hj, a, b⟩ := h2 n hlt2
        exact ⟨j, by omega, a, by rw [set_ne (by omega)]; exact b⟩
      · refine ⟨i, by omega, hov, ?_⟩
        rw [set_same (by omega)]
        omega
def numN (l : List Nd) : List Nat := (gatherTo l (onT l) l.length).2
theorem gfN {l : List Nd} (hv : Valid l) : GF l (onT l) l.length (partsL l) (numN l) := gf_on hv
theorem parts_onto {l : List Nd} {n : Nat} (h : n < (partsL l).length) : ∃ j, (onT l).getD j false = true ∧ (numN l).getD j 0 = n := by
  obtain ⟨j, _, h1, h2⟩ := (num_onto (l := l) (on := onT l) l.length (Nat.le_refl _)).2 n h
  exact ⟨j, h1, h2⟩
/-! ### parts that are alike -/
def Pair (a b : List Nd) (R : Nat → Nat → Prop) (n m : Nat) : Prop := ∃ i j, (onT a).getD i false = true ∧ (onT b).getD j false = true ∧ R i j ∧ (numN a).getD i 0 = n ∧ (numN b).getD j 0 = m
theorem Pair.symm {a b : List Nd} {R : Nat → Nat → Prop} {n m : Nat} (h : Pair a b R n m) : Pair b a (fun p i => R i p) m n := by
  obtain ⟨i, j, h1, h2, h3, h4, h5⟩ := h
  exact ⟨j, i, h2, h1, h3, h5, h4⟩
theorem part_here {l : List Nd} (hv : Valid l) {i : Nat} (hi : i < l.length) (ho : (onT l).getD i false = true) : (numN l).getD i 0 < (partsL l).length ∧ (partOf (partsL l) ((numN l).getD i 0)).label = l[i].1 ∧ (partOf (partsL l) ((numN l).getD i 0)).kids = l[i].2.map ((numN l).getD · 0) := by
  obtain ⟨q, hq, hc⟩ := (gfN hv).here i hi hi ho
  have e : partOf (partsL l) ((numN l).getD i 0) = q := by
    unfold partOf
    rw [List.getD_eq_getElem?_getD, hq]
    rfl
  rw [e]
  exact ⟨(List.getElem?_eq_some_iff.1 hq).1, congrArg Prod.fst hc, congrArg Prod.snd hc⟩
section
variable {a b : List Nd} {R : Nat → Nat → Prop}
theorem pair_at (hB : Bis a b R) (hv : Valid a) (hw : Valid b) {n m : Nat} (h : Pair a b R n m) : n < (partsL a).length ∧ m < (partsL b).length ∧ (partOf (partsL a) n).label = (partOf (partsL b) m).label ∧ (partOf (partsL a) n).kids.length = (partOf (partsL b) m).kids.length ∧
    ∀ t (h1 : t < (partOf (partsL a) n).kids.length) (h2 : t < (partOf (partsL b) m).kids.length), Pair a b R (partOf (partsL a) n).kids[t] (partOf (partsL b) m).kids[t] := by
  obtain ⟨i, j, oi, oj, hr, rfl, rfl⟩ := h
  obtain ⟨hi, hp, e1, e2, e3⟩ := hB i j hr
  obtain ⟨a1, a2, a3⟩ := part_here hv hi oi
  obtain ⟨b1, b2, b3⟩ := part_here hw hp oj
  refine ⟨a1, b1, by rw [a2, b2, e1], by rw [a3, b3, List.length_map, List.length_map, e2], fun t h1 h2 => ?_⟩
  have k1 : t < a[i].2.length := by
    rw [a3, List.length_map] at h1
    exact h1
  have k2 : t < b[j].2.length := by omega
  have f1 : (partOf (partsL a) ((numN a).getD i 0)).kids[t] = (numN a).getD a[i].2[t] 0 := by
    simp only [a3, List.getElem_map]
  have f2 : (partOf (partsL b) ((numN b).getD j 0)).kids[t] = (numN b).getD b[j].2[t] 0 := by
    simp only [b3, List.getElem_map]
  rw [f1, f2]
  exact ⟨a[i].2[t], b[j].2[t], on_closed hv hi oi _ (List.getElem_mem k1), on_closed hw hp oj _ (List.getElem_mem k2), e3 t k1 k2, rfl, rfl⟩
theorem core_at {P : List Part} {n : Nat} (h : n < P.length) : (P.map core)[n]? = some ((partOf P n).label, (partOf P n).kids) := by
  rw [List.getElem?_map, List.getElem?_eq_getElem h]
  simp [partOf, h, core]
theorem pair_fun (hB : Bis a b R) (hv : Valid a) (hw : Valid b) : ∀ (k n m m' : Nat), n < k → Pair a b R n m → Pair a b R n m' → m = m' := by
  intro k
  induction k with
  | zero => intro n m m' h; omega
  | succ k ih =>
    intro n m m' h h1 h2
    obtain ⟨a1, a2, a3, a4, a5⟩ := pair_at hB hv hw h1
    obtain ⟨b1, b2, b3, b4, b5⟩ := pair_at hB hv hw h2
    have e : (partOf (partsL b) m).kids = (partOf (partsL b) m').kids := by
      apply List.ext_getElem
      · omega
      · intro t k1 k2
        have hk := (strict_of (gfN hv).strict (List.getElem_mem (show t < (partOf (partsL a) n).kids.length by omega))).1
        exact ih _ _ _ (by omega) (a5 t (by omega) k1) (b5 t (by omega) k2)
    have c1 := core_at a2
    have c2 := core_at b2
    rw [← e, ← b3, a3] at c2
    have f1 := ix_nodup (gfN hw).nodup c1
    have f2 := ix_nodup (gfN hw).nodup c2
    rw [f1] at f2
    exact Option.some.inj f2
theorem pair_one (hB : Bis a b R) (hv : Valid a) (hw : Valid b) {n m m' : Nat} (h : Pair a b R n m) (h' : Pair a b R n m') : m = m' := pair_fun hB hv hw (n + 1) n m m' (by omega) h h'
theorem pair_inj (hB : Bis a b R) (hv : Valid a) (hw : Valid b) {n n' m : Nat} (h : Pair a b R n m) (h' : Pair a b R n' m) : n = n' := pair_one hB.symm hw hv h.symm h'.symm
theorem on_pair (hB : Bis a b R) (hv : Valid a) (hw : Valid b) (h0 : 0 < b.length) (hr : R (a.length - 1) (b.length - 1)) : ∀ (d i : Nat), a.length - i ≤ d → (onT a).getD i false = true → ∃ j, (onT b).getD j false = true ∧ R i j := by
  intro d
  induction d with
  | zero => intro i h ho; have := on_lt ho; omega
  | succ d ih =>
    intro i h ho
    rcases on_led ho with rfl | ⟨r, hrl, hor, hm⟩
    · exact ⟨b.length - 1, on_root h0, hr⟩
    · have h1 := hv r a[r] (List.getElem?_eq_getElem hrl) i hm
      obtain ⟨j, hj, hrj⟩ := ih r (by omega) hor
      obtain ⟨_, hp, _, e2, e3⟩ := hB r j hrj
      obtain ⟨t, ht, e⟩ := List.mem_iff_getElem.1 hm
      have := e3 t ht (by omega)
      rw [e] at this
      exact ⟨_, on_closed hw hp hj _ (List.getElem_mem _), this⟩
theorem pair_total (hB : Bis a b R) (hv : Valid a) (hw : Valid b) (h0 : 0 < b.length) (hr : R (a.length - 1) (b.length - 1)) {n : Nat} (hn : n < (partsL a).length) : ∃ m, Pair a b R n m := by
  obtain ⟨i, hi, e⟩ := parts_onto hn
  obtain ⟨j, hj, hrj⟩ := on_pair hB hv hw h0 hr _ i (Nat.le_refl _) hi
  exact ⟨_, i, j, hi, hj, hrj, e, rfl⟩
end
theorem count_pair {S : Nat → Nat → Prop} (hf : ∀ n m m', S n m → S n m' → m = m') (hg : ∀ n n' m, S n m → S n' m → n = n') {n m : Nat} (h : S n m) : ∀ (ks ks' : List Nat), ks.length = ks'.length → (∀ t (h1 : t < ks.length) (h2 : t < ks'.length), S ks[t] ks'[t]) → ks.count n = ks'.count m
  | [], [], _, _ => by simp
  | [], _ :: _, e, _ => by simp at e
  | _ :: _, [], e, _ => by simp at e
  | x :: ks, y :: ks', e, hS => by
    have ih := count_pair hf hg h ks ks' (by simpa using e) (fun t h1 h2 => by
      have := hS (t + 1) (by simp; omega) (by simp; omega)
      simpa using this)
    have hxy : S x y := hS 0 (by simp) (by simp)
    rw [List.count_cons, List.count_cons, ih]
    by_cases hx : x = n
    · subst hx
      have := hf _ _ _ hxy h
      simp [this]
    · have hy : ¬ y = m := fun e => hx (hg _ _ _ (e ▸ hxy) h)
      simp [hx, hy]
theorem sum_pair {N M : Nat} {S : Nat → Nat → Prop} (hf : ∀ n m m', S n m → S n m' → m = m') (hg : ∀ n n' m, S n m → S n' m → n = n') (ht : ∀ n, n < N → ∃ m, m < M ∧ S n m) (hs : ∀ m, m < M → ∃ n, n < N ∧ S n m) (F G : Nat → Nat) (h : ∀ n m, S n m → F n = G m) : ((List.range N).map F).sum = ((List.range M).map G).sum := by
  obtain ⟨σ, hσ⟩ : ∃ σ : Nat → Nat, ∀ n, n < N → σ n < M ∧ S n (σ n) := ⟨fun n => if h : n < N then Classical.choose (ht n h) else 0, fun n hn => by
    simp only [dif_pos hn]
    exact Classical.choose_spec (ht n hn)⟩
  have hnd : ((List.range N).map σ).Nodup := by
    refine List.pairwise_map.2 (List.Pairwise.imp_of_mem (fun {x y} hx hy hxy e => ?_) List.nodup_range)
    have h1 := (hσ x (List.mem_range.1 hx)).2
    have h2 := (hσ y (List.mem_range.1 hy)).2
    rw [e] at h1
    exact hxy (hg _ _ _ h1 h2)
  have key := sum_range_eq M (fun m => if m < M then G m else 0) ((List.range N).map σ) (fun m hm => by
    have hm2 : m < M := by
      rcases Nat.lt_or_ge m M with h1 | h1
      · exact h1
      · simp only [if_neg (by omega : ¬ m < M)] at hm
        omega
    refine ⟨hm2, ?_⟩
    obtain ⟨n, hn, hS⟩ := hs m hm2
    have : σ n = m := hf _ _ _ (hσ n hn).2 hS
    have hmem : m ∈ (List.range N).map σ := List.mem_map.2 ⟨n, List.mem_range.2 hn, this⟩
    have h1 := List.count_pos_iff.2 hmem
    have h2 := List.nodup_iff_count.1 hnd m
    omega)
  have e1 : ((List.range M).map (fun m => if m < M then G m else 0)) = (List.range M).map G := List.map_congr_left fun m hm => if_pos (List.mem_range.1 hm)
  have e2 : (((List.range N).map σ).map (fun m => if m < M then G m else 0)) = (List.range N).map F := by
    rw [List.map_map]
    refine List.map_congr_left fun n hn => ?_
    have := hσ n (List.mem_range.1 hn)
    show (if σ n < M then G (σ n) else 0) = F n
    rw [if_pos this.1, h _ _ this.2]
  rw [e1, e2] at key
  exact key
theorem places_range {P : List Part} (hp : ∀ (n : Nat) (q : Part), P[n]? = some q → q.places = ((P.map Part.kids).map (List.count n)).sum) {n : Nat} (hn : n < P.length) : (partOf P n).places = ((List.range P.length).map (fun m => (partOf P m).kids.count n)).sum := by
  have hq : P[n]? = some (partOf P n) := by simp [partOf, hn]
  rw [hp n _ hq, range_parts P (fun q => q.kids.count n), List.map_map]
  rfl
theorem fold_pair {β γ : Type} {S : Nat → Nat → Prop} {Q : β → γ → Prop} (f : β → Nat → β) (g : γ → Nat → γ) : ∀ (ks ks' : List Nat), ks.length = ks'.length → (∀ t (h1 : t < ks.length) (h2 : t < ks'.length), S ks[t] ks'[t]) → (∀ b c n m, n ∈ ks → m ∈ ks' → S n m → Q b c → Q (f b n) (g c m)) → ∀ b c, Q b c → Q (ks.foldl f b) (ks'.foldl g c)
  | [], [], _, _, _, b, c, h => h
  | [], _ :: _, e, _, _, _, _, _ => by simp at e
  | _ :: _, [], e, _, _, _, _, _ => by simp at e
  | x :: ks, y :: ks', e, hS, hQ, b, c, h =>
    fold_pair f g ks ks' (by simpa using e) (fun t h1 h2 => by
      have := hS (t + 1) (by simp; omega) (by simp; omega)
      simpa using this) (fun b c n m hn hm => hQ b c n m (List.mem_cons_of_mem _ hn) (List.mem_cons_of_mem _ hm)) _ _ (hQ b c x y (by simp) (by simp) (hS 0 (by simp) (by simp)) h)
structure NSim (S : Nat → Nat → Prop) (N M : Nat) (s s' : NS) : Prop where
  at_ : s.at_ = s'.at_
  labels : s.labels = s'.labels
  seen : ∀ n m, S n m → s.seen.getD n false = s'.seen.getD m false
  len : s.seen.length = N
  len' : s'.seen.length = M
structure WSim (S : Nat → Nat → Prop) (N M : Nat) (s s' : WS) : Prop where
  saves : s.saves = s'.saves
  codes : s.codes = s'.codes
  nums : ∀ n m, S n m → s.nums.getD n (-1) = s'.nums.getD m (-1)
  len : s.nums.length = N
  len' : s'.nums.length = M
theorem set_pair {α : Type} {S : Nat → Nat → Prop} (hf : ∀ n m m', S n m → S n m' → m = m') (hg : ∀ n n' m, S n m → S n' m → n = n') {xs ys : List α} {n m : Nat} {u d : α} (h : S n m) (hn : n < xs.length) (hm : m < ys.length) (hh : ∀ n m, S n m → xs.getD n d = ys.getD m d) : ∀ x y, S x y → (xs.set n u).getD x d = (ys.set m u).getD y d := by
  intro x y hxy
  by_cases e : x = n
  · subst e
    have := hf _ _ _ hxy h
    subst this
    rw [List.getD_eq_getElem?_getD, List.getElem?_set_self hn, List.getD_eq_getElem?_getD, List.getElem?_set_self hm]
  · have hy : ¬ y = m := fun e2 => e (hg _ _ _ (e2 ▸ hxy) h)
    rw [List.getD_eq_getElem?_getD, List.getElem?_set_ne (Ne.symm e), List.getD_eq_getElem?_getD, List.getElem?_set_ne (Ne.symm hy), ← List.getD_eq_getElem?_getD, ← List.getD_eq_getElem?_getD]
    exact hh x y hxy
theorem sim_label {S : Nat → Nat → Prop} {N M : Nat} {s s' : NS} (first : Nat) (lab : ByteArray) (h : NSim S N M s s') : NSim S N M (nameLabel first lab s) (nameLabel first lab s') := by
  unfold nameLabel
  rw [h.at_]
  split
  · exact h
  · exact ⟨by rw [h.labels], by rw [h.labels], h.seen, h.len, h.len'⟩
section
variable {a b : List Nd} {R : Nat → Nat → Prop}
theorem saved_pair (hB : Bis a b R) (hv : Valid a) (hw : Valid b) (h0 : 0 < a.length) (h1 : 0 < b.length) (hr : R (a.length - 1) (b.length - 1)) {n m : Nat} (h : Pair a b R n m) : isSaved (partOf (partsL a) n) = isSaved (partOf (partsL b) m) := by
  obtain ⟨a1, a2, _, a4, _⟩ := pair_at hB hv hw h
  unfold isSaved
  rw [a4]
  congr 2
  rw [places_range (gfN hv).places a1, places_range (gfN hw).places a2]
  rw [sum_pair (S := Pair a b R) (fun _ _ _ => pair_one hB hv hw) (fun _ _ _ => pair_inj hB hv hw) (fun n hn => by
    obtain ⟨m, hm⟩ := pair_total hB hv hw h1 hr hn
    exact ⟨m, (pair_at hB hv hw hm).2.1, hm⟩) (fun m hm => by
    obtain ⟨n, hn⟩ := pair_total hB.symm hw hv h0 hr hm
    exact ⟨n, (pair_at hB hv hw hn.symm).1, hn.symm⟩) _ _ (fun x y hxy => by
    obtain ⟨_, _, _, c4, c5⟩ := pair_at hB hv hw hxy
    exact count_pair (S := Pair a b R) (fun _ _ _ => pair_one hB hv hw) (fun _ _ _ => pair_inj hB hv hw) h _ _ c4 c5)]
theorem name_pair (hB : Bis a b R) (hv : Valid a) (hw : Valid b) (first : Nat) : ∀ (k k' n m : Nat) (s s' : NS), n < k → m < k' → Pair a b R n m → NSim (Pair a b R) (partsL a).length (partsL b).length s s' → NSim (Pair a b R) (partsL a).length (partsL b).length (nameT (partsL a) first k n s) (nameT (partsL b) first k' m s') := by
  intro k
  induction k with
  | zero => intro k' n m s s' h; omega
  | succ k ih =>
    intro k' n m s s' hn hm h hs
    obtain ⟨k', rfl⟩ : ∃ j, k' = j + 1 := ⟨k' - 1, by omega⟩
    obtain ⟨a1, a2, a3, a4, a5⟩ := pair_at hB hv hw h
    unfold nameT
    rw [← hs.seen n m h]
    split
    · exact hs
    · rw [a3]
      refine sim_label _ _ (fold_pair (S := Pair a b R) _ _ _ _ a4 a5 (fun x y p q hp hq hpq hxy => ?_) _ _ ⟨hs.at_, hs.labels, set_pair (S := Pair a b R) (fun _ _ _ => pair_one hB hv hw) (fun _ _ _ => pair_inj hB hv hw) h (by rw [hs.len]; exact a1) (by rw [hs.len']; exact a2) hs.seen, by simpa using hs.len, by simpa using hs.len'⟩)
      have k1 := (strict_of (gfN hv).strict hp).1
      have k2 := (strict_of (gfN hw).strict hq).1
      exact ih _ _ _ _ _ (by omega) (by omega) hpq hxy
theorem write_pair (hB : Bis a b R) (hv : Valid a) (hw : Valid b) (h0 : 0 < a.length) (h1 : 0 < b.length) (hr : R (a.length - 1) (b.length - 1)) (at_ : ByteArray → Nat) (base : Nat) : ∀ (k k' n m : Nat) (s s' : WS), n < k → m < k' → Pair a b R n m → WSim (Pair a b R) (partsL a).length (partsL b).length s s' → WSim (Pair a b R) (partsL a).length (partsL b).length (writeT (partsL a) at_ base k n s) (writeT (partsL b) at_ base k' m s') := by
  intro k
  induction k with
  | zero => intro k' n m s s' h; omega
  | succ k ih =>
    intro k' n m s s' hn hm h hs
    obtain ⟨k', rfl⟩ : ∃ j, k' = j + 1 := ⟨k' - 1, by omega⟩
    obtain ⟨a1, a2, a3, a4, a5⟩ := pair_at hB hv hw h
    unfold writeT
    rw [← hs.nums n m h, ← hs.codes]
    split
    · exact ⟨hs.saves, rfl, hs.nums, hs.len, hs.len'⟩
    · have hk := fold_pair (S := Pair a b R) (Q := WSim (Pair a b R) (partsL a).length (partsL b).length) (fun s j => writeT (partsL a) at_ base k j s) (fun s j => writeT (partsL b) at_ base k' j s) _ _ a4 a5 (fun x y p q hp hq hpq hxy => by
        have k1 := (strict_of (gfN hv).strict hp).1
        have k2 := (strict_of (gfN hw).strict hq).1
        exact ih _ _ _ _ _ (by omega) (by omega) hpq hxy) s s' hs
      unfold writeEnd
      rw [saved_pair hB hv hw h0 h1 hr h, a3]
      split
      · refine ⟨by rw [hk.saves], by rw [hk.codes], ?_, by simpa using hk.len, by simpa using hk.len'⟩
        simp only [hk.saves]
        exact set_pair (S := Pair a b R) (fun _ _ _ => pair_one hB hv hw) (fun _ _ _ => pair_inj hB hv hw) h (by rw [hk.len]; exact a1) (by rw [hk.len']; exact a2) hk.nums
      · exact ⟨hk.saves, by rw [hk.codes], hk.nums, hk.len, hk.len'⟩
theorem getD_repl {α : Type} (n i : Nat) (d : α) : (List.replicate n d).getD i d = d := by
  rw [List.getD_eq_getElem?_getD, List.getElem?_replicate]
  split <;> rfl
/-- The same labels and the same codes. -/
theorem fold_alike (ms : List ByteArray) (hB : Bis a b R) (hv : Valid a) (hw : Valid b) (h0 : 0 < a.length) (h1 : 0 < b.length) (hr : R (a.length - 1) (b.length - 1)) :
    (namesL ms a).labels = (namesL ms b).labels ∧ (codesL ms a).codes = (codesL ms b).codes := by
  have hroot : Pair a b R (rootN a) (rootN b) := ⟨a.length - 1, b.length - 1, on_root h0, on_root h1, hr, rfl, rfl⟩
  have hN := name_pair hB hv hw ms.length (rootN a + 1) (rootN b + 1) (rootN a) (rootN b) (names0 (partsL a) ms) (names0 (partsL b) ms) (by omega) (by omega) hroot ⟨rfl, rfl, fun n m _ => by
    unfold names0
    rw [getD_repl, getD_repl], by simp [names0], by simp [names0]⟩
  have hW := write_pair hB hv hw h0 h1 hr (atW (namesL ms a).at_) (ms.length + (namesL ms a).labels.length) (rootN a + 1) (rootN b + 1) (rootN a) (rootN b) (codes0 (partsL a)) (codes0 (partsL b)) (by omega) (by omega) hroot ⟨rfl, rfl, fun n m _ => by
    unfold codes0
    rw [getD_repl, getD_repl], by simp [codes0], by simp [codes0]⟩
  have e1 : (namesL ms a).labels = (namesL ms b).labels := hN.labels
  have e2 : (namesL ms a).at_ = (namesL ms b).at_ := hN.at_
  refine ⟨e1, ?_⟩
  have := hW.codes
  rw [e1, e2] at this
  unfold codesL
  rw [e1, e2]
  exact this
end
end Go.Proofs.Ytkonloadedbpkaa.FoldBis

namespace Go.Proofs.Ytkonloadedbpkaa.FoldChain
open Go.RowKit Go.Proofs.Ytkonloadedbpkaa.FoldPure Go.Proofs.Ytkonloadedbpkaa.FoldRun Go.Proofs.Ytkonloadedbpkaa.Gather Go.Proofs.Ytkonloadedbpkaa.Reached Go.Proofs.Ytkonloadedbpkaa.NodesPure Go.Proofs.Ytkonloadedbpkaa.FoldFacts Go.Proofs.Ytkonloadedbpkaa.FoldCount Go.Proofs.Ytkonloadedbpkaa.FoldExact Go.Proofs.Ytkonloadedbpkaa.FoldSame
set_option linter.unusedVariables false
set_option linter.unusedSimpArgs false

/-- How many kids node j has. -/
def wide (depth many j : Nat) : Nat := if j = 0 then 0 else if j ≤ depth then many else 1
section
variable {depth many : Nat} {ts : List ByteArray}
/-! ### the names -/
abbrev LS := (ByteArray → Option Nat) × List ByteArray
def lstep (first : Nat) (lab : ByteArray) (p : LS) : LS := if (p.1 lab).isSome then p else (setF p.1 lab (first + p.2.length), p.2 ++ [lab])
def lsOf (s : NS) : LS := (s.at_, s.labels)
theorem label_ls (first : Nat) (lab : ByteArray) (s : NS) : lsOf (nameLabel first lab s) = lstep first lab (lsOf s) := by
  unfold nameLabel lstep lsOf
  split <;> rfl
def chain (first : Nat) (lab : Nat → ByteArray) : Nat → LS → LS
  | 0, p => lstep first (lab 0) p
  | n + 1, p => lstep first (lab (n + 1)) (chain first lab n p)
end
end Go.Proofs.Ytkonloadedbpkaa.FoldChain

namespace Go.Proofs.Ytkonloadedbpkaa.SpreadP
open Go.Proofs.Ytkonloadedbpkaa.FoldPure Go.Proofs.Ytkonloadedbpkaa.FoldRun Go.Proofs.Ytkonloadedbpkaa.Gather Go.Proofs.Ytkonloadedbpkaa.Reached Go.Proofs.Ytkonloadedbpkaa.NodesPure Go.Proofs.Ytkonloadedbpkaa.FoldFacts Go.Proofs.Ytkonloadedbpkaa.FoldCount Go.Proofs.Ytkonloadedbpkaa.FoldExact Go.Proofs.Ytkonloadedbpkaa.ShareP Go.Proofs.Ytkonloadedbpkaa.ShareR Go.Proofs.Ytkonloadedbpkaa.TreeP Go.Proofs.Ytkonloadedbpkaa.FoldBis Go.Proofs.Ytkonloadedbpkaa.FoldChain
set_option linter.unusedVariables false

/-! ### parts as nodes -/
def coreL (P : List Part) : List Nd := P.map core
theorem core_len (P : List Part) : (coreL P).length = P.length := by simp [coreL]
theorem core_get {P : List Part} {n : Nat} (h : n < (coreL P).length) : (coreL P)[n] = ((partOf P n).label, (partOf P n).kids) := by
  have h2 : n < P.length := by rw [core_len] at h; exact h
  have := core_at h2
  have e : (coreL P)[n]? = some ((partOf P n).label, (partOf P n).kids) := this
  rw [List.getElem?_eq_getElem h] at e
  exact Option.some.inj e
theorem core_valid {P : List Part} (hS : StrictP P) : Valid (coreL P) := by
  intro i x hx k hk
  have hi := (List.getElem?_eq_some_iff.1 hx).1
  have e := core_get hi
  have e2 := (List.getElem?_eq_some_iff.1 hx).2
  rw [e2] at e
  rw [e] at hk
  exact (strict_of hS hk).1
theorem lab_core {P : List Part} (hS : StrictP P) {n : Nat} (hn : n < P.length) : labF (coreL P) n = ((partOf P n).kids.map (labF (coreL P))).flatten ++ [(partOf P n).label] := by
  have hl : n < (coreL P).length := by rw [core_len]; exact hn
  rw [labF_at (core_valid hS) hl, core_get hl]
theorem core_bis {l : List Nd} (hv : Valid l) : Bis l (coreL (partsL l)) (fun i n => (onT l).getD i false = true ∧ (numN l).getD i 0 = n) := by
  rintro i n ⟨ho, rfl⟩
  have hi := on_lt ho
  obtain ⟨a1, a2, a3⟩ := part_here hv hi ho
  have hl : (numN l).getD i 0 < (coreL (partsL l)).length := by rw [core_len]; exact a1
  have e := core_get hl
  have e1 : (coreL (partsL l))[(numN l).getD i 0].2 = l[i].2.map ((numN l).getD · 0) := by rw [e]; exact a3
  refine ⟨hi, hl, by rw [e]; exact a2.symm, by rw [e1, List.length_map], fun t k1 k2 => ⟨on_closed hv hi ho _ (List.getElem_mem k1), ?_⟩⟩
  simp only [e1, List.getElem_map]
theorem lab_num {l : List Nd} (hv : Valid l) {i : Nat} (ho : (onT l).getD i false = true) : labF l i = labF (coreL (partsL l)) ((numN l).getD i 0) :=
  bis_lab (core_bis hv) hv (core_valid (gfN hv).strict) ⟨ho, rfl⟩
theorem lab_root {l : List Nd} (hv : Valid l) (h0 : 0 < l.length) : labF (coreL (partsL l)) (rootN l) = labN l := (lab_num hv (on_root h0)).symm
theorem lab_kid {l : List Nd} (hv : Valid l) {r i : Nat} (hr : r < l.length) (h : i ∈ l[r].2) : (labF l i).Sublist (labF l r) := by
  rw [labF_at hv hr]
  exact (List.sublist_flatten_of_mem (List.mem_map.2 ⟨i, h, rfl⟩)).trans (List.sublist_append_left _ _)
theorem on_sub {l : List Nd} (hv : Valid l) : ∀ (d i : Nat), l.length - i ≤ d → (onT l).getD i false = true → (labF l i).Sublist (labN l) := by
  intro d
  induction d with
  | zero => intro i h ho; have := on_lt ho; omega
  | succ d ih =>
    intro i h ho
    rcases on_led ho with rfl | ⟨r, hrl, hor, hm⟩
    · exact List.Sublist.refl _
    · have h1 := hv r l[r] (List.getElem?_eq_getElem hrl) i hm
      exact (lab_kid hv hrl hm).trans (ih r (by omega) hor)
theorem part_sub {l : List Nd} (hv : Valid l) {n : Nat} (hn : n < (partsL l).length) : (labF (coreL (partsL l)) n).Sublist (labN l) := by
  obtain ⟨i, hi, rfl⟩ := parts_onto hn
  rw [← lab_num hv hi]
  exact on_sub hv _ i (Nat.le_refl _) hi
theorem part_label {l : List Nd} (hv : Valid l) {n : Nat} (hn : n < (partsL l).length) : (partOf (partsL l) n).label ∈ labN l := by
  have h := part_sub hv hn
  rw [lab_core (gfN hv).strict hn] at h
  exact h.subset (by simp)
theorem root_lt {l : List Nd} (hv : Valid l) (h0 : 0 < l.length) : rootN l < (partsL l).length := (part_here hv (by omega) (on_root h0)).1
theorem part_from {l : List Nd} (hv : Valid l) {n : Nat} (hn : n < (partsL l).length) : ∃ x ∈ l, (partOf (partsL l) n).label = x.1 ∧ (partOf (partsL l) n).kids.length = x.2.length := by
  obtain ⟨i, hi, rfl⟩ := parts_onto hn
  have hl := on_lt hi
  obtain ⟨_, a2, a3⟩ := part_here hv hl hi
  exact ⟨l[i], List.getElem_mem hl, a2, by rw [a3, List.length_map]⟩

/-! ### the labels, in the order in which they first stand -/
abbrev lfold (first : Nat) (L : List ByteArray) (p : LS) : LS := L.foldl (fun p lab => lstep first lab p) p
theorem in_step {first : Nat} {lab x : ByteArray} {p : LS} (h : (p.1 x).isSome = true) : ((lstep first lab p).1 x).isSome = true := by
  unfold lstep
  split
  · exact h
  · show (setF p.1 lab _ x).isSome = true
    unfold setF
    split
    · rfl
    · exact h
theorem in_lab (first : Nat) (lab : ByteArray) (p : LS) : ((lstep first lab p).1 lab).isSome = true := by
  unfold lstep
  split
  · assumption
  · show (setF p.1 lab _ lab).isSome = true
    unfold setF
    rw [if_pos rfl]
    rfl
theorem in_fold {first : Nat} {x : ByteArray} : ∀ (L : List ByteArray) {p : LS}, (p.1 x).isSome = true → ((lfold first L p).1 x).isSome = true
  | [], _, h => h
  | _ :: L, _, h => in_fold L (in_step h)
theorem mem_fold {first : Nat} {x : ByteArray} : ∀ (L : List ByteArray) {p : LS}, x ∈ L → ((lfold first L p).1 x).isSome = true
  | [], _, h => by simp at h
  | y :: L, p, h => by
    rcases List.mem_cons.1 h with rfl | h
    · exact in_fold L (in_lab first x p)
    · exact mem_fold L h
theorem id_fold {first : Nat} : ∀ (L : List ByteArray) {p : LS}, (∀ x ∈ L, (p.1 x).isSome = true) → lfold first L p = p
  | [], _, _ => rfl
  | y :: L, p, h => by
    have e : lstep first y p = p := by
      unfold lstep
      rw [if_pos (h y (by simp))]
    show lfold first L (lstep first y p) = p
    rw [e]
    exact id_fold L fun x hx => h x (List.mem_cons_of_mem _ hx)
theorem lfold_append (first : Nat) (L M : List ByteArray) (p : LS) : lfold first (L ++ M) p = lfold first M (lfold first L p) := List.foldl_append
def NIn (P : List Part) (A : List Nat) (s : NS) : Prop := ∀ m, m ∉ A → s.seen.getD m false = true → ∀ x ∈ labF (coreL P) m, (s.at_ x).isSome = true
theorem name_ls {P : List Part} (hS : StrictP P) (first : Nat) : ∀ (k n : Nat) (A : List Nat) (s : NS), n < k → n < P.length → s.seen.length = P.length → (∀ a ∈ A, n < a) → NIn P A s → NIn P A (nameT P first k n s) ∧ lsOf (nameT P first k n s) = lfold first (labF (coreL P) n) (lsOf s) := by
  intro k
  induction k with
  | zero => intro n A s h; omega
  | succ k ih =>
    intro n A s hk hn hlen hA hI
    have hnA : n ∉ A := fun h => by have := hA n h; omega
    unfold nameT
    split
    · rename_i hseen
      exact ⟨hI, (id_fold _ (fun x hx => hI n hnA hseen x hx)).symm⟩
    · have key : ∀ (ks : List Nat), (∀ j ∈ ks, j < n) → ∀ s : NS, s.seen.length = P.length → NIn P (n :: A) s → NIn P (n :: A) (ks.foldl (fun s j => nameT P first k j s) s) ∧ lsOf (ks.foldl (fun s j => nameT P first k j s) s) = lfold first ((ks.map (labF (coreL P))).flatten) (lsOf s) := by
        intro ks
        induction ks with
        | nil => intro _ s _ h; exact ⟨h, rfl⟩
        | cons j ks ihk =>
          intro hks s hl h
          have hj := hks j (by simp)
          obtain ⟨h1, h2⟩ := ih j (n :: A) s (by omega) (by omega) hl (fun a ha => by
            rcases List.mem_cons.1 ha with rfl | ha
            · exact hj
            · have := hA a ha
              omega) h
          obtain ⟨h3, h4⟩ := ihk (fun j hj => hks j (List.mem_cons_of_mem _ hj)) (nameT P first k j s) (by rw [nameT_len]; exact hl) h1
          refine ⟨h3, ?_⟩
          rw [List.map_cons, List.flatten_cons, lfold_append, ← h2]
          exact h4
      obtain ⟨h1, h2⟩ := key (partOf P n).kids (fun j hj => (strict_of hS hj).1) { s with seen := s.seen.set n true } (by simpa using hlen) (fun m hm hs x hx => by
        have hmn : m ≠ n := fun e => hm (by simp [e])
        have hmA : m ∉ A := fun h => hm (List.mem_cons_of_mem _ h)
        have hs2 : (s.seen.set n true).getD m false = true := hs
        rw [List.getD_eq_getElem?_getD, List.getElem?_set_ne (Ne.symm hmn), ← List.getD_eq_getElem?_getD] at hs2
        exact hI m hmA hs2 x hx)
      generalize (partOf P n).kids.foldl (fun s j => nameT P first k j s) { s with seen := s.seen.set n true } = s2 at h1 h2 ⊢
      have e : lsOf (nameLabel first (partOf P n).label s2) = lfold first (labF (coreL P) n) (lsOf s) := by
        rw [label_ls, h2, lab_core hS hn, lfold_append]
        rfl
      refine ⟨fun m hm hs x hx => ?_, e⟩
      have hat : (nameLabel first (partOf P n).label s2).at_ = (lsOf (nameLabel first (partOf P n).label s2)).1 := rfl
      by_cases em : m = n
      · subst em
        rw [hat, e]
        exact mem_fold _ hx
      · rw [nameLabel_seen] at hs
        have := h1 m (by simp [em, hm]) hs x hx
        rw [hat, label_ls]
        exact in_step this
theorem names_ls {l : List Nd} (ms : List ByteArray) (hv : Valid l) (h0 : 0 < l.length) : lsOf (namesL ms l) = lfold ms.length (labN l) (ix ms, []) := by
  have h := (name_ls (gfN hv).strict ms.length (rootN l + 1) (rootN l) [] (names0 (partsL l) ms) (by omega) (root_lt hv h0) (by simp [names0]) (by simp) (fun m _ hs => by
    unfold names0 at hs
    rw [getD_repl] at hs
    cases hs)).2
  rw [lab_root hv h0] at h
  exact h
def nmStep (ns : List ByteArray) (lab : ByteArray) : List ByteArray := if (ix ns lab).isSome then ns else ns ++ [lab]
theorem ls_ix (ms : List ByteArray) : ∀ (L : List ByteArray) (p : LS), p.1 = ix (ms ++ p.2) → (lfold ms.length L p).1 = ix (ms ++ (lfold ms.length L p).2) ∧ L.foldl nmStep (ms ++ p.2) = ms ++ (lfold ms.length L p).2
  | [], p, h => ⟨h, rfl⟩
  | lab :: L, p, h => by
    have key : (lstep ms.length lab p).1 = ix (ms ++ (lstep ms.length lab p).2) ∧ nmStep (ms ++ p.2) lab = ms ++ (lstep ms.length lab p).2 := by
      unfold lstep nmStep
      by_cases hm : lab ∈ ms ++ p.2
      · have : (p.1 lab).isSome = true := by
          rw [h]
          cases hx : ix (ms ++ p.2) lab with
          | none => exact absurd hm (ix_none.1 hx)
          | some _ => rfl
        rw [if_pos this, if_pos (by rw [← h]; exact this)]
        exact ⟨h, rfl⟩
      · have : ¬ (p.1 lab).isSome = true := by
          rw [h, ix_none.2 hm]
          simp
        rw [if_neg this, if_neg (by rw [← h]; exact this)]
        refine ⟨?_, by simp⟩
        funext t
        show setF p.1 lab (ms.length + p.2.length) t = ix (ms ++ (p.2 ++ [lab])) t
        rw [← List.append_assoc, ix_snoc hm, List.length_append, h]
        rfl
    obtain ⟨k1, k2⟩ := key
    have ih := ls_ix ms L (lstep ms.length lab p) k1
    refine ⟨ih.1, ?_⟩
    rw [List.foldl_cons, k2]
    exact ih.2
theorem names_law {l : List Nd} (ms : List ByteArray) (hv : Valid l) (h0 : 0 < l.length) : (namesL ms l).at_ = ix (ms ++ (namesL ms l).labels) ∧ (labN l).foldl nmStep ms = ms ++ (namesL ms l).labels ∧ ∀ x ∈ labN l, x ∈ ms ++ (namesL ms l).labels := by
  have h := names_ls ms hv h0
  obtain ⟨h1, h2⟩ := ls_ix ms (labN l) (ix ms, []) (by simp)
  rw [← h] at h1 h2
  rw [List.append_nil] at h2
  refine ⟨h1, h2, fun x hx => ?_⟩
  have h3 := mem_fold (first := ms.length) (labN l) (p := (ix ms, [])) hx
  rw [← h, h1] at h3
  cases hi : ix (ms ++ (lsOf (namesL ms l)).2) x with
  | none =>
    rw [hi] at h3
    cases h3
  | some j => exact List.mem_of_getElem? (ix_some hi)

/-! ### codes, written out -/
abbrev SS := List (List ByteArray) × List (List ByteArray)
def spStep (names : List ByteArray) (ar : List Nat) (most : Nat) (st : SS) (c : Int) : Option SS :=
  if c = -1 then (match st.1.getLast? with
    | none => none
    | some p => some (st.1, st.2 ++ [p]))
  else if c < 0 ∨ ((names.length + st.2.length : Nat) : Int) ≤ c then none
  else if (names.length : Int) ≤ c then some (st.1 ++ [st.2.getD (c.toNat - names.length) []], st.2)
  else if st.1.length < ar.getD c.toNat 0 then none
  else if most < ((st.1.drop (st.1.length - ar.getD c.toNat 0)).flatten ++ [names.getD c.toNat ByteArray.empty]).length then none
  else some (st.1.take (st.1.length - ar.getD c.toNat 0) ++ [(st.1.drop (st.1.length - ar.getD c.toNat 0)).flatten ++ [names.getD c.toNat ByteArray.empty]], st.2)
def spRun (names : List ByteArray) (ar : List Nat) (most : Nat) : List Int → SS → Option SS
  | [], st => some st
  | c :: cs, st => (spStep names ar most st c).bind (spRun names ar most cs)
theorem spRun_append (names : List ByteArray) (ar : List Nat) (most : Nat) : ∀ (xs ys : List Int) (st : SS), spRun names ar most (xs ++ ys) st = (spRun names ar most xs st).bind (spRun names ar most ys)
  | [], _, _ => rfl
  | c :: xs, ys, st => by
    show (spStep names ar most st c).bind (spRun names ar most (xs ++ ys)) = ((spStep names ar most st c).bind (spRun names ar most xs)).bind _
    cases spStep names ar most st c with
    | none => rfl
    | some st2 => exact spRun_append names ar most xs ys st2
structure SvOk (P : List Part) (s : WS) (sv : List (List ByteArray)) : Prop where
  saves : s.saves = sv.length
  len : s.nums.length = P.length
  at_ : ∀ m, 0 ≤ s.nums.getD m (-1) → sv[(s.nums.getD m (-1)).toNat]? = some (labF (coreL P) m)
structure Arity (P : List Part) (names : List ByteArray) (ar : List Nat) (most : Nat) (at_ : ByteArray → Nat) : Prop where
  lt : ∀ m, m < P.length → at_ (partOf P m).label < names.length
  name : ∀ m, m < P.length → names.getD (at_ (partOf P m).label) ByteArray.empty = (partOf P m).label
  ar : ∀ m, m < P.length → ar.getD (at_ (partOf P m).label) 0 = (partOf P m).kids.length
  most : ∀ m, m < P.length → (labF (coreL P) m).length ≤ most
theorem write_spread {P : List Part} {names : List ByteArray} {ar : List Nat} {most : Nat} {at_ : ByteArray → Nat} (hS : StrictP P) (H : Arity P names ar most at_) : ∀ (k n : Nat) (s : WS) (sv : List (List ByteArray)), n < k → n < P.length → SvOk P s sv →
    ∃ new sv2, (writeT P at_ names.length k n s).codes = s.codes ++ new ∧ (∀ parts, spRun names ar most new (parts, sv) = some (parts ++ [labF (coreL P) n], sv ++ sv2)) ∧ SvOk P (writeT P at_ names.length k n s) (sv ++ sv2) := by
  intro k
  induction k with
  | zero => intro n s sv h; omega
  | succ k ih =>
    intro n s sv hk hn hI
    unfold writeT
    by_cases hs : 0 ≤ s.nums.getD n (-1)
    · rw [if_pos hs]
      have h1 := hI.at_ n hs
      have h2 := (List.getElem?_eq_some_iff.1 h1).1
      refine ⟨[(names.length : Int) + s.nums.getD n (-1)], [], rfl, fun parts => ?_, ?_⟩
      · generalize s.nums.getD n (-1) = c at hs h1 h2
        have e : ((names.length : Int) + c).toNat - names.length = c.toNat := by omega
        have e2 : sv.getD c.toNat [] = labF (coreL P) n := by
          rw [List.getD_eq_getElem?_getD, h1]
          rfl
        show (spStep names ar most (parts, sv) ((names.length : Int) + c)).bind _ = _
        unfold spStep
        rw [if_neg (by omega), if_neg (by show ¬ (_ ∨ (((names.length + sv.length : Nat) : Int) ≤ _)); omega), if_pos (by omega)]
        show some (parts ++ [sv.getD (((names.length : Int) + c).toNat - names.length) []], sv) = _
        rw [e, e2, List.append_nil]
      · rw [List.append_nil]
        exact ⟨hI.saves, hI.len, hI.at_⟩
    · rw [if_neg hs]
      have key : ∀ (ks : List Nat), (∀ j ∈ ks, j < n) → ∀ (s : WS) (sv : List (List ByteArray)), SvOk P s sv → ∃ new sv2, (ks.foldl (fun s j => writeT P at_ names.length k j s) s).codes = s.codes ++ new ∧ (∀ parts, spRun names ar most new (parts, sv) = some (parts ++ ks.map (labF (coreL P)), sv ++ sv2)) ∧ SvOk P (ks.foldl (fun s j => writeT P at_ names.length k j s) s) (sv ++ sv2) := by
        intro ks
        induction ks with
        | nil => intro _ s sv h; exact ⟨[], [], by simp, fun parts => by simp [spRun], by simpa using h⟩
        | cons j ks ihk =>
          intro hks s sv h
          have hj := hks j (by simp)
          obtain ⟨n1, s1, a1, a2, a3⟩ := ih j s sv (by omega) (by omega) h
          obtain ⟨n2, s2, b1, b2, b3⟩ := ihk (fun j hj => hks j (List.mem_cons_of_mem _ hj)) _ _ a3
          refine ⟨n1 ++ n2, s1 ++ s2, ?_, fun parts => ?_, ?_⟩
          · rw [List.foldl_cons, b1, a1, List.append_assoc]
          · rw [spRun_append, a2, Option.bind_some, b2]
            simp
          · rw [List.foldl_cons, ← List.append_assoc]
            exact b3
      obtain ⟨n1, s1, a1, a2, a3⟩ := key (partOf P n).kids (fun j hj => (strict_of hS hj).1) s sv hI
      generalize (partOf P n).kids.foldl (fun s j => writeT P at_ names.length k j s) s = s2 at a1 a3 ⊢
      have hat := H.lt n hn
      have hstep : ∀ parts, spStep names ar most (parts ++ (partOf P n).kids.map (labF (coreL P)), sv ++ s1) (at_ (partOf P n).label : Int) = some (parts ++ [labF (coreL P) n], sv ++ s1) := by
        intro parts
        have hm := H.most n hn
        unfold spStep
        rw [if_neg (by omega), if_neg (by show ¬ (_ ∨ (((names.length + (sv ++ s1).length : Nat) : Int) ≤ _)); omega), if_neg (by omega)]
        simp only [Int.toNat_natCast, H.ar n hn, H.name n hn]
        have e1 : (parts ++ (partOf P n).kids.map (labF (coreL P))).length - (partOf P n).kids.length = parts.length := by simp
        rw [if_neg (by simp), e1, List.drop_left, List.take_left, ← lab_core hS hn, if_neg (by omega)]
      unfold writeEnd
      by_cases hsv : isSaved (partOf P n) = true
      · rw [if_pos hsv]
        refine ⟨n1 ++ [(at_ (partOf P n).label : Int), -1], s1 ++ [labF (coreL P) n], by simp [a1], fun parts => ?_, ?_, by simpa using a3.len, fun m hm => ?_⟩
        · rw [spRun_append, a2, Option.bind_some]
          show (spStep _ _ _ _ _).bind _ = _
          rw [hstep, Option.bind_some]
          show (spStep _ _ _ _ _).bind _ = _
          unfold spStep
          rw [if_pos rfl]
          simp [spRun]
        · show s2.saves + 1 = _
          rw [a3.saves]
          simp
          omega
        · show (sv ++ (s1 ++ [labF (coreL P) n]))[((s2.nums.set n (s2.saves : Int)).getD m (-1)).toNat]? = _
          have hm' : 0 ≤ (s2.nums.set n (s2.saves : Int)).getD m (-1) := hm
          rw [← List.append_assoc]
          by_cases e : m = n
          · subst e
            rw [List.getD_eq_getElem?_getD, List.getElem?_set_self (by rw [a3.len]; exact hn)]
            simp only [Option.getD_some, Int.toNat_natCast]
            rw [a3.saves, List.getElem?_append_right (Nat.le_refl _), Nat.sub_self]
            rfl
          · rw [List.getD_eq_getElem?_getD, List.getElem?_set_ne (Ne.symm e), ← List.getD_eq_getElem?_getD] at hm' ⊢
            have h1 := a3.at_ m hm'
            rw [List.getElem?_append_left (List.getElem?_eq_some_iff.1 h1).1]
            exact h1
      · rw [if_neg hsv]
        refine ⟨n1 ++ [(at_ (partOf P n).label : Int)], s1, by simp [a1], fun parts => ?_, a3.saves, a3.len, a3.at_⟩
        rw [spRun_append, a2, Option.bind_some]
        show (spStep _ _ _ _ _).bind _ = _
        rw [hstep]
        rfl
/-- The codes, written out, are the unfolded labels. -/
theorem spread_law {l : List Nd} {ms : List ByteArray} {ar : List Nat} {most : Nat} (hv : Valid l) (h0 : 0 < l.length) (hm : (labN l).length ≤ most) (har : ∀ x ∈ l, ∀ j, ix (ms ++ (namesL ms l).labels) x.1 = some j → ar.getD j 0 = x.2.length) :
    ∃ sv, spRun (ms ++ (namesL ms l).labels) ar most (codesL ms l).codes ([], []) = some ([labN l], sv) := by
  obtain ⟨h1, _, h3⟩ := names_law ms hv h0
  have hix : ∀ m, m < (partsL l).length → ∃ j, ix (ms ++ (namesL ms l).labels) (partOf (partsL l) m).label = some j ∧ atW (namesL ms l).at_ (partOf (partsL l) m).label = j := fun m hm => by
    have := h3 _ (part_label hv hm)
    cases hi : ix (ms ++ (namesL ms l).labels) (partOf (partsL l) m).label with
    | none => exact absurd this (ix_none.1 hi)
    | some j =>
      refine ⟨j, rfl, ?_⟩
      unfold atW
      rw [h1, hi]
      rfl
  have H : Arity (partsL l) (ms ++ (namesL ms l).labels) ar most (atW (namesL ms l).at_) := by
    refine ⟨fun m hm => ?_, fun m hm => ?_, fun m hm => ?_, fun m hm => ?_⟩
    · obtain ⟨j, e1, e2⟩ := hix m hm
      rw [e2]
      exact (List.getElem?_eq_some_iff.1 (ix_some e1)).1
    · obtain ⟨j, e1, e2⟩ := hix m hm
      rw [e2, List.getD_eq_getElem?_getD, ix_some e1]
      rfl
    · obtain ⟨j, e1, e2⟩ := hix m hm
      obtain ⟨x, hx, e3, e4⟩ := part_from hv hm
      rw [e2, e4]
      rw [e3] at e1
      exact har x hx j e1
    · exact Nat.le_trans (part_sub hv hm).length_le (by assumption)
  obtain ⟨new, sv2, a1, a2, _⟩ := write_spread (gfN hv).strict H (rootN l + 1) (rootN l) (codes0 (partsL l)) [] (by omega) (root_lt hv h0) ⟨rfl, by simp [codes0], fun m hm => by
    unfold codes0 at hm
    rw [getD_repl] at hm
    omega⟩
  refine ⟨[] ++ sv2, ?_⟩
  have e : (codesL ms l).codes = new := by
    unfold codesL
    rw [← List.length_append, a1]
    rfl
  have := a2 []
  rw [lab_root hv h0] at this
  rw [e]
  exact this

/-! ### trees -/
inductive Tr where
  | node : ByteArray → List Tr → Tr
def trK (l : List Nd) : Nat → Nat → Tr
  | 0, _ => .node ByteArray.empty []
  | k + 1, i => .node (nodeAt l i).1 ((nodeAt l i).2.map (trK l k))
theorem trK_fuel {l : List Nd} (hv : Valid l) : ∀ (k k' i : Nat), i < k → i < k' → i < l.length → trK l k i = trK l k' i := by
  intro k
  induction k with
  | zero => intro k' i h; omega
  | succ k ih =>
    intro k' i h h' hi
    obtain ⟨k', rfl⟩ : ∃ m, k' = m + 1 := ⟨k' - 1, by omega⟩
    unfold trK
    congr 1
    rw [nodeAt_eq hi]
    refine List.map_congr_left fun j hj => ?_
    have := hv i l[i] (List.getElem?_eq_getElem hi) j hj
    exact ih k' j (by omega) (by omega) (by omega)
def trF (l : List Nd) (i : Nat) : Tr := trK l (i + 1) i
theorem trF_at {l : List Nd} (hv : Valid l) {i : Nat} (hi : i < l.length) : trF l i = .node l[i].1 (l[i].2.map (trF l)) := by
  unfold trF
  conv => lhs; unfold trK
  rw [nodeAt_eq hi]
  congr 1
  refine List.map_congr_left fun j hj => ?_
  have := hv i l[i] (List.getElem?_eq_getElem hi) j hj
  exact trK_fuel hv _ _ _ (by omega) (by omega) (by omega)
theorem tr_bis {a b : List Nd} (hv : Valid a) (hw : Valid b) : Bis a b (fun i p => i < a.length ∧ p < b.length ∧ trF a i = trF b p) := by
  rintro i p ⟨hi, hp, h⟩
  rw [trF_at hv hi, trF_at hw hp] at h
  injection h with h1 h2
  have hl : a[i].2.length = b[p].2.length := by
    have := congrArg List.length h2
    simpa using this
  refine ⟨hi, hp, h1, hl, fun t k1 k2 => ⟨?_, ?_, ?_⟩⟩
  · have := hv i a[i] (List.getElem?_eq_getElem hi) _ (List.getElem_mem k1)
    omega
  · have := hw p b[p] (List.getElem?_eq_getElem hp) _ (List.getElem_mem k2)
    omega
  · have := congrArg (·[t]?) h2
    simp only [List.getElem?_map] at this
    rw [List.getElem?_eq_getElem k1, List.getElem?_eq_getElem k2] at this
    exact Option.some.inj this
theorem tr_more {a t : List Nd} (hv : Valid a) (hw : Valid (a ++ t)) {j : Nat} (hj : j < a.length) : trF (a ++ t) j = trF a j := by
  have hB : Bis a (a ++ t) (fun i p => i = p ∧ i < a.length) := by
    rintro i p ⟨rfl, hi⟩
    have e : (a ++ t)[i]'(by simp; omega) = a[i] := List.getElem_append_left hi
    refine ⟨hi, by simp; omega, by rw [e], by rw [e], fun t k1 k2 => ⟨by simp only [e], ?_⟩⟩
    have := hv i a[i] (List.getElem?_eq_getElem hi) _ (List.getElem_mem k1)
    omega
  exact (bis_eq hB hv (fun s ts => Tr.node s ts) (fun i hi => trF_at hv hi) (fun i hi => trF_at hw hi) (j + 1) j j (by omega) ⟨rfl, hj⟩).symm

/-! ### the derivation of unfolded labels -/
abbrev CS := List Nd × List Nat
def cpStep (st : CS) (lab : ByteArray) : Option CS :=
  if lab.size = 0 ∨ st.2.length < lab.size - 1 then none
  else some (st.1 ++ [(lab, st.2.drop (st.2.length - (lab.size - 1)))], st.2.take (st.2.length - (lab.size - 1)) ++ [st.1.length])
def cpRun : List ByteArray → CS → Option CS
  | [], st => some st
  | c :: cs, st => (cpStep st c).bind (cpRun cs)
theorem cpRun_append : ∀ (xs ys : List ByteArray) (st : CS), cpRun (xs ++ ys) st = (cpRun xs st).bind (cpRun ys)
  | [], _, _ => rfl
  | c :: xs, ys, st => by
    show (cpStep st c).bind (cpRun (xs ++ ys)) = ((cpStep st c).bind (cpRun xs)).bind _
    cases cpStep st c with
    | none => rfl
    | some st2 => exact cpRun_append xs ys st2
theorem valid_snoc {a : List Nd} (hv : Valid a) {x : Nd} (hx : ∀ k ∈ x.2, k < a.length) : Valid (a ++ [x]) := by
  intro i y hy k hk
  rcases Nat.lt_or_ge i a.length with h | h
  · rw [List.getElem?_append_left h] at hy
    exact hv i y hy k hk
  · rw [List.getElem?_append_right h] at hy
    have hi : i - a.length = 0 := by
      have := (List.getElem?_eq_some_iff.1 hy).1
      simp at this
      omega
    rw [hi] at hy
    cases hy
    have := hx k hk
    omega
theorem cp_run {l : List Nd} (hv : Valid l) (har : ∀ x ∈ l, x.1.size = x.2.length + 1) : ∀ (k i : Nat), i < k → i < l.length → ∀ (out : List Nd) (op : List Nat), Valid out → ∃ t, cpRun (labF l i) (out, op) = some (out ++ t, op ++ [out.length + t.length - 1]) ∧ 0 < t.length ∧ Valid (out ++ t) ∧ trF (out ++ t) (out.length + t.length - 1) = trF l i := by
  intro k
  induction k with
  | zero => intro i h; omega
  | succ k ih =>
    intro i hk hi out op ho
    have key : ∀ (ks : List Nat), (∀ j ∈ ks, j < i) → ∀ (out : List Nd) (op : List Nat), Valid out → ∃ t idx, cpRun ((ks.map (labF l)).flatten) (out, op) = some (out ++ t, op ++ idx) ∧ Valid (out ++ t) ∧ (∀ o ∈ idx, o < (out ++ t).length) ∧ idx.map (trF (out ++ t)) = ks.map (trF l) := by
      intro ks
      induction ks with
      | nil => intro _ out op ho; exact ⟨[], [], by simp [cpRun], by simpa using ho, by simp, rfl⟩
      | cons j ks ihk =>
        intro hks out op ho
        have hj := hks j (by simp)
        obtain ⟨t1, a1, a2, a3, a4⟩ := ih j (by omega) (by omega) out op ho
        obtain ⟨t2, idx, b1, b2, b3, b4⟩ := ihk (fun j hj => hks j (List.mem_cons_of_mem _ hj)) (out ++ t1) (op ++ [out.length + t1.length - 1]) a3
        refine ⟨t1 ++ t2, (out.length + t1.length - 1) :: idx, ?_, by rw [← List.append_assoc]; exact b2, fun o ho => ?_, ?_⟩
        · rw [List.map_cons, List.flatten_cons, cpRun_append, a1, Option.bind_some, b1]
          simp
        · rw [← List.append_assoc]
          rcases List.mem_cons.1 ho with rfl | ho
          · simp only [List.length_append]
            omega
          · exact b3 o ho
        · rw [List.map_cons, List.map_cons, ← List.append_assoc, b4]
          congr 1
          rw [tr_more a3 b2 (by simp only [List.length_append]; omega)]
          exact a4
    obtain ⟨t, idx, a1, a2, a3, a4⟩ := key l[i].2 (fun j hj => hv i l[i] (List.getElem?_eq_getElem hi) j hj) out op ho
    have hs := har l[i] (List.getElem_mem hi)
    have hix : idx.length = l[i].2.length := by
      have := congrArg List.length a4
      simpa using this
    have hv2 : Valid (out ++ t ++ [(l[i].1, idx)]) := valid_snoc a2 a3
    have e0 : (op ++ idx).length - (l[i].1.size - 1) = op.length := by
      rw [List.length_append, hs]
      omega
    refine ⟨t ++ [(l[i].1, idx)], ?_, by simp, by rw [← List.append_assoc]; exact hv2, ?_⟩
    · rw [labF_at hv hi, cpRun_append, a1, Option.bind_some]
      show (cpStep (out ++ t, op ++ idx) l[i].1).bind _ = _
      unfold cpStep
      simp only [e0]
      rw [if_neg (by rw [List.length_append]; omega), List.drop_left, List.take_left]
      simp [cpRun]
    · have e1 : out.length + (t ++ [(l[i].1, idx)]).length - 1 = (out ++ t).length := by
        simp
      rw [e1, ← List.append_assoc, trF_at hv2 (by simp), trF_at hv hi]
      have e2 : (out ++ t ++ [(l[i].1, idx)])[(out ++ t).length]'(by simp) = (l[i].1, idx) := by
        rw [List.getElem_append_right (Nat.le_refl _)]
        simp
      rw [e2, ← a4]
      congr 1
      exact List.map_congr_left fun o ho => tr_more a2 hv2 (a3 o ho)
theorem cp_inv : ∀ (L : List ByteArray) (out : List Nd) (op : List Nat) (out' : List Nd) (op' : List Nat), cpRun L (out, op) = some (out', op') → (out.map (·.2.length)).sum + op.length = out.length → out'.map Prod.fst = out.map Prod.fst ++ L ∧ (out'.map (·.2.length)).sum + op'.length = out'.length
  | [], out, op, out', op', h, hs => by
    cases h
    exact ⟨by simp, hs⟩
  | lab :: L, out, op, out', op', h, hs => by
    rw [show cpRun (lab :: L) (out, op) = (cpStep (out, op) lab).bind (cpRun L) from rfl] at h
    unfold cpStep at h
    split at h
    · cases h
    · rename_i hc
      simp only [not_or] at hc
      rw [Option.bind_some] at h
      have h3 : ¬ op.length < lab.size - 1 := hc.2
      obtain ⟨h1, h2⟩ := cp_inv L _ _ _ _ h (by
        simp only [List.map_append, List.sum_append, List.length_append, List.map_cons, List.map_nil, List.sum_cons, List.sum_nil, List.length_cons, List.length_nil, List.length_drop, List.length_take]
        omega)
      exact ⟨by rw [h1]; simp, h2⟩
/-- It is that derivation, no part shared. -/
theorem copies_law {l : List Nd} (hv : Valid l) (h0 : 0 < l.length) (har : ∀ x ∈ l, x.1.size = x.2.length + 1) : ∃ c, cpRun (labN l) ([], []) = some (c, [c.length - 1]) ∧ 0 < c.length ∧ Valid c ∧ c.map Prod.fst = labN l ∧ (c.map (·.2.length)).sum ≤ c.length ∧
    ∃ R, Bis l c R ∧ R (l.length - 1) (c.length - 1) := by
  obtain ⟨t, a1, a2, a3, a4⟩ := cp_run hv har l.length (l.length - 1) (by omega) (by omega) [] [] (fun i x h => by simp at h)
  simp only [List.nil_append, List.length_nil, Nat.zero_add] at a1 a3 a4
  obtain ⟨b1, b2⟩ := cp_inv _ _ _ _ _ a1 rfl
  simp only [List.map_nil, List.nil_append] at b1
  refine ⟨t, a1, a2, a3, b1, by simp only [List.length_cons, List.length_nil] at b2; omega, _, tr_bis hv a3, by omega, by omega, a4.symm⟩
end Go.Proofs.Ytkonloadedbpkaa.SpreadP

namespace Go.Proofs.Ytkonloadedbpkaa.Kept
open Go.RowKit Go.Maps Go.Proofs.Ytkonloadedbpkaa.Sep Go.Proofs.Ytkonloadedbpkaa.FMaps Go.Proofs.Ytkonloadedbpkaa.FoldPure Go.Proofs.Ytkonloadedbpkaa.FoldMem Go.Proofs.Ytkonloadedbpkaa.FoldRun Go.Proofs.Ytkonloadedbpkaa.NodesPure Go.Proofs.Ytkonloadedbpkaa.NodesMem Go.Proofs.Ytkonloadedbpkaa.NodesW Go.Proofs.Ytkonloadedbpkaa.FoldCount
open Go.Proofs.YtkonloadedbpkaaW.PrintWords
set_option linter.unusedVariables false

theorem sepF_append {N N2 M : Nat} {w : World} {rs : List Res} {fp : Nat → Prop} (h1 : SepF N w rs fp) (hf1 : ∀ k, fp k → k < M) (hN : N ≤ M) : ∀ (rs2 : List Res) (fp2 : Nat → Prop), SepF N2 w rs2 fp2 → (∀ k, fp2 k → M ≤ k) → SepF N w (rs2 ++ rs) (fun k => fp2 k ∨ fp k)
  | [], fp2, _, _ => SepF.mono h1 fun k hk => .inr hk
  | r :: rs2, fp2, h, hf => by
    obtain ⟨f, g, a1, a2, a3, a4, a5⟩ := h
    refine ⟨f, fun k => g k ∨ fp k, a1, sepF_append h1 hf1 hN rs2 g a2 (fun k hk => hf k (a5 k hk)), fun k hk hk2 => ?_, fun k hk => ⟨.inl (a4 k hk).1, ?_, (a4 k hk).2.2⟩, fun k hk => ?_⟩
    · rcases hk2 with hk2 | hk2
      · exact a3 k hk hk2
      · have := hf k (a4 k hk).1
        have := hf1 k hk2
        omega
    · have := hf k (a4 k hk).1
      omega
    · rcases hk with hk | hk
      · exact .inl (a5 k hk)
      · exact .inr hk
/-- What is made behind a world, beside what was there. -/
theorem sep_over {W w w' : World} {rs rs2 : List Res} (h1 : Sep W w rs) (h2 : Sep w w' rs2) : Sep W w' (rs2 ++ rs) := by
  obtain ⟨b1, fp, s1, f1⟩ := h1
  obtain ⟨b2, fp2, s2, f2⟩ := h2
  have hs := b1.size
  have hs2 := b2.size
  refine ⟨b1.trans (b2.mono hs), fun k => fp2 k ∨ fp k, sepF_append (M := w.heap.size) (s1.move (fun k hk => b2.block k (f1 k hk).2) hs2) (fun k hk => (f1 k hk).2) hs rs2 fp2 s2 (fun k hk => (f2 k hk).1), fun k hk => ?_⟩
  rcases hk with hk | hk
  · have := f2 k hk
    omega
  · have := f1 k hk
    omega
theorem read_hold {W w : World} {C : World → Prop} {rs : List Res} (h : Sep W w (readR W C :: rs)) : ∀ w', (∀ k, k < w.heap.size → w'.heap[k]? = w.heap[k]?) → C w' := by
  obtain ⟨f, hf, hb⟩ := h.head
  intro w' hw
  exact hf w' (fun k hk => (hw k (Nat.lt_of_lt_of_le hk h.1.size)).trans (h.1.block k hk)) (fun k hk hl => hw k hl)
def KeptOut (W : World) (l : List Nd) (ms : List ByteArray) (rs : List Res) (e : Ending) (w' : World) : Prop :=
  if 4000 < (codesL ms l).codes.length then e = .returned (.tuple #[.slice none 0 0, .slice none 0 0, .int .i64 104]) ∧ Sep W w' rs
  else ∃ lv cv, e = .returned (.tuple #[lv, cv, .int .i64 0]) ∧ Sep W w' (rowR 9 1 lv (namesL ms l).labels.length ((namesL ms l).labels.map Value.string) :: rowR 3 1 cv (codesL ms l).codes.length ((codesL ms l).codes.map num) :: rs)
theorem nodes_kept {W w : World} {rs : List Res} {A mA : Option Addr} {c mc : Nat} {l : List Nd} {ms : List ByteArray} {v0 v1 v3 v4 : Value} (M : Sep W w rs)
    (hN : ∀ w', (∀ k, k < w.heap.size → w'.heap[k]? = w.heap[k]?) → NodesC A l w') (hD : ∀ w', (∀ k, k < w.heap.size → w'.heap[k]? = w.heap[k]?) → MandC mA ms w')
    (h0 : 0 < l.length) (hl : l.length ≤ 4194304) (hv : Valid l) (he : (l.map (·.2.length)).sum ≤ 4194304) (hlab : ∀ x ∈ l, x.1.size ≤ maxLen) (hc : l.length ≤ c) (hms : ms.length ≤ 4194304) (hml : ∀ s ∈ ms, s.size ≤ maxLen) :
    Calls Try.prog 11 #[.agg #[v0, v1, .slice mA ms.length mc, v3, v4], .slice A l.length c] w (KeptOut W l ms rs) := by
  have hs := read_old (C := NodesC A l) (read_old (C := MandC mA ms) (Sep.start w) hD) hN
  refine (nodes_calls (c := c) (mc := mc) (v0 := v0) (v1 := v1) (v3 := v3) (v4 := v4) hs h0 hl hv he hlab hc hms hml (fine_of h0 hl hv he hlab)).mono ?_
  intro e w' h
  unfold NodesOut at h
  unfold KeptOut
  split
  · rename_i h4
    rw [if_pos h4] at h
    exact ⟨h.1, M.below h.2.1⟩
  · rename_i h4
    rw [if_neg h4] at h
    obtain ⟨lv, cv, e1, hm⟩ := h
    exact ⟨lv, cv, e1, sep_over M (((hm.pull 2 (by simp)).tail.pull 2 (by simp)).tail)⟩

set_option maxRecDepth 100000 in
set_option maxHeartbeats 4000000 in
theorem reached_empty (A : Option Addr) (c : Nat) (w : World) : Calls Try.prog 35 #[.slice A 0 c] w fun e w' => (∃ ov, e = .returned (.tuple #[ov, .bool false])) ∧ Below w.heap.size w w' := by
  go_enter Try.func35, Try.ntmps35
  go_wp2_with fail
  go_ret2
  exact ⟨⟨_, rfl⟩, Below.refl _ _⟩
set_option maxRecDepth 100000 in
set_option maxHeartbeats 4000000 in
theorem nodes_empty {W w : World} {rs : List Res} (hM : Sep W w rs) (mA A : Option Addr) (mn mc c : Nat) (v0 v1 v3 v4 : Value) : Calls Try.prog 11 #[.agg #[v0, v1, .slice mA mn mc, v3, v4], .slice A 0 c] w fun e w' => e = .returned (.tuple #[.slice none 0 0, .slice none 0 0, .int .i64 130]) ∧ Sep W w' rs := by
  have M := Aside0.mk (hM.alloc (.cells #[v0, v1, .slice mA mn mc, v3, v4] 35))
  clear hM
  go_enter Try.func11, Try.ntmps11
  go_wp2_with fail
  refine (reached_empty _ _ _).mono ?_
  rintro e w1 ⟨⟨ov, rfl⟩, hb⟩
  have M2 := Aside0.mk (M.out.below hb)
  clear hb M
  go_wp2_with fail
  go_ret3
  exact ⟨rfl, M2.out⟩
/-- What Nodes answers. -/
def ansN (ms : List ByteArray) (l : List Nd) : List ByteArray × List Int × Int :=
  if l.length = 0 then ([], [], 130) else if 4000 < (codesL ms l).codes.length then ([], [], 104) else ((namesL ms l).labels, (codesL ms l).codes, 0)
def AnsOut (W : World) (l : List Nd) (ms : List ByteArray) (rs : List Res) (e : Ending) (w' : World) : Prop :=
  ∃ lv cv, e = .returned (.tuple #[lv, cv, .int .i64 (ansN ms l).2.2]) ∧ Sep W w' (rowR 9 1 lv (ansN ms l).1.length ((ansN ms l).1.map Value.string) :: rowR 3 1 cv (ansN ms l).2.1.length ((ansN ms l).2.1.map num) :: rs)
theorem nodes_any {W w : World} {rs : List Res} {A mA : Option Addr} {c mc : Nat} {l : List Nd} {ms : List ByteArray} {v0 v1 v3 v4 : Value} (M : Sep W w rs)
    (hN : ∀ w', (∀ k, k < w.heap.size → w'.heap[k]? = w.heap[k]?) → NodesC A l w') (hD : ∀ w', (∀ k, k < w.heap.size → w'.heap[k]? = w.heap[k]?) → MandC mA ms w')
    (hl : l.length ≤ 4194304) (hv : Valid l) (he : (l.map (·.2.length)).sum ≤ 4194304) (hlab : ∀ x ∈ l, x.1.size ≤ maxLen) (hc : l.length ≤ c) (hms : ms.length ≤ 4194304) (hml : ∀ s ∈ ms, s.size ≤ maxLen) :
    Calls Try.prog 11 #[.agg #[v0, v1, .slice mA ms.length mc, v3, v4], .slice A l.length c] w (AnsOut W l ms rs) := by
  by_cases h0 : l.length = 0
  · rw [h0]
    refine (nodes_empty M mA A ms.length mc c v0 v1 v3 v4).mono ?_
    rintro e w' ⟨rfl, hm⟩
    unfold AnsOut ansN
    rw [if_pos h0]
    exact ⟨_, _, rfl, row_nil (row_nil hm 3 1) 9 1⟩
  · refine (nodes_kept (c := c) (mc := mc) (v0 := v0) (v1 := v1) (v3 := v3) (v4 := v4) M hN hD (by omega) hl hv he hlab hc hms hml).mono ?_
    intro e w' h
    unfold KeptOut at h
    unfold AnsOut ansN
    rw [if_neg h0]
    by_cases h4 : 4000 < (codesL ms l).codes.length
    · rw [if_pos h4] at h
      rw [if_pos h4]
      obtain ⟨rfl, hm⟩ := h
      exact ⟨_, _, rfl, row_nil (row_nil hm 3 1) 9 1⟩
    · rw [if_neg h4] at h
      rw [if_neg h4]
      exact h
theorem ans_small {l : List Nd} {ms : List ByteArray} (hl : l.length ≤ 4194304) (hv : Valid l) (he : (l.map (·.2.length)).sum ≤ 4194304) (hlab : ∀ x ∈ l, x.1.size ≤ maxLen) : (ansN ms l).1.length ≤ 4194304 ∧ (ansN ms l).2.1.length ≤ 4000 := by
  unfold ansN
  split
  · simp
  · rename_i h0
    split
    · simp
    · rename_i h4
      have h := fine_of (ms := ms) (by omega) hl hv he hlab
      exact ⟨h.names, Nat.le_of_not_lt h4⟩
end Go.Proofs.Ytkonloadedbpkaa.Kept
