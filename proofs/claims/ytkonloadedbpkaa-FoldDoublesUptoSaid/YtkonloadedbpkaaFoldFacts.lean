/- What Nodes makes: which nodes are gone through, the parts. -/
import Derived.Test.YtkonloadedbpkaaNodesPure
namespace Go.Proofs.Ytkonloadedbpkaa.FoldFacts
open Go.RowKit Go.Proofs.Ytkonloadedbpkaa.FoldPure Go.Proofs.Ytkonloadedbpkaa.FoldRun Go.Proofs.Ytkonloadedbpkaa.Gather Go.Proofs.Ytkonloadedbpkaa.Reached Go.Proofs.Ytkonloadedbpkaa.NodesPure
set_option linter.unusedVariables false

/-! ### which nodes the last one leads to -/
theorem true_lt {on : List Bool} {j : Nat} (h : on.getD j false = true) : j < on.length := by
  rcases Nat.lt_or_ge j on.length with h1 | h1
  · exact h1
  · rw [List.getD_eq_getElem?_getD, List.getElem?_eq_none h1] at h
    cases h
theorem mark_keeps {on : List Bool} {j : Nat} (ks : List Nat) (h : on.getD j false = true) : (markKids on ks).getD j false = true := by
  rw [mark_true _ _ _ (true_lt h), h]
  rfl
theorem down_keeps (l : List Nd) (i : Nat) : ∀ {on : List Bool} {j : Nat}, on.getD j false = true → (onDown l i on).getD j false = true := by
  induction i with
  | zero => intro on j h; exact h
  | succ i ih =>
    intro on j h
    unfold onDown
    refine ih ?_
    split
    · exact mark_keeps _ h
    · exact h
theorem mark_far {on : List Bool} {j : Nat} {ks : List Nat} (h : j ∉ ks) : (markKids on ks).getD j false = on.getD j false := by
  rcases Nat.lt_or_ge j on.length with h1 | h1
  · rw [mark_true _ _ _ h1]
    simp [h]
  · rw [List.getD_eq_getElem?_getD, List.getD_eq_getElem?_getD, List.getElem?_eq_none h1, List.getElem?_eq_none (by rw [mark_len]; exact h1)]
theorem kids_under {l : List Nd} (hv : Valid l) (i : Nat) {k : Nat} (hk : k ∈ (l.getD i (ByteArray.empty, [])).2) : k < i := by
  rw [List.getD_eq_getElem?_getD] at hk
  cases hx : l[i]? with
  | none => rw [hx] at hk; simp at hk
  | some x =>
    rw [hx] at hk
    exact hv i x hx k hk
theorem down_far {l : List Nd} (hv : Valid l) (i : Nat) : ∀ {on : List Bool} {j : Nat}, i ≤ j → (onDown l i on).getD j false = on.getD j false := by
  induction i with
  | zero => intro on j h; rfl
  | succ i ih =>
    intro on j h
    unfold onDown
    rw [ih (by omega)]
    split
    · exact mark_far fun hk => by have := kids_under hv i hk; omega
    · rfl
theorem down_closed {l : List Nd} (hv : Valid l) (i : Nat) : ∀ {on : List Bool} {j : Nat}, i ≤ on.length → j < i → (onDown l i on).getD j false = true → ∀ k ∈ (l.getD j (ByteArray.empty, [])).2, (onDown l i on).getD k false = true := by
  induction i with
  | zero => intro on j _ h; omega
  | succ i ih =>
    intro on j hl hj h k hk
    unfold onDown at h ⊢
    by_cases e : j = i
    · subst e
      rw [down_far hv j (Nat.le_refl _)] at h
      have hon : on.getD j false = true := by
        split at h
        · assumption
        · exact h
      rw [if_pos hon]
      refine down_keeps l j ?_
      have := kids_under hv j hk
      rw [mark_true _ _ _ (by omega), decide_eq_true hk, Bool.or_true]
    · refine ih ?_ (by omega) h k hk
      split
      · rw [mark_len]; omega
      · omega
/-- What is on: its kids are on. -/
theorem on_closed {l : List Nd} (hv : Valid l) {j : Nat} (hj : j < l.length) (h : (onT l).getD j false = true) : ∀ k ∈ l[j].2, (onT l).getD k false = true := by
  intro k hk
  unfold onT at h ⊢
  refine down_closed hv l.length (by simp) hj h k ?_
  rw [List.getD_eq_getElem?_getD, List.getElem?_eq_getElem hj]
  exact hk
theorem on_root {l : List Nd} (h0 : 0 < l.length) : (onT l).getD (l.length - 1) false = true := by
  refine down_keeps l l.length ?_
  rw [List.getD_eq_getElem?_getD, List.getElem?_set_self (by simp; omega)]
  rfl

/-! ### the parts -/
theorem bumpAll_at (ks : List Nat) : ∀ (P : List Part) (n : Nat), (bumpAll P ks)[n]? = P[n]?.map (fun q => { q with places := q.places + ks.count n }) := by
  induction ks with
  | nil => intro P n; simp [bumpAll]
  | cons k ks ih =>
    intro P n
    show (bumpAll (P.modify k bump) ks)[n]? = _
    rw [ih, List.getElem?_modify]
    cases P[n]? with
    | none => rfl
    | some q =>
      by_cases e : k = n
      · subst e
        simp [bump]
        omega
      · simp [e]
theorem kids_core {P Q : List Part} (h : P.map core = Q.map core) : P.map Part.kids = Q.map Part.kids := by
  have := congrArg (List.map Prod.snd) h
  rw [List.map_map, List.map_map] at this
  exact this
structure GF (l : List Nd) (on : List Bool) (i : Nat) (P : List Part) (num : List Nat) : Prop where
  len : num.length = l.length
  few : P.length ≤ i
  strict : ∀ (j : Nat) (q : Part), P[j]? = some q → ∀ k ∈ q.kids, k < j
  here : ∀ (j : Nat) (hj : j < l.length), j < i → on.getD j false = true → ∃ q, P[num.getD j 0]? = some q ∧ core q = (l[j].1, l[j].2.map (num.getD · 0))
  nodup : (P.map core).Nodup
  labs : ∀ q ∈ P, ∃ x ∈ l, q.label = x.1 ∧ q.kids.length = x.2.length
  sum : ((P.map Part.kids).map List.length).sum ≤ edges l i
  places : ∀ (n : Nat) (q : Part), P[n]? = some q → q.places = ((P.map Part.kids).map (List.count n)).sum
theorem set_ne {xs : List Nat} {i n k : Nat} (h : k ≠ i) : (xs.set i n).getD k 0 = xs.getD k 0 := by
  rw [List.getD_eq_getElem?_getD, List.getD_eq_getElem?_getD, List.getElem?_set_ne (Ne.symm h)]
theorem set_same {xs : List Nat} {i n : Nat} (h : i < xs.length) : (xs.set i n).getD i 0 = n := by
  rw [List.getD_eq_getElem?_getD, List.getElem?_set_self h]
  rfl
theorem gf_zero (l : List Nd) (on : List Bool) : GF l on 0 [] (List.replicate l.length 0) :=
  ⟨by simp, by simp, fun j q h => by simp at h, fun j hj h => by omega, by simp, fun q hq => by simp at hq, by simp, fun n q h => by simp at h⟩
theorem gf_off {l : List Nd} {on : List Bool} {i : Nat} {P : List Part} {num : List Nat} (h : GF l on i P num) (hlt : i < l.length) (hov : on.getD i false = false) : GF l on (i + 1) P num :=
  ⟨h.len, by have := h.few; omega, h.strict, fun j hj hi ho => h.here j hj (by
    rcases Nat.lt_or_ge j i with h1 | h1
    · exact h1
    · have : j = i := by omega
      subst this
      rw [hov] at ho
      cases ho) ho, h.nodup, h.labs, Nat.le_trans h.sum (edges_up l i), h.places⟩
theorem ks_lt {l : List Nd} {on : List Bool} {i : Nat} {P : List Part} {num : List Nat} (h : GF l on i P num) (hv : Valid l) (hcl : ∀ j (hj : j < l.length), on.getD j false = true → ∀ k ∈ l[j].2, on.getD k false = true) (hlt : i < l.length) (hov : on.getD i false = true) :
    ∀ n ∈ l[i].2.map (num.getD · 0), n < P.length := by
  intro n hn
  obtain ⟨k, hk, rfl⟩ := List.mem_map.1 hn
  have h1 := hv i l[i] (List.getElem?_eq_getElem hlt) k hk
  obtain ⟨q, hq, _⟩ := h.here k (by omega) h1 (hcl i hlt hov k hk)
  exact (List.getElem?_eq_some_iff.1 hq).1
theorem gf_old {l : List Nd} {on : List Bool} {i : Nat} {P : List Part} {num : List Nat} (h : GF l on i P num) (hv : Valid l) (hlt : i < l.length) {n : Nat} (hf : findPart P l[i].1 (l[i].2.map (num.getD · 0)) = some n) : GF l on (i + 1) P (num.set i n) := by
  refine ⟨by simpa using h.len, by have := h.few; omega, h.strict, fun j hj hi ho => ?_, h.nodup, h.labs, Nat.le_trans h.sum (edges_up l i), h.places⟩
  have hm : l[j].2.map ((num.set i n).getD · 0) = l[j].2.map (num.getD · 0) := by
    refine List.map_congr_left fun k hk => set_ne ?_
    have := hv j l[j] (List.getElem?_eq_getElem hj) k hk
    omega
  rw [hm]
  by_cases e : j = i
  · subst e
    rw [set_same (by rw [h.len]; exact hj)]
    have := ix_some hf
    rw [List.getElem?_map] at this
    exact Option.map_eq_some_iff.1 this
  · rw [set_ne e]
    exact h.here j hj (by omega) ho
theorem gf_new {l : List Nd} {on : List Bool} {i : Nat} {P : List Part} {num : List Nat} (h : GF l on i P num) (hv : Valid l) (hlt : i < l.length) (hks : ∀ n ∈ l[i].2.map (num.getD · 0), n < P.length) (hf : findPart P l[i].1 (l[i].2.map (num.getD · 0)) = none) :
    GF l on (i + 1) (bumpAll (P ++ [⟨l[i].1, l[i].2.map (num.getD · 0), 0⟩]) (l[i].2.map (num.getD · 0))) (num.set i P.length) := by
  have hlen : (l[i].2.map (num.getD · 0)).length = l[i].2.length := by simp
  have hkidx : ∀ j (hj : j < l.length), j ≤ i → l[j].2.map ((num.set i P.length).getD · 0) = l[j].2.map (num.getD · 0) := fun j hj hji =>
    List.map_congr_left fun k hk => set_ne (by
      have := hv j l[j] (List.getElem?_eq_getElem hj) k hk
      omega)
  generalize hks2 : l[i].2.map (num.getD · 0) = ks at hks hf hlen ⊢
  have hcore : (bumpAll (P ++ [⟨l[i].1, ks, 0⟩]) ks).map core = P.map core ++ [(l[i].1, ks)] := by
    rw [bumpAll_core, List.map_append]
    rfl
  have hkids : (bumpAll (P ++ [⟨l[i].1, ks, 0⟩]) ks).map Part.kids = P.map Part.kids ++ [ks] := by
    rw [kids_core (bumpAll_core ks _), List.map_append]
    rfl
  have hat : ∀ n q, (bumpAll (P ++ [⟨l[i].1, ks, 0⟩]) ks)[n]? = some q → (∃ r, P[n]? = some r ∧ core q = core r ∧ q.places = r.places + ks.count n) ∨ (n = P.length ∧ core q = (l[i].1, ks) ∧ q.places = ks.count n) := by
    intro n q hq
    rw [bumpAll_at] at hq
    obtain ⟨r, hr, rfl⟩ := Option.map_eq_some_iff.1 hq
    rcases Nat.lt_or_ge n P.length with h1 | h1
    · rw [List.getElem?_append_left h1] at hr
      exact .inl ⟨r, hr, rfl, rfl⟩
    · have h2 := (List.getElem?_eq_some_iff.1 hr).1
      have h3 : n = P.length := by simp at h2; omega
      subst h3
      simp at hr
      subst hr
      exact .inr ⟨rfl, rfl, by simp⟩
  have hnew : (l[i].1, ks) ∉ P.map core := ix_none.1 hf
  refine ⟨by simpa using h.len, ?_, fun j q hq k hk => ?_, fun j hj hi ho => ?_, ?_, fun q hq => ?_, ?_, fun n q hq => ?_⟩
  · rw [bumpAll_length, List.length_append, List.length_singleton]
    have := h.few
    omega
  · rcases hat j q hq with ⟨r, hr, hc, _⟩ | ⟨e, hc, _⟩
    · rw [show q.kids = r.kids from congrArg Prod.snd hc] at hk
      exact h.strict j r hr k hk
    · rw [show q.kids = ks from congrArg Prod.snd hc] at hk
      have := hks k hk
      omega
  · rw [hkidx j hj (by omega)]
    by_cases e : j = i
    · subst e
      rw [set_same (by rw [h.len]; exact hj), hks2, bumpAll_at]
      simp [core]
    · rw [set_ne e]
      obtain ⟨q, hq, hc⟩ := h.here j hj (by omega) ho
      have hlt2 := (List.getElem?_eq_some_iff.1 hq).1
      rw [bumpAll_at, List.getElem?_append_left hlt2, hq]
      exact ⟨_, rfl, hc⟩
  · rw [hcore]
    exact nodup_snoc h.nodup hnew
  · obtain ⟨n, hn⟩ := List.mem_iff_getElem?.1 hq
    rcases hat n q hn with ⟨r, hr, hc, _⟩ | ⟨e, hc, _⟩
    · obtain ⟨x, hx, h1, h2⟩ := h.labs r (List.mem_of_getElem? hr)
      have e1 : q.label = r.label := congrArg Prod.fst hc
      have e2 : q.kids = r.kids := congrArg Prod.snd hc
      exact ⟨x, hx, by rw [e1, h1], by rw [e2, h2]⟩
    · have e1 : q.label = l[i].1 := congrArg Prod.fst hc
      have e2 : q.kids = ks := congrArg Prod.snd hc
      exact ⟨l[i], List.getElem_mem hlt, e1, by rw [e2, hlen]⟩
  · rw [hkids, List.map_append, List.sum_append, edges_succ hlt]
    simp only [List.map_cons, List.map_nil, List.sum_cons, List.sum_nil, hlen]
    have := h.sum
    omega
  · rw [hkids, List.map_append, List.sum_append]
    simp only [List.map_cons, List.map_nil, List.sum_cons, List.sum_nil, Nat.add_zero]
    rcases hat n q hq with ⟨r, hr, _, hp⟩ | ⟨e, _, hp⟩
    · rw [hp, h.places n r hr]
    · subst e
      rw [hp]
      have hz : ((P.map Part.kids).map (List.count P.length)).sum = 0 := by
        rw [List.sum_eq_zero_iff_forall_eq_nat]
        intro c hc
        obtain ⟨kk, hkk, rfl⟩ := List.mem_map.1 hc
        obtain ⟨r, hr, rfl⟩ := List.mem_map.1 hkk
        obtain ⟨m, hm⟩ := List.mem_iff_getElem?.1 hr
        refine List.count_eq_zero.2 fun hin => ?_
        have h1 := h.strict m r hm _ hin
        have h2 := (List.getElem?_eq_some_iff.1 hm).1
        omega
      rw [hz]
      simp
theorem gf_all {l : List Nd} {on : List Bool} (hv : Valid l) (hcl : ∀ j (hj : j < l.length), on.getD j false = true → ∀ k ∈ l[j].2, on.getD k false = true) : ∀ i, i ≤ l.length → GF l on i (gatherTo l on i).1 (gatherTo l on i).2 := by
  intro i
  induction i with
  | zero => intro _; exact gf_zero l on
  | succ i ih =>
    intro hi
    have hlt : i < l.length := by omega
    have h := ih (by omega)
    cases hov : on.getD i false with
    | false =>
      rw [gather_off hlt hov]
      exact gf_off h hlt hov
    | true =>
      have e : gatherTo l on (i + 1) = gStep on (gatherTo l on i) i l[i] := by
        rw [gatherTo, List.getElem?_eq_getElem hlt]
      rw [e]
      unfold gStep
      rw [if_pos hov]
      unfold place
      cases hf : findPart (gatherTo l on i).1 l[i].1 (l[i].2.map ((gatherTo l on i).2.getD · 0)) with
      | some n => exact gf_old h hv hlt hf
      | none => exact gf_new h hv hlt (ks_lt h hv hcl hlt hov) hf
theorem gf_on {l : List Nd} (hv : Valid l) : GF l (onT l) l.length (partsL l) (gatherTo l (onT l) l.length).2 := gf_all hv (fun j hj h => on_closed hv hj h) l.length (Nat.le_refl _)
end Go.Proofs.Ytkonloadedbpkaa.FoldFacts
