/- FoldAll. -/
import Derived.Test.YtkonloadedbpkaaY1
namespace Go.Proofs.Ytkonloadedbpkaa.FoldFacts
open Go.RowKit Go.Proofs.Ytkonloadedbpkaa.FoldPure Go.Proofs.Ytkonloadedbpkaa.FoldRun Go.Proofs.Ytkonloadedbpkaa.Gather Go.Proofs.Ytkonloadedbpkaa.Reached Go.Proofs.Ytkonloadedbpkaa.NodesPure
set_option linter.unusedVariables false

/-! ### which nodes the last one leads to -/
theorem true_lt {on : List Bool} {j : Nat} (h : on.getD j false = true) : j < on.length := by
  rcases Nat.lt_or_ge j on.length with h1 | h1
  · exact h1
  · rw [List.getD_eq_getElem?_getD, List.getElem?_eq_none h1] at h
    cases h
theorem mark_keeps {on : List Bool} {j : Nat} (ks : List Nat) (h : on.getD j false = true) : (markKids on ks).getD j false = true := by
  rw [mark_true _ _ _ (true_lt h), h]
  rfl
theorem down_keeps (l : List Nd) (i : Nat) : ∀ {on : List Bool} {j : Nat}, on.getD j false = true → (onDown l i on).getD j false = true := by
  induction i with
  | zero => intro on j h; exact h
  | succ i ih =>
    intro on j h
    unfold onDown
    refine ih ?_
    split
    · exact mark_keeps _ h
    · exact h
theorem mark_far {on : List Bool} {j : Nat} {ks : List Nat} (h : j ∉ ks) : (markKids on ks).getD j false = on.getD j false := by
  rcases Nat.lt_or_ge j on.length with h1 | h1
  · rw [mark_true _ _ _ h1]
    simp [h]
  · rw [List.getD_eq_getElem?_getD, List.getD_eq_getElem?_getD, List.getElem?_eq_none h1, List.getElem?_eq_none (by rw [mark_len]; exact h1)]
theorem kids_under {l : List Nd} (hv : Valid l) (i : Nat) {k : Nat} (hk : k ∈ (l.getD i (ByteArray.empty, [])).2) : k < i := by
  rw [List.getD_eq_getElem?_getD] at hk
  cases hx : l[i]? with
  | none => rw [hx] at hk; simp at hk
  | some x =>
    rw [hx] at hk
    exact hv i x hx k hk
theorem down_far {l : List Nd} (hv : Valid l) (i : Nat) : ∀ {on : List Bool} {j : Nat}, i ≤ j → (onDown l i on).getD j false = on.getD j false := by
  induction i with
  | zero => intro on j h; rfl
  | succ i ih =>
    intro on j h
    unfold onDown
    rw [ih (by omega)]
    split
    · exact mark_far fun hk => by have := kids_under hv i hk; omega
    · rfl
theorem down_closed {l : List Nd} (hv : Valid l) (i : Nat) : ∀ {on : List Bool} {j : Nat}, i ≤ on.length → j < i → (onDown l i on).getD j false = true → ∀ k ∈ (l.getD j (ByteArray.empty, [])).2, (onDown l i on).getD k false = true := by
  induction i with
  | zero => intro on j _ h; omega
  | succ i ih =>
    intro on j hl hj h k hk
    unfold onDown at h ⊢
    by_cases e : j = i
    · subst e
      rw [down_far hv j (Nat.le_refl _)] at h
      have hon : on.getD j false = true := by
        split at h
        · assumption
        · exact h
      rw [if_pos hon]
      refine down_keeps l j ?_
      have := kids_under hv j hk
      rw [mark_true _ _ _ (by omega), decide_eq_true hk, Bool.or_true]
    · refine ih ?_ (by omega) h k hk
      split
      · rw [mark_len]; omega
      · omega
/-- What is on: its kids are on. -/
theorem on_closed {l : List Nd} (hv : Valid l) {j : Nat} (hj : j < l.length) (h : (onT l).getD j false = true) : ∀ k ∈ l[j].2, (onT l).getD k false = true := by
  intro k hk
  unfold onT at h ⊢
  refine down_closed hv l.length (by simp) hj h k ?_
  rw [List.getD_eq_getElem?_getD, List.getElem?_eq_getElem hj]
  exact hk
theorem on_root {l : List Nd} (h0 : 0 < l.length) : (onT l).getD (l.length - 1) false = true := by
  refine down_keeps l l.length ?_
  rw [List.getD_eq_getElem?_getD, List.getElem?_set_self (by simp; omega)]
  rfl

/-! ### the parts -/
theorem bumpAll_at (ks : List Nat) : ∀ (P : List Part) (n : Nat), (bumpAll P ks)[n]? = P[n]?.map (fun q => { q with places := q.places + ks.count n }) := by
  induction ks with
  | nil => intro P n; simp [bumpAll]
  | cons k ks ih =>
    intro P n
    show (bumpAll (P.modify k bump) ks)[n]? = _
    rw [ih, List.getElem?_modify]
    cases P[n]? with
    | none => rfl
    | some q =>
      by_cases e : k = n
      · subst e
        simp [bump]
        omega
      · simp [e]
theorem kids_core {P Q : List Part} (h : P.map core = Q.map core) : P.map Part.kids = Q.map Part.kids := by
  have := congrArg (List.map Prod.snd) h
  rw [List.map_map, List.map_map] at this
  exact this
structure GF (l : List Nd) (on : List Bool) (i : Nat) (P : List Part) (num : List Nat) : Prop where
  len : num.length = l.length
  few : P.length ≤ i
  strict : ∀ (j : Nat) (q : Part), P[j]? = some q → ∀ k ∈ q.kids, k < j
  here : ∀ (j : Nat) (hj : j < l.length), j < i → on.getD j false = true → ∃ q, P[num.getD j 0]? = some q ∧ core q = (l[j].1, l[j].2.map (num.getD · 0))
  nodup : (P.map core).Nodup
  labs : ∀ q ∈ P, ∃ x ∈ l, q.label = x.1 ∧ q.kids.length = x.2.length
  sum : ((P.map Part.kids).map List.length).sum ≤ edges l i
  places : ∀ (n : Nat) (q : Part), P[n]? = some q → q.places = ((P.map Part.kids).map (List.count n)).sum
theorem set_ne {xs : List Nat} {i n k : Nat} (h : k ≠ i) : (xs.set i n).getD k 0 = xs.getD k 0 := by
  rw [List.getD_eq_getElem?_getD, List.getD_eq_getElem?_getD, List.getElem?_set_ne (Ne.symm h)]
theorem set_same {xs : List Nat} {i n : Nat} (h : i < xs.length) : (xs.set i n).getD i 0 = n := by
  rw [List.getD_eq_getElem?_getD, List.getElem?_set_self h]
  rfl
theorem gf_zero (l : List Nd) (on : List Bool) : GF l on 0 [] (List.replicate l.length 0) :=
  ⟨by simp, by simp, fun j q h => by simp at h, fun j hj h => by omega, by simp, fun q hq => by simp at hq, by simp, fun n q h => by simp at h⟩
theorem gf_off {l : List Nd} {on : List Bool} {i : Nat} {P : List Part} {num : List Nat} (h : GF l on i P num) (hlt : i < l.length) (hov : on.getD i false = false) : GF l on (i + 1) P num :=
  ⟨h.len, by have := h.few; omega, h.strict, fun j hj hi ho => h.here j hj (by
    rcases Nat.lt_or_ge j i with h1 | h1
    · exact h1
    · have : j = i := by omega
      subst this
      rw [hov] at ho
      cases ho) ho, h.nodup, h.labs, Nat.le_trans h.sum (edges_up l i), h.places⟩
theorem ks_lt {l : List Nd} {on : List Bool} {i : Nat} {P : List Part} {num : List Nat} (h : GF l on i P num) (hv : Valid l) (hcl : ∀ j (hj : j < l.length), on.getD j false = true → ∀ k ∈ l[j].2, on.getD k false = true) (hlt : i < l.length) (hov : on.getD i false = true) :
    ∀ n ∈ l[i].2.map (num.getD · 0), n < P.length := by
  intro n hn
  obtain ⟨k, hk, rfl⟩ := List.mem_map.1 hn
  have h1 := hv i l[i] (List.getElem?_eq_getElem hlt) k hk
  obtain ⟨q, hq, _⟩ := h.here k (by omega) h1 (hcl i hlt hov k hk)
  exact (List.getElem?_eq_some_iff.1 hq).1
theorem gf_old {l : List Nd} {on : List Bool} {i : Nat} {P : List Part} {num : List Nat} (h : GF l on i P num) (hv : Valid l) (hlt : i < l.length) {n : Nat} (hf : findPart P l[i].1 (l[i].2.map (num.getD · 0)) = some n) : GF l on (i + 1) P (num.set i n) := by
  refine ⟨by simpa using h.len, by have := h.few; omega, h.strict, fun j hj hi ho => ?_, h.nodup, h.labs, Nat.le_trans h.sum (edges_up l i), h.places⟩
  have hm : l[j].2.map ((num.set i n).getD · 0) = l[j].2.map (num.getD · 0) := by
    refine List.map_congr_left fun k hk => set_ne ?_
    have := hv j l[j] (List.getElem?_eq_getElem hj) k hk
    omega
  rw [hm]
  by_cases e : j = i
  · subst e
    rw [set_same (by rw [h.len]; exact hj)]
    have := ix_some hf
    rw [List.getElem?_map] at this
    exact Option.map_eq_some_iff.1 this
  · rw [set_ne e]
    exact h.here j hj (by omega) ho
theorem gf_new {l : List Nd} {on : List Bool} {i : Nat} {P : List Part} {num : List Nat} (h : GF l on i P num) (hv : Valid l) (hlt : i < l.length) (hks : ∀ n ∈ l[i].2.map (num.getD · 0), n < P.length) (hf : findPart P l[i].1 (l[i].2.map (num.getD · 0)) = none) :
    GF l on (i + 1) (bumpAll (P ++ [⟨l[i].1, l[i].2.map (num.getD · 0), 0⟩]) (l[i].2.map (num.getD · 0))) (num.set i P.length) := by
  have hlen : (l[i].2.map (num.getD · 0)).length = l[i].2.length := by simp
  have hkidx : ∀ j (hj : j < l.length), j ≤ i → l[j].2.map ((num.set i P.length).getD · 0) = l[j].2.map (num.getD · 0) := fun j hj hji =>
    List.map_congr_left fun k hk => set_ne (by
      have := hv j l[j] (List.getElem?_eq_getElem hj) k hk
      omega)
  generalize hks2 : l[i].2.map (num.getD · 0) = ks at hks hf hlen ⊢
  have hcore : (bumpAll (P ++ [⟨l[i].1, ks, 0⟩]) ks).map core = P.map core ++ [(l[i].1, ks)] := by
    rw [bumpAll_core, List.map_append]
    rfl
  have hkids : (bumpAll (P ++ [⟨l[i].1, ks, 0⟩]) ks).map Part.kids = P.map Part.kids ++ [ks] := by
    rw [kids_core (bumpAll_core ks _), List.map_append]
    rfl
  have hat : ∀ n q, (bumpAll (P ++ [⟨l[i].1, ks, 0⟩]) ks)[n]? = some q → (∃ r, P[n]? = some r ∧ core q = core r ∧ q.places = r.places + ks.count n) ∨ (n = P.length ∧ core q = (l[i].1, ks) ∧ q.places = ks.count n) := by
    intro n q hq
    rw [bumpAll_at] at hq
    obtain ⟨r, hr, rfl⟩ := Option.map_eq_some_iff.1 hq
    rcases Nat.lt_or_ge n P.length with h1 | h1
    · rw [List.getElem?_append_left h1] at hr
      exact .inl ⟨r, hr, rfl, rfl⟩
    · have h2 := (List.getElem?_eq_some_iff.1 hr).1
      have h3 : n = P.length := by simp at h2; omega
      subst h3
      simp at hr
      subst hr
      exact .inr ⟨rfl, rfl, by simp⟩
  have hnew : (l[i].1, ks) ∉ P.map core := ix_none.1 hf
  refine ⟨by simpa using h.len, ?_, fun j q hq k hk => ?_, fun j hj hi ho => ?_, ?_, fun q hq => ?_, ?_, fun n q hq => ?_⟩
  · rw [bumpAll_length, List.length_append, List.length_singleton]
    have := h.few
    omega
  · rcases hat j q hq with ⟨r, hr, hc, _⟩ | ⟨e, hc, _⟩
    · rw [show q.kids = r.kids from congrArg Prod.snd hc] at hk
      exact h.strict j r hr k hk
    · rw [show q.kids = ks from congrArg Prod.snd hc] at hk
      have := hks k hk
      omega
  · rw [hkidx j hj (by omega)]
    by_cases e : j = i
    · subst e
      rw [set_same (by rw [h.len]; exact hj), hks2, bumpAll_at]
      simp [core]
    · rw [set_ne e]
      obtain ⟨q, hq, hc⟩ := h.here j hj (by omega) ho
      have hlt2 := (List.getElem?_eq_some_iff.1 hq).1
      rw [bumpAll_at, List.getElem?_append_left hlt2, hq]
      exact ⟨_, rfl, hc⟩
  · rw [hcore]
    exact nodup_snoc h.nodup hnew
  · obtain ⟨n, hn⟩ := List.mem_iff_getElem?.1 hq
    rcases hat n q hn with ⟨r, hr, hc, _⟩ | ⟨e, hc, _⟩
    · obtain ⟨x, hx, h1, h2⟩ := h.labs r (List.mem_of_getElem? hr)
      have e1 : q.label = r.label := congrArg Prod.fst hc
      have e2 : q.kids = r.kids := congrArg Prod.snd hc
      exact ⟨x, hx, by rw [e1, h1], by rw [e2, h2]⟩
    · have e1 : q.label = l[i].1 := congrArg Prod.fst hc
      have e2 : q.kids = ks := congrArg Prod.snd hc
      exact ⟨l[i], List.getElem_mem hlt, e1, by rw [e2, hlen]⟩
  · rw [hkids, List.map_append, List.sum_append, edges_succ hlt]
    simp only [List.map_cons, List.map_nil, List.sum_cons, List.sum_nil, hlen]
    have := h.sum
    omega
  · rw [hkids, List.map_append, List.sum_append]
    simp only [List.map_cons, List.map_nil, List.sum_cons, List.sum_nil, Nat.add_zero]
    rcases hat n q hq with ⟨r, hr, _, hp⟩ | ⟨e, _, hp⟩
    · rw [hp, h.places n r hr]
    · subst e
      rw [hp]
      have hz : ((P.map Part.kids).map (List.count P.length)).sum = 0 := by
        rw [List.sum_eq_zero_iff_forall_eq_nat]
        intro c hc
        obtain ⟨kk, hkk, rfl⟩ := List.mem_map.1 hc
        obtain ⟨r, hr, rfl⟩ := List.mem_map.1 hkk
        obtain ⟨m, hm⟩ := List.mem_iff_getElem?.1 hr
        refine List.count_eq_zero.2 fun hin => ?_
        have h1 := h.strict m r hm _ hin
        have h2 := (List.getElem?_eq_some_iff.1 hm).1
        omega
      rw [hz]
      simp
theorem gf_all {l : List Nd} {on : List Bool} (hv : Valid l) (hcl : ∀ j (hj : j < l.length), on.getD j false = true → ∀ k ∈ l[j].2, on.getD k false = true) : ∀ i, i ≤ l.length → GF l on i (gatherTo l on i).1 (gatherTo l on i).2 := by
  intro i
  induction i with
  | zero => intro _; exact gf_zero l on
  | succ i ih =>
    intro hi
    have hlt : i < l.length := by omega
    have h := ih (by omega)
    cases hov : on.getD i false with
    | false =>
      rw [gather_off hlt hov]
      exact gf_off h hlt hov
    | true =>
      have e : gatherTo l on (i + 1) = gStep on (gatherTo l on i) i l[i] := by
        rw [gatherTo, List.getElem?_eq_getElem hlt]
      rw [e]
      unfold gStep
      rw [if_pos hov]
      unfold place
      cases hf : findPart (gatherTo l on i).1 l[i].1 (l[i].2.map ((gatherTo l on i).2.getD · 0)) with
      | some n => exact gf_old h hv hlt hf
      | none => exact gf_new h hv hlt (ks_lt h hv hcl hlt hov) hf
theorem gf_on {l : List Nd} (hv : Valid l) : GF l (onT l) l.length (partsL l) (gatherTo l (onT l) l.length).2 := gf_all hv (fun j hj h => on_closed hv hj h) l.length (Nat.le_refl _)
end Go.Proofs.Ytkonloadedbpkaa.FoldFacts

namespace Go.Proofs.Ytkonloadedbpkaa.FoldCount
open Go.RowKit Go.Proofs.Ytkonloadedbpkaa.FoldPure Go.Proofs.Ytkonloadedbpkaa.FoldRun Go.Proofs.Ytkonloadedbpkaa.Gather Go.Proofs.Ytkonloadedbpkaa.Reached Go.Proofs.Ytkonloadedbpkaa.NodesPure Go.Proofs.Ytkonloadedbpkaa.FoldFacts
set_option linter.unusedVariables false
set_option linter.unusedSimpArgs false

def StrictP (P : List Part) : Prop := ∀ (j : Nat) (q : Part), P[j]? = some q → ∀ k ∈ q.kids, k < j
theorem strict_of {P : List Part} (h : StrictP P) {n k : Nat} (hk : k ∈ (partOf P n).kids) : k < n ∧ n < P.length := by
  unfold partOf at hk
  rw [List.getD_eq_getElem?_getD] at hk
  cases hq : P[n]? with
  | none => rw [hq] at hk; simp at hk
  | some q =>
    rw [hq] at hk
    exact ⟨h n q hq k hk, (List.getElem?_eq_some_iff.1 hq).1⟩

/-! ### names -/
theorem name_count {P : List Part} (hS : StrictP P) (first : Nat) : ∀ (k n : Nat) (s : NS), n < s.seen.length → (nameT P first k n s).labels.length + s.seen.count true ≤ s.labels.length + (nameT P first k n s).seen.count true := by
  intro k
  induction k with
  | zero => intro n s _; exact Nat.le_refl _
  | succ k ih =>
    intro n s hn
    unfold nameT
    split
    · omega
    · rename_i hseen
      have hf : s.seen[n] = false := by
        rw [List.getD_eq_getElem?_getD, List.getElem?_eq_getElem hn] at hseen
        simpa using hseen
      have hc : (s.seen.set n true).count true = s.seen.count true + 1 := by
        rw [List.count_set hn, hf]
        simp
      have hfold : ∀ (ks : List Nat) (s1 : NS), (∀ j ∈ ks, j < s1.seen.length) → (ks.foldl (fun s j => nameT P first k j s) s1).labels.length + s1.seen.count true ≤ s1.labels.length + (ks.foldl (fun s j => nameT P first k j s) s1).seen.count true := by
        intro ks
        induction ks with
        | nil => intro s1 _; exact Nat.le_refl _
        | cons j ks ihk =>
          intro s1 h1
          have h2 := ih j s1 (h1 j (by simp))
          have h3 := ihk (nameT P first k j s1) (fun x hx => by rw [nameT_len]; exact h1 x (by simp [hx]))
          simp only [List.foldl_cons]
          omega
      have h4 := hfold (partOf P n).kids { s with seen := s.seen.set n true } (fun j hj => by
        have := strict_of hS hj
        simp only [List.length_set]
        omega)
      simp only at h4
      rw [nameLabel_seen]
      unfold nameLabel
      split
      · omega
      · simp only [List.length_append, List.length_singleton]
        omega

/-! ### codes: what is called, what is gone through -/
structure TS where
  w : WS
  ex : List Nat
  ca : List Nat
def traceT (P : List Part) (at_ : ByteArray → Nat) (base : Nat) : Nat → Nat → TS → TS
  | 0, _, t => t
  | k + 1, n, t => if 0 ≤ t.w.nums.getD n (-1) then ⟨{ t.w with codes := t.w.codes ++ [(base : Int) + t.w.nums.getD n (-1)] }, t.ex, t.ca ++ [n]⟩ else
    ⟨writeEnd at_ (partOf P n) n ((partOf P n).kids.foldl (fun t j => traceT P at_ base k j t) ⟨t.w, t.ex ++ [n], t.ca ++ [n]⟩).w,
      ((partOf P n).kids.foldl (fun t j => traceT P at_ base k j t) ⟨t.w, t.ex ++ [n], t.ca ++ [n]⟩).ex, ((partOf P n).kids.foldl (fun t j => traceT P at_ base k j t) ⟨t.w, t.ex ++ [n], t.ca ++ [n]⟩).ca⟩
theorem trace_w (P : List Part) (at_ : ByteArray → Nat) (base : Nat) : ∀ (k n : Nat) (t : TS), (traceT P at_ base k n t).w = writeT P at_ base k n t.w := by
  intro k
  induction k with
  | zero => intro n t; rfl
  | succ k ih =>
    intro n t
    have hf : ∀ (ks : List Nat) (t : TS), (ks.foldl (fun t j => traceT P at_ base k j t) t).w = ks.foldl (fun s j => writeT P at_ base k j s) t.w := by
      intro ks
      induction ks with
      | nil => intro t; rfl
      | cons j ks ihk =>
        intro t
        simp only [List.foldl_cons]
        rw [ihk, ih]
    unfold traceT writeT
    split
    · rfl
    · simp only [hf]
/-- What a call adds. -/
structure Adds (P : List Part) (hs : List Nat) (t t' : TS) (e c : List Nat) : Prop where
  ex : t'.ex = t.ex ++ e
  ca : t'.ca = t.ca ++ c
  count : ∀ x, c.count x = hs.count x + (e.map (fun m => (partOf P m).kids.count x)).sum
  len : c.length = hs.length + (e.map (fun m => (partOf P m).kids.length)).sum
  codes : t'.w.codes.length ≤ t.w.codes.length + 2 * c.length
  sub : ∀ x, e.count x ≤ c.count x
  low : ∀ x ∈ c, ∃ h ∈ hs, x ≤ h
theorem adds_nil (P : List Part) (t : TS) : Adds P [] t t [] [] := ⟨by simp, by simp, by simp, by simp, by simp, by simp, by simp⟩
theorem adds_more {P : List Part} {h1 h2 e1 e2 c1 c2 : List Nat} {t t1 t2 : TS} (a : Adds P h1 t t1 e1 c1) (b : Adds P h2 t1 t2 e2 c2) : Adds P (h1 ++ h2) t t2 (e1 ++ e2) (c1 ++ c2) := by
  refine ⟨by rw [b.ex, a.ex, List.append_assoc], by rw [b.ca, a.ca, List.append_assoc], fun x => ?_, ?_, ?_, fun x => ?_, fun x hx => ?_⟩
  · have := a.count x
    have := b.count x
    simp only [List.count_append, List.map_append, List.sum_append]
    omega
  · have := a.len
    have := b.len
    simp only [List.length_append, List.map_append, List.sum_append]
    omega
  · have := a.codes
    have := b.codes
    simp only [List.length_append]
    omega
  · have := a.sub x
    have := b.sub x
    simp only [List.count_append]
    omega
  · rcases List.mem_append.1 hx with hx | hx
    · obtain ⟨h, hh, hl⟩ := a.low x hx
      exact ⟨h, List.mem_append_left _ hh, hl⟩
    · obtain ⟨h, hh, hl⟩ := b.low x hx
      exact ⟨h, List.mem_append_right _ hh, hl⟩
theorem end_len (at_ : ByteArray → Nat) (q : Part) (n : Nat) (s : WS) : (writeEnd at_ q n s).codes.length ≤ s.codes.length + 2 := by
  unfold writeEnd
  split
  · simp
  · simp
theorem trace_adds {P : List Part} (hS : StrictP P) (at_ : ByteArray → Nat) (base : Nat) : ∀ (k n : Nat) (t : TS), n < k → ∃ e c, Adds P [n] t (traceT P at_ base k n t) e c := by
  intro k
  induction k with
  | zero => intro n t h; omega
  | succ k ih =>
    intro n t hnk
    have hf : ∀ (ks : List Nat) (t : TS), (∀ j ∈ ks, j < k) → ∃ e c, Adds P ks t (ks.foldl (fun t j => traceT P at_ base k j t) t) e c := by
      intro ks
      induction ks with
      | nil => intro t _; exact ⟨[], [], adds_nil P t⟩
      | cons j ks ihk =>
        intro t hj
        obtain ⟨e1, c1, a⟩ := ih j t (hj j (by simp))
        obtain ⟨e2, c2, b⟩ := ihk (traceT P at_ base k j t) (fun x hx => hj x (by simp [hx]))
        exact ⟨_, _, adds_more a b⟩
    unfold traceT
    split
    · refine ⟨[], [n], by simp, by simp, by simp, by simp, by simp, by simp, by simp⟩
    · obtain ⟨e, c, a⟩ := hf (partOf P n).kids ⟨t.w, t.ex ++ [n], t.ca ++ [n]⟩ (fun j hj => by have := strict_of hS hj; omega)
      refine ⟨n :: e, n :: c, ?_, ?_, fun x => ?_, ?_, ?_, fun x => ?_, fun x hx => ?_⟩
      · show _ = _
        rw [a.ex, List.append_assoc]
        rfl
      · show _ = _
        rw [a.ca, List.append_assoc]
        rfl
      · have := a.count x
        simp only [List.count_cons, List.count_nil, List.map_cons, List.sum_cons]
        omega
      · have := a.len
        simp only [List.length_cons, List.length_nil, List.map_cons, List.sum_cons]
        omega
      · have h1 := a.codes
        have h2 := end_len at_ (partOf P n) n ((partOf P n).kids.foldl (fun t j => traceT P at_ base k j t) ⟨t.w, t.ex ++ [n], t.ca ++ [n]⟩).w
        simp only [List.length_cons] at h1 ⊢
        omega
      · have := a.sub x
        simp only [List.count_cons]
        omega
      · rcases List.mem_cons.1 hx with rfl | hx
        · exact ⟨_, by simp, Nat.le_refl _⟩
        · obtain ⟨h, hh, hl⟩ := a.low x hx
          have := strict_of hS hh
          exact ⟨n, by simp, by omega⟩
/-- Parts that are saved are gone through once; A: those that are being gone through. -/
structure Once (P : List Part) (A : List Nat) (t : TS) : Prop where
  len : t.w.nums.length = P.length
  done : ∀ q, isSaved (partOf P q) = true → q ∉ A → q ∈ t.ex → 0 ≤ t.w.nums.getD q (-1)
  one : ∀ q, isSaved (partOf P q) = true → t.ex.count q ≤ 1
theorem saved_lt {P : List Part} {q : Nat} (h : isSaved (partOf P q) = true) : q < P.length := by
  rcases Nat.lt_or_ge q P.length with h1 | h1
  · exact h1
  · unfold partOf at h
    rw [List.getD_eq_getElem?_getD, List.getElem?_eq_none h1] at h
    simp [isSaved] at h
theorem once_end {P : List Part} {A : List Nat} {t : TS} {n : Nat} (at_ : ByteArray → Nat) (h : Once P (if isSaved (partOf P n) then n :: A else A) t) : Once P A ⟨writeEnd at_ (partOf P n) n t.w, t.ex, t.ca⟩ := by
  unfold writeEnd
  by_cases hs : isSaved (partOf P n) = true
  · rw [if_pos hs] at h ⊢
    refine ⟨by simpa using h.len, fun q hq hA hx => ?_, h.one⟩
    by_cases e : q = n
    · subst e
      have hl := saved_lt hs
      show 0 ≤ (t.w.nums.set q (t.w.saves : Int)).getD q (-1)
      rw [List.getD_eq_getElem?_getD, List.getElem?_set_self (by rw [h.len]; exact hl)]
      simp
    · have := h.done q hq (by simp [e, hA]) hx
      show 0 ≤ (t.w.nums.set n (t.w.saves : Int)).getD q (-1)
      rw [List.getD_eq_getElem?_getD, List.getElem?_set_ne (Ne.symm e), ← List.getD_eq_getElem?_getD]
      exact this
  · rw [if_neg hs] at h ⊢
    exact ⟨h.len, h.done, h.one⟩
theorem trace_once {P : List Part} (hS : StrictP P) (at_ : ByteArray → Nat) (base : Nat) : ∀ (k n : Nat) (A : List Nat) (t : TS), (∀ a ∈ A, n < a) → Once P A t → Once P A (traceT P at_ base k n t) := by
  intro k
  induction k with
  | zero => intro n A t _ h; exact h
  | succ k ih =>
    intro n A t hA h
    unfold traceT
    split
    · exact ⟨h.len, h.done, h.one⟩
    · rename_i hneg
      refine once_end at_ ?_
      have hf : ∀ (ks : List Nat) (A : List Nat) (t : TS), (∀ j ∈ ks, ∀ a ∈ A, j < a) → Once P A t → Once P A (ks.foldl (fun t j => traceT P at_ base k j t) t) := by
        intro ks
        induction ks with
        | nil => intro A t _ h; exact h
        | cons j ks ihk =>
          intro A t hj h
          exact ihk A _ (fun x hx => hj x (by simp [hx])) (ih j A t (hj j (by simp)) h)
      refine hf _ _ _ (fun j hj a ha => ?_) ?_
      · have hjn := (strict_of hS hj).1
        split at ha
        · rcases List.mem_cons.1 ha with rfl | ha
          · exact hjn
          · have := hA a ha
            omega
        · have := hA a ha
          omega
      · by_cases hs : isSaved (partOf P n) = true
        · rw [if_pos hs]
          have hnA : n ∉ A := fun hm => Nat.lt_irrefl _ (hA n hm)
          have hnx : n ∉ t.ex := fun hm => hneg (h.done n hs hnA hm)
          refine ⟨h.len, fun q hq hqA hx => ?_, fun q hq => ?_⟩
          · simp only [List.mem_cons, not_or] at hqA
            simp only [List.mem_append, List.mem_singleton] at hx
            rcases hx with hx | hx
            · exact h.done q hq hqA.2 hx
            · exact absurd hx hqA.1
          · simp only [List.count_append, List.count_singleton]
            by_cases e : n = q
            · subst e
              rw [List.count_eq_zero.2 hnx]
              simp
            · have := h.one q hq
              have e2 : (n == q) = false := by simp [e]
              rw [e2]
              simpa using this
        · rw [if_neg hs]
          have hne : ∀ q, isSaved (partOf P q) = true → q ≠ n := fun q hq e => hs (e ▸ hq)
          refine ⟨h.len, fun q hq hqA hx => ?_, fun q hq => ?_⟩
          · simp only [List.mem_append, List.mem_singleton] at hx
            rcases hx with hx | hx
            · exact h.done q hq hqA hx
            · exact absurd hx (hne q hq)
          · simp only [List.count_append, List.count_singleton]
            have e2 : (n == q) = false := by simp [Ne.symm (hne q hq)]
            rw [e2]
            simpa using h.one q hq

/-! ### sums -/
theorem sum_split (f : Nat → Nat) (N : Nat) : ∀ e : List Nat, (e.map f).sum = e.count N * f N + (e.map (fun m => if m = N then 0 else f m)).sum := by
  intro e
  induction e with
  | nil => simp
  | cons m e ih =>
    simp only [List.map_cons, List.sum_cons, ih, List.count_cons]
    by_cases h : m = N
    · subst h
      simp only [beq_self_eq_true, if_true, Nat.add_mul, Nat.one_mul]
      omega
    · have h2 : (m == N) = false := by simp [h]
      rw [h2, if_neg h]
      simp
      omega
theorem sum_range (N : Nat) : ∀ (f : Nat → Nat) (e : List Nat), (∀ m, 0 < f m → m < N ∧ e.count m ≤ 1) → (e.map f).sum ≤ ((List.range N).map f).sum := by
  induction N with
  | zero =>
    intro f e h
    have hz : ∀ m, f m = 0 := fun m => by
      rcases Nat.eq_zero_or_pos (f m) with h0 | h0
      · exact h0
      · have := (h m h0).1; omega
    have : (e.map f).sum = 0 := by
      rw [List.sum_eq_zero_iff_forall_eq_nat]
      intro v hv
      obtain ⟨m, _, rfl⟩ := List.mem_map.1 hv
      exact hz m
    rw [this]
    exact Nat.zero_le _
  | succ N ih =>
    intro f e h
    rw [sum_split f N e, List.range_succ, List.map_append, List.sum_append]
    have h1 := ih (fun m => if m = N then 0 else f m) e (fun m hm => by
      by_cases e1 : m = N
      · simp [e1] at hm
      · simp only [if_neg e1] at hm
        have := h m hm
        exact ⟨by omega, this.2⟩)
    have h2 : (List.range N).map (fun m => if m = N then 0 else f m) = (List.range N).map f := List.map_congr_left fun m hm => by
      have := List.mem_range.1 hm
      rw [if_neg (by omega)]
    rw [h2] at h1
    have h3 : e.count N * f N ≤ f N := by
      rcases Nat.eq_zero_or_pos (f N) with h0 | h0
      · rw [h0]; simp
      · have := (h N h0).2
        calc e.count N * f N ≤ 1 * f N := Nat.mul_le_mul_right _ this
          _ = f N := Nat.one_mul _
    simp only [List.map_cons, List.map_nil, List.sum_cons, List.sum_nil]
    omega
theorem range_parts {β : Type} (P : List Part) (g : Part → β) : (List.range P.length).map (fun m => g (partOf P m)) = P.map g := by
  apply List.ext_getElem?
  intro j
  rw [List.getElem?_map, List.getElem?_map]
  rcases Nat.lt_or_ge j P.length with h | h
  · rw [List.getElem?_range h, List.getElem?_eq_getElem h]
    simp [partOf, h]
  · rw [List.getElem?_eq_none (by simpa using h), List.getElem?_eq_none h]
    rfl
/-- Of a whole run: each part with kids is gone through once at most. -/
theorem ex_once {P : List Part} (hS : StrictP P) (hp : ∀ (n : Nat) (q : Part), P[n]? = some q → q.places = ((P.map Part.kids).map (List.count n)).sum) {root : Nat} {t t' : TS} {e c : List Nat} (ha : Adds P [root] t t' e c) (ho : ∀ q, isSaved (partOf P q) = true → e.count q ≤ 1) :
    ∀ (d q : Nat), P.length ≤ q + d → 0 < (partOf P q).kids.length → e.count q ≤ 1 := by
  intro d
  induction d with
  | zero =>
    intro q hq hk
    obtain ⟨k, hk2⟩ := List.exists_mem_of_length_pos hk
    have := (strict_of hS hk2).2
    omega
  | succ d ih =>
    intro q hq hk
    by_cases hsv : isSaved (partOf P q) = true
    · exact ho q hsv
    · obtain ⟨k, hk2⟩ := List.exists_mem_of_length_pos hk
      have hlt := (strict_of hS hk2).2
      have hpl : (partOf P q).places ≤ 1 := by
        unfold isSaved at hsv
        simp only [Bool.and_eq_true, decide_eq_true_eq, not_and] at hsv
        have := hsv hk
        omega
      have h1 := ha.sub q
      have h2 := ha.count q
      by_cases er : q = root
      · subst er
        have hz : (e.map (fun m => (partOf P m).kids.count q)).sum = 0 := by
          rw [List.sum_eq_zero_iff_forall_eq_nat]
          intro v hv
          obtain ⟨m, hm, rfl⟩ := List.mem_map.1 hv
          refine List.count_eq_zero.2 fun hin => ?_
          have h3 := (strict_of hS hin).1
          have h4 : m ∈ c := by
            have := ha.sub m
            exact List.count_pos_iff.1 (by have := List.count_pos_iff.2 hm; omega)
          obtain ⟨h, hh, hl⟩ := ha.low m h4
          simp at hh
          omega
        rw [hz] at h2
        simp at h2
        omega
      · have hr : [root].count q = 0 := List.count_eq_zero.2 (by simp [er])
        have hsum := sum_range P.length (fun m => (partOf P m).kids.count q) e (fun m hm => by
          have hin := List.count_pos_iff.1 hm
          have h3 := strict_of hS hin
          exact ⟨h3.2, ih m (by omega) (List.length_pos_of_mem hin)⟩)
        rw [range_parts P (fun r => r.kids.count q)] at hsum
        have hq2 : P[q]? = some (partOf P q) := by simp [partOf, hlt]
        have := hp q _ hq2
        rw [List.map_map] at this
        have e3 : (List.count q ∘ Part.kids) = (fun r : Part => r.kids.count q) := rfl
        rw [e3] at this
        omega
theorem codes_le {P : List Part} (hS : StrictP P) (hp : ∀ (n : Nat) (q : Part), P[n]? = some q → q.places = ((P.map Part.kids).map (List.count n)).sum) {root : Nat} (at_ : ByteArray → Nat) (base : Nat) :
    (writeT P at_ base (root + 1) root (codes0 P)).codes.length ≤ 2 * (1 + ((P.map Part.kids).map List.length).sum) := by
  obtain ⟨e, c, ha⟩ := trace_adds hS at_ base (root + 1) root ⟨codes0 P, [], []⟩ (by omega)
  have ho := trace_once hS at_ base (root + 1) root [] ⟨codes0 P, [], []⟩ (by simp) ⟨by simp [codes0], fun q _ _ h => by simp at h, fun q _ => by simp⟩
  have hex : (traceT P at_ base (root + 1) root ⟨codes0 P, [], []⟩).ex = e := by rw [ha.ex]; rfl
  have h1 := ex_once hS hp ha (fun q hq => by rw [← hex]; exact ho.one q hq)
  have h2 := ha.codes
  rw [trace_w] at h2
  have h3 := ha.len
  have h4 := sum_range P.length (fun m => (partOf P m).kids.length) e (fun m hm => by
    refine ⟨?_, h1 P.length m (by omega) hm⟩
    obtain ⟨k, hk2⟩ := List.exists_mem_of_length_pos hm
    exact (strict_of hS hk2).2)
  rw [range_parts P (fun r => r.kids.length)] at h4
  rw [List.map_map]
  have e3 : (List.length ∘ Part.kids) = (fun r : Part => r.kids.length) := rfl
  rw [e3]
  have h5 : (codes0 P).codes.length = 0 := rfl
  simp only [List.length_singleton] at h3
  have h6 : (⟨codes0 P, [], []⟩ : TS).w = codes0 P := rfl
  rw [h6] at h2
  omega
/-- All of it holds of valid nodes. -/
theorem fine_of {ms : List ByteArray} {l : List Nd} (h0 : 0 < l.length) (hl : l.length ≤ 4194304) (hv : Valid l) (he : (l.map (·.2.length)).sum ≤ 4194304) (hlab : ∀ x ∈ l, x.1.size ≤ maxLen) : Fine ms l := by
  have g := gf_on hv
  have hsum : ((((partsL l).map Part.kids).map List.length).sum) ≤ 4194304 := Nat.le_trans g.sum (edges_le he _)
  have hroot : rootN l < (partsL l).length := by
    obtain ⟨q, hq, _⟩ := g.here (l.length - 1) (by omega) (by omega) (on_root h0)
    exact (List.getElem?_eq_some_iff.1 hq).1
  refine ⟨hroot, Nat.le_trans g.few hl, g.strict, fun q hq => ?_, fun q hq => ?_, ?_, ?_⟩
  · obtain ⟨x, hx, h1, _⟩ := g.labs q hq
    rw [h1]
    exact hlab x hx
  · obtain ⟨x, hx, _, h2⟩ := g.labs q hq
    rw [h2]
    obtain ⟨i, hi⟩ := List.mem_iff_getElem.1 hx
    obtain ⟨hi, rfl⟩ := hi
    exact kids_le he hi
  · have := name_count g.strict ms.length (rootN l + 1) (rootN l) (names0 (partsL l) ms) (by simpa [names0] using hroot)
    have h2 : (names0 (partsL l) ms).labels.length = 0 := rfl
    have h3 := List.count_le_length (a := true) (l := (namesL ms l).seen)
    have h4 : (namesL ms l).seen.length = (partsL l).length := by
      unfold namesL
      rw [nameT_len]
      simp [names0]
    have h5 := g.few
    have h6 : nameT (partsL l) ms.length (rootN l + 1) (rootN l) (names0 (partsL l) ms) = namesL ms l := rfl
    rw [h6] at this
    omega
  · have := codes_le g.strict g.places (root := rootN l) (atW (namesL ms l).at_) (ms.length + (namesL ms l).labels.length)
    have h6 : writeT (partsL l) (atW (namesL ms l).at_) (ms.length + (namesL ms l).labels.length) (rootN l + 1) (rootN l) (codes0 (partsL l)) = codesL ms l := rfl
    rw [h6] at this
    omega
end Go.Proofs.Ytkonloadedbpkaa.FoldCount

namespace Go.Proofs.Ytkonloadedbpkaa.FoldExact
open Go.RowKit Go.Proofs.Ytkonloadedbpkaa.FoldPure Go.Proofs.Ytkonloadedbpkaa.FoldRun Go.Proofs.Ytkonloadedbpkaa.Gather Go.Proofs.Ytkonloadedbpkaa.Reached Go.Proofs.Ytkonloadedbpkaa.NodesPure Go.Proofs.Ytkonloadedbpkaa.FoldFacts Go.Proofs.Ytkonloadedbpkaa.FoldCount
set_option linter.unusedVariables false
set_option linter.unusedSimpArgs false

def sv (P : List Part) (m : Nat) : Nat := if isSaved (partOf P m) then 1 else 0
/-- What is gone through has its number, and nothing else; every number is at least -1. -/
structure Seen (t : TS) : Prop where
  num : ∀ q, 0 ≤ t.w.nums.getD q (-1) → q ∈ t.ex
structure Exact (P : List Part) (t t' : TS) (e c : List Nat) : Prop where
  codes : t'.w.codes.length = t.w.codes.length + c.length + (e.map (sv P)).sum
  marks : t'.w.codes.count (-1) = t.w.codes.count (-1) + (e.map (sv P)).sum
  seen : Seen t'
  all : ∀ x ∈ c, x ∈ t'.ex
end Go.Proofs.Ytkonloadedbpkaa.FoldExact

namespace Go.Proofs.Ytkonloadedbpkaa.FoldSame
open Go.RowKit Go.Proofs.Ytkonloadedbpkaa.FoldPure Go.Proofs.Ytkonloadedbpkaa.FoldRun Go.Proofs.Ytkonloadedbpkaa.Gather Go.Proofs.Ytkonloadedbpkaa.Reached Go.Proofs.Ytkonloadedbpkaa.NodesPure Go.Proofs.Ytkonloadedbpkaa.FoldFacts Go.Proofs.Ytkonloadedbpkaa.FoldCount Go.Proofs.Ytkonloadedbpkaa.FoldExact
set_option linter.unusedVariables false
set_option linter.unusedSimpArgs false

theorem mem_le_sum {x : Nat} : ∀ {l : List Nat}, x ∈ l → x ≤ l.sum
  | a :: l, h => by
    rw [List.sum_cons]
    rcases List.mem_cons.1 h with rfl | h
    · omega
    · have := mem_le_sum h
      omega
end Go.Proofs.Ytkonloadedbpkaa.FoldSame
