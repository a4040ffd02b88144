/- What holds of every table goes on holding behind each call. -/
import Derived.Test.YtpoojimmponklaaDoorTab
namespace Go.Proofs.YtpoojimmponklaaDoor.SymTab

theorem getD_snoc_lt {α : Type} {l : List α} {x d : α} {n : Nat} (h : n < l.length) : (l ++ [x]).getD n d = l.getD n d := by
  simp [List.getD_eq_getElem?_getD, List.getElem?_append_left h]
theorem getD_snoc_eq {α : Type} {l : List α} {x d : α} : (l ++ [x]).getD l.length d = x := by
  simp [List.getD_eq_getElem?_getD]
theorem symOk_size {s : ByteArray} (h : symOk s = true) : 1 ≤ s.size ∧ s.size ≤ 32 := by
  unfold symOk at h
  simp only [Bool.and_eq_true, decide_eq_true_eq] at h
  exact ⟨h.1.2, h.2⟩

theorem wf_open {T : Tab} (h : WF T) : WF (openS T).1 := by
  unfold openS
  split
  · exact h
  · rename_i hd
    refine ⟨h.few, h.ok, h.apart, h.act, h.consts, ?_, ?_, ?_, h.labels, h.labOk, h.labApart⟩
    · simp; omega
    · intro l hl v hv
      rcases List.mem_append.1 hl with hl | hl
      · exact h.vars l hl v hv
      · simp only [List.mem_singleton] at hl
        subst hl
        simp at hv
    · simpa using h.once

theorem wf_label {T : Tab} (h : WF T) (s : ByteArray) : WF (labelT T s).1 := by
  unfold labelT
  split
  · exact h
  · rename_i hok
    split
    · exact h
    · rename_i hi
      split
      · exact h
      · rename_i hl
        refine ⟨h.few, h.ok, h.apart, h.act, h.consts, h.deep, h.vars, h.once, by simp; omega, ?_, ?_⟩
        · intro x hx
          rcases List.mem_append.1 hx with hx | hx
          · exact h.labOk x hx
          · simp only [List.mem_singleton] at hx
            subst hx
            simpa using hok
        · have hn : s ∉ T.labels := fun hm => hi (labIdx_some_iff.2 hm)
          rw [List.nodup_append]
          exact ⟨h.labApart, by simp, fun a ha b hb => by simp only [List.mem_singleton] at hb; subst hb; intro e; subst e; exact hn ha⟩

theorem wf_const {T : Tab} (h : WF T) (s : ByteArray) : WF (constT T s).1 := by
  unfold constT
  split
  · exact h
  · rename_i hsc
    split
    · exact h
    · rename_i hok
      have hok' : symOk s = true := by simpa using hok
      split
      · exact h
      · rename_i hi
        have hi' : idx T.syms s = none := by simpa using hi
        split
        · exact h
        · rename_i hf
          have hsc0 : T.scopes = [] := by cases hs : T.scopes with | nil => rfl | cons x l => rw [hs] at hsc; simp at hsc
          have hni : s ∉ T.syms.map (·.1) := fun hm => hi (idx_some_iff.2 hm)
          refine ⟨by simp [added]; omega, ?_, ?_, ?_, ?_, h.deep, ?_, h.once, h.labels, h.labOk, h.labApart⟩
          · intro x hx
            rcases List.mem_append.1 hx with hx | hx
            · exact h.ok x hx
            · simp only [List.mem_singleton] at hx
              subst hx
              exact hok'
          · show ((T.syms ++ [(s, false)]).map (·.1)).Nodup
            rw [List.map_append, List.nodup_append]
            exact ⟨h.apart, by simp, fun a ha b hb => by simp only [List.map_cons, List.map_nil, List.mem_singleton] at hb; subst hb; intro e; subst e; exact hni ha⟩
          · intro t n ht
            show idx (T.syms ++ [(s, false)]) t = some n
            rw [idx_snoc hi']
            have ht' : upd T.act s T.syms.length t = some n := ht
            unfold upd at ht' ⊢
            split at ht'
            · rename_i e
              rw [if_pos e]
              exact ht'
            · rename_i e
              rw [if_neg e]
              exact h.act t n ht'
          · intro n hn hv
            show upd T.act s T.syms.length (nameOf (added T s false) n) = some n
            have hn' : n < (T.syms ++ [(s, false)]).length := hn
            rw [List.length_append, List.length_singleton] at hn'
            by_cases e : n = T.syms.length
            · subst e
              rw [nameOf_new]
              simp [upd]
            · have hlt : n < T.syms.length := by omega
              rw [nameOf_added hlt]
              have hne : nameOf T n ≠ s := fun e2 => by
                apply hni
                rw [← e2]
                unfold nameOf
                rw [List.getD_eq_getElem?_getD, List.getElem?_eq_getElem hlt]
                exact List.mem_map.2 ⟨_, List.getElem_mem hlt, rfl⟩
              unfold upd
              rw [if_neg hne]
              refine h.consts n hlt ?_
              have hv' : ((T.syms ++ [(s, false)]).getD n (ByteArray.empty, false)).2 = false := hv
              rwa [getD_snoc_lt hlt] at hv'
          · intro l hl
            have : l ∈ T.scopes := hl
            rw [hsc0] at this
            simp at this

theorem idx_var {T : Tab} (h : WF T) {s : ByteArray} {n : Nat} (hn : idx T.syms s = some n) (hact : T.act s = none) : (T.syms.getD n (ByteArray.empty, false)).2 = true := by
  obtain ⟨h1, h2⟩ := idx_lt hn
  cases hb : (T.syms.getD n (ByteArray.empty, false)).2 with
  | true => rfl
  | false =>
    have := h.consts n h1 hb
    unfold nameOf at this
    rw [h2, hact] at this
    cases this

theorem mem_addLast {l : List (List Nat)} {n : Nat} {x : List Nat} (h : x ∈ addLast l n) : ∀ v ∈ x, v = n ∨ ∃ y ∈ l, v ∈ y := by
  rcases List.eq_nil_or_concat l with e | ⟨a, b, e⟩
  · subst e
    simp [addLast] at h
  · subst e
    rw [List.concat_eq_append] at h ⊢
    rw [addLast_snoc] at h
    intro v hv
    rcases List.mem_append.1 h with h | h
    · exact .inr ⟨x, by simp [h], hv⟩
    · simp only [List.mem_singleton] at h
      subst h
      rcases List.mem_append.1 hv with hv | hv
      · exact .inr ⟨b, by simp, hv⟩
      · simp only [List.mem_singleton] at hv
        exact .inl hv
theorem flatten_addLast {l : List (List Nat)} {n : Nat} (h : l ≠ []) : (addLast l n).flatten = l.flatten ++ [n] := by
  rcases List.eq_nil_or_concat l with e | ⟨a, b, e⟩
  · exact absurd e h
  · subst e
    rw [List.concat_eq_append, addLast_snoc]
    simp

theorem wf_activate {T : Tab} (h : WF T) {s : ByteArray} {n : Nat} (hn : idx T.syms s = some n) (hact : T.act s = none) (hv : (T.syms.getD n (ByteArray.empty, false)).2 = true) : WF (activate T s n) := by
  obtain ⟨hlt, hnm⟩ := idx_lt hn
  have hnm' : nameOf T n = s := hnm
  refine ⟨h.few, h.ok, h.apart, ?_, ?_, ?_, ?_, ?_, h.labels, h.labOk, h.labApart⟩
  · intro t m ht
    have ht' : upd T.act s n t = some m := ht
    unfold upd at ht'
    split at ht'
    · rename_i e
      subst e
      rw [← ht']
      exact hn
    · exact h.act t m ht'
  · intro m hm hb
    show upd T.act s n (nameOf T m) = some m
    unfold upd
    split
    · rename_i e
      rw [← hnm'] at e
      rw [nameOf_inj h hm hlt e]
    · exact h.consts m hm hb
  · show (addLast T.scopes n).length ≤ 16
    rw [addLast_length]
    exact h.deep
  · intro l hl v hv2
    rcases mem_addLast hl v hv2 with e | ⟨y, hy, hvy⟩
    · subst e
      refine ⟨hlt, hv, ?_⟩
      show upd T.act s v (nameOf T v) = some v
      rw [hnm']
      simp [upd]
    · obtain ⟨a, b, c⟩ := h.vars y hy v hvy
      refine ⟨a, b, ?_⟩
      show upd T.act s n (nameOf T v) = some v
      unfold upd
      split
      · rename_i e
        rw [← hnm'] at e
        rw [nameOf_inj h a hlt e]
      · exact c
  · show (addLast T.scopes n).flatten.Nodup
    by_cases hs : T.scopes = []
    · rw [hs]
      simp [addLast]
    · rw [flatten_addLast hs, List.nodup_append]
      refine ⟨h.once, by simp, fun a ha b hb => ?_⟩
      simp only [List.mem_singleton] at hb
      subst hb
      intro e
      subst e
      obtain ⟨l, hl, hal⟩ := List.mem_flatten.1 ha
      have := (h.vars l hl a hal).2.2
      rw [hnm', hact] at this
      cases this

theorem wf_added {T : Tab} (h : WF T) {s : ByteArray} (hok : symOk s = true) (hi : idx T.syms s = none) (hf : T.syms.length < 512) : WF (added T s true) := by
  have hni : s ∉ T.syms.map (·.1) := fun hm => by have := idx_some_iff.2 hm; rw [hi] at this; cases this
  refine ⟨by simp [added]; omega, ?_, ?_, ?_, ?_, h.deep, ?_, h.once, h.labels, h.labOk, h.labApart⟩
  · intro x hx
    rcases List.mem_append.1 hx with hx | hx
    · exact h.ok x hx
    · simp only [List.mem_singleton] at hx
      subst hx
      exact hok
  · show ((T.syms ++ [(s, true)]).map (·.1)).Nodup
    rw [List.map_append, List.nodup_append]
    exact ⟨h.apart, by simp, fun a ha b hb => by simp only [List.map_cons, List.map_nil, List.mem_singleton] at hb; subst hb; intro e; subst e; exact hni ha⟩
  · intro t n ht
    show idx (T.syms ++ [(s, true)]) t = some n
    have h1 := h.act t n ht
    rw [idx_snoc hi]
    unfold upd
    split
    · rename_i e
      subst e
      rw [hi] at h1
      cases h1
    · exact h1
  · intro n hn hv
    have hn' : n < (T.syms ++ [(s, true)]).length := hn
    rw [List.length_append, List.length_singleton] at hn'
    have hv' : ((T.syms ++ [(s, true)]).getD n (ByteArray.empty, false)).2 = false := hv
    by_cases e : n = T.syms.length
    · subst e
      rw [getD_snoc_eq] at hv'
      cases hv'
    · have hlt : n < T.syms.length := by omega
      rw [getD_snoc_lt hlt] at hv'
      rw [nameOf_added hlt]
      exact h.consts n hlt hv'
  · intro l hl v hv
    obtain ⟨a, b, c⟩ := h.vars l hl v hv
    refine ⟨by simp [added]; omega, ?_, ?_⟩
    · show ((T.syms ++ [(s, true)]).getD v (ByteArray.empty, false)).2 = true
      rw [getD_snoc_lt a]
      exact b
    · rw [nameOf_added a]
      exact c

theorem wf_var {T : Tab} (h : WF T) (s : ByteArray) : WF (varT T s).1 := by
  unfold varT
  split
  · exact h
  · rename_i hok
    have hok' : symOk s = true := by simpa using hok
    split
    · exact h
    · rename_i ha
      have ha' : T.act s = none := by simpa using ha
      cases hi : idx T.syms s with
      | some n => exact wf_activate h hi ha' (idx_var h hi ha')
      | none =>
        simp only
        split
        · exact h
        · rename_i hf
          refine wf_activate (wf_added h hok' hi (by omega)) ?_ ha' ?_
          · show idx (T.syms ++ [(s, true)]) s = some T.syms.length
            rw [idx_snoc hi]
            simp [upd]
          · show ((T.syms ++ [(s, true)]).getD T.syms.length (ByteArray.empty, false)).2 = true
            rw [getD_snoc_eq]

theorem dels_out (T : Tab) (f : ByteArray → Option Nat) (l : List Nat) (t : ByteArray) (h : t ∉ l.map (nameOf T)) : dels T f l t = f t := by
  unfold dels
  induction l generalizing f with
  | nil => rfl
  | cons v l ih =>
    simp only [List.map_cons, List.mem_cons, not_or] at h
    simp only [List.foldl_cons]
    rw [ih _ h.2]
    unfold del
    rw [if_neg h.1]
theorem dels_in (T : Tab) (f : ByteArray → Option Nat) (l : List Nat) (t : ByteArray) (h : t ∈ l.map (nameOf T)) : dels T f l t = none := by
  induction l generalizing f with
  | nil => simp at h
  | cons v l ih =>
    show dels T (del f (nameOf T v)) l t = none
    by_cases h1 : t ∈ l.map (nameOf T)
    · exact ih _ h1
    · rw [dels_out _ _ _ _ h1]
      simp only [List.map_cons, List.mem_cons, h1, or_false] at h
      unfold del
      rw [if_pos h]

theorem wf_close {T : Tab} (h : WF T) : WF (closeS T).1 := by
  unfold closeS
  split
  · exact h
  · rename_i hs
    rcases List.eq_nil_or_concat T.scopes with e | ⟨a, b, e⟩
    · exact absurd e hs
    · have el : T.scopes.getLastD [] = b := by rw [e]; simp
      have ed : T.scopes.dropLast = a := by rw [e]; simp
      rw [el, ed]
      have hb : ∀ v ∈ b, v < T.syms.length ∧ (T.syms.getD v (ByteArray.empty, false)).2 = true ∧ T.act (nameOf T v) = some v := fun v hv => h.vars b (by rw [e]; simp) v hv
      have ho := h.once
      rw [e] at ho
      simp only [List.concat_eq_append, List.flatten_append, List.flatten_cons, List.flatten_nil, List.append_nil] at ho
      rw [List.nodup_append] at ho
      refine ⟨h.few, h.ok, h.apart, ?_, ?_, ?_, ?_, ho.1, h.labels, h.labOk, h.labApart⟩
      · intro t n ht
        have ht' : dels T T.act b t = some n := ht
        by_cases hm : t ∈ b.map (nameOf T)
        · rw [dels_in _ _ _ _ hm] at ht'
          cases ht'
        · rw [dels_out _ _ _ _ hm] at ht'
          exact h.act t n ht'
      · intro n hn hv
        show dels T T.act b (nameOf T n) = some n
        rw [dels_out]
        · exact h.consts n hn hv
        · intro hm
          obtain ⟨v, hvb, hve⟩ := List.mem_map.1 hm
          have := nameOf_inj h (hb v hvb).1 hn hve
          subst this
          have hv' : (T.syms.getD v (ByteArray.empty, false)).2 = false := hv
          rw [(hb v hvb).2.1] at hv'
          cases hv'
      · have := h.deep
        rw [e] at this
        simp at this
        show a.length ≤ 16
        omega
      · intro l hl v hv
        obtain ⟨x, y, z⟩ := h.vars l (by rw [e]; simp only [List.concat_eq_append, List.mem_append]; exact .inl hl) v hv
        refine ⟨x, y, ?_⟩
        show dels T T.act b (nameOf T v) = some v
        rw [dels_out]
        · exact z
        · intro hm
          obtain ⟨u, hub, hue⟩ := List.mem_map.1 hm
          have := nameOf_inj h (hb u hub).1 x hue
          subst this
          exact ho.2.2 u (List.mem_flatten.2 ⟨l, hl, hv⟩) u hub rfl
end Go.Proofs.YtpoojimmponklaaDoor.SymTab
