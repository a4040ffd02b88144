/- Behind a scope that is closed just what was active ahead of it is active. -/
import Derived.Test.YtpoojimmponklaaDoorKeep
namespace Go.Proofs.YtpoojimmponklaaDoor.SymTab

/-- U came of T by calls that closed no scope of T's; ex: the scopes that are open within. -/
structure Within (T U : Tab) (ex : List (List Nat)) : Prop where
  wf : WF U
  scopes : U.scopes = T.scopes ++ ex
  syms : ∃ more, U.syms = T.syms ++ more
  act : ∀ t, T.act t = dels U U.act ex.flatten t

theorem dels_app (T : Tab) (f : ByteArray → Option Nat) (a b : List Nat) (t : ByteArray) : dels T f (a ++ b) t = dels T (dels T f b) a t := by
  by_cases ha : t ∈ a.map (nameOf T)
  · rw [dels_in _ _ _ _ ha, dels_in _ _ _ _ (by rw [List.map_append, List.mem_append]; exact .inl ha)]
  · rw [dels_out _ _ a _ ha]
    by_cases hb : t ∈ b.map (nameOf T)
    · rw [dels_in _ _ _ _ hb, dels_in _ _ _ _ (by rw [List.map_append, List.mem_append]; exact .inr hb)]
    · rw [dels_out _ _ b _ hb, dels_out]
      rw [List.map_append, List.mem_append]
      rintro (h | h)
      · exact ha h
      · exact hb h
theorem dels_congr {T U : Tab} {f : ByteArray → Option Nat} {l : List Nat} (h : ∀ v ∈ l, nameOf T v = nameOf U v) (t : ByteArray) : dels T f l t = dels U f l t := by
  have hm : l.map (nameOf T) = l.map (nameOf U) := List.map_congr_left h
  by_cases ht : t ∈ l.map (nameOf T)
  · rw [dels_in _ _ _ _ ht, dels_in _ _ _ _ (hm ▸ ht)]
  · rw [dels_out _ _ _ _ ht, dels_out _ _ _ _ (hm ▸ ht)]

theorem within_start {T : Tab} (h : WF T) (hd : T.scopes.length < 16) : Within T (openS T).1 [[]] ∧ (openS T).2 = 0 := by
  have e : openS T = ({ T with scopes := T.scopes ++ [[]] }, 0) := by unfold openS; rw [if_neg (by omega)]
  have hw := wf_open h
  rw [e] at hw ⊢
  exact ⟨⟨hw, rfl, ⟨[], by simp⟩, fun t => rfl⟩, rfl⟩

theorem within_open {T U : Tab} {ex : List (List Nat)} (h : Within T U ex) : ∃ ex', Within T (openS U).1 ex' ∧ ex.length ≤ ex'.length := by
  have hw := wf_open h.wf
  unfold openS at hw ⊢
  by_cases hd : 16 ≤ U.scopes.length
  · rw [if_pos hd]
    exact ⟨ex, h, Nat.le_refl _⟩
  · rw [if_neg hd] at hw ⊢
    refine ⟨ex ++ [[]], ⟨hw, by show U.scopes ++ [[]] = _; rw [h.scopes]; simp, h.syms, fun t => ?_⟩, by simp⟩
    rw [h.act t]
    have e : (ex ++ [[]]).flatten = ex.flatten := by simp
    rw [e]
    rfl

theorem within_close {T U : Tab} {ex : List (List Nat)} {l : List Nat} (h : Within T U (ex ++ [l])) : Within T (closeS U).1 ex ∧ (closeS U).2 = 0 := by
  have hne : U.scopes ≠ [] := by rw [h.scopes]; simp
  have e : closeS U = ({ U with act := dels U U.act l, scopes := T.scopes ++ ex }, 0) := by
    unfold closeS
    rw [if_neg hne, h.scopes, ← List.append_assoc]
    simp
  have hw := wf_close h.wf
  rw [e] at hw ⊢
  refine ⟨⟨hw, rfl, h.syms, fun t => ?_⟩, rfl⟩
  rw [h.act t, List.flatten_append, dels_app]
  have e2 : [l].flatten = l := by simp
  rw [e2]
  rfl

theorem within_label {T U : Tab} {ex : List (List Nat)} (h : Within T U ex) (s : ByteArray) : Within T (labelT U s).1 ex := by
  have hw := wf_label h.wf s
  unfold labelT at hw ⊢
  split
  · exact h
  · split
    · exact h
    · split
      · exact h
      · rename_i h1 h2 h3
        rw [if_neg h1, if_neg h2, if_neg h3] at hw
        exact ⟨hw, h.scopes, h.syms, h.act⟩

theorem addLast_app {a b : List (List Nat)} {n : Nat} (hb : b ≠ []) : addLast (a ++ b) n = a ++ addLast b n := by
  rcases List.eq_nil_or_concat b with e | ⟨x, y, e⟩
  · exact absurd e hb
  · subst e
    rw [List.concat_eq_append, ← List.append_assoc, addLast_snoc, addLast_snoc, List.append_assoc]

theorem within_activate {T U V : Tab} {ex : List (List Nat)} (h : Within T U ex) (hex : ex ≠ []) {s : ByteArray} {n : Nat} (hs : U.act s = none) (hV : V.act = U.act) (hVs : V.scopes = U.scopes) (hVn : ∃ more, V.syms = U.syms ++ more) (hn : nameOf V n = s) (hw : WF (activate V s n)) :
    Within T (activate V s n) (addLast ex n) := by
  have hold : ∀ v ∈ ex.flatten, nameOf (activate V s n) v = nameOf U v := by
    intro v hv
    obtain ⟨l, hl, hvl⟩ := List.mem_flatten.1 hv
    have hlt := (h.wf.vars l (by rw [h.scopes]; exact List.mem_append.2 (.inr hl)) v hvl).1
    obtain ⟨more, hm⟩ := hVn
    show (V.syms.getD v (ByteArray.empty, false)).1 = _
    unfold nameOf
    rw [hm]
    simp only [List.getD_eq_getElem?_getD, List.getElem?_append_left hlt]
  refine ⟨hw, ?_, ?_, fun t => ?_⟩
  · show addLast V.scopes n = _
    rw [hVs, h.scopes, addLast_app hex]
  · obtain ⟨m1, h1⟩ := hVn
    obtain ⟨m2, h2⟩ := h.syms
    exact ⟨m2 ++ m1, by show V.syms = _; rw [h1, h2, List.append_assoc]⟩
  · rw [flatten_addLast hex]
    show T.act t = dels (activate V s n) (upd V.act s n) (ex.flatten ++ [n]) t
    rw [dels_app, hV]
    have hdel : dels (activate V s n) (upd U.act s n) [n] t = if t = s then none else U.act t := by
      show del (upd U.act s n) (nameOf (activate V s n) n) t = _
      have hn' : nameOf (activate V s n) n = s := hn
      rw [hn']
      unfold del upd
      split <;> rfl
    by_cases hm : t ∈ ex.flatten.map (nameOf (activate V s n))
    · rw [dels_in _ _ _ _ hm, h.act t, dels_congr (fun v hv => (hold v hv).symm), dels_in _ _ _ _ hm]
    · rw [dels_out _ _ _ _ hm, hdel, h.act t, dels_congr (fun v hv => (hold v hv).symm), dels_out _ _ _ _ hm]
      split
      · rename_i e
        rw [e]
        exact hs
      · rfl

theorem addLast_len (l : List (List Nat)) (n : Nat) : (addLast l n).length = l.length := addLast_length l n
theorem within_var {T U : Tab} {ex : List (List Nat)} (h : Within T U ex) (hex : ex ≠ []) (s : ByteArray) : ∃ ex', Within T (varT U s).1 ex' ∧ ex'.length = ex.length := by
  have hw := wf_var h.wf s
  unfold varT at hw ⊢
  by_cases hok : symOk s = false
  · rw [if_pos hok]
    exact ⟨ex, h, rfl⟩
  · rw [if_neg hok] at hw ⊢
    by_cases ha : (U.act s).isSome
    · rw [if_pos ha]
      exact ⟨ex, h, rfl⟩
    · rw [if_neg ha] at hw ⊢
      have ha' : U.act s = none := by simpa using ha
      cases hi : idx U.syms s with
      | some n =>
        rw [hi] at hw
        simp only at hw ⊢
        exact ⟨_, within_activate h hex ha' rfl rfl ⟨[], by simp⟩ (idx_lt hi).2 hw, addLast_len _ _⟩
      | none =>
        rw [hi] at hw
        simp only at hw ⊢
        by_cases hf : 512 ≤ U.syms.length
        · rw [if_pos hf]
          exact ⟨ex, h, rfl⟩
        · rw [if_neg hf] at hw ⊢
          exact ⟨_, within_activate h hex ha' (V := added U s true) rfl rfl ⟨[(s, true)], rfl⟩ nameOf_new hw, addLast_len _ _⟩

/-- At the end nothing within is open: just what was active is active. -/
theorem within_end {T U : Tab} (hT : WF T) (h : Within T U []) (n : Nat) (hn : n < U.syms.length) : (U.act (nameOf U n)).isSome = (decide (n < T.syms.length) && (T.act (nameOf T n)).isSome) := by
  have ha : ∀ t, T.act t = U.act t := fun t => by have := h.act t; simpa [dels] using this
  obtain ⟨more, hm⟩ := h.syms
  by_cases hlt : n < T.syms.length
  · have e : nameOf U n = nameOf T n := by
      unfold nameOf
      rw [hm]
      simp only [List.getD_eq_getElem?_getD, List.getElem?_append_left hlt]
    rw [e, ← ha, decide_eq_true hlt, Bool.true_and]
  · rw [decide_eq_false hlt, Bool.false_and, ← ha]
    cases hs : T.act (nameOf U n) with
    | none => rfl
    | some m =>
      have h1 := hT.act _ _ hs
      obtain ⟨h2, h3⟩ := idx_lt h1
      have h4 : nameOf U m = nameOf U n := by
        unfold nameOf at h3 ⊢
        rw [hm] at h3 ⊢
        rw [← h3]
        simp only [List.getD_eq_getElem?_getD, List.getElem?_append_left h2]
      have h5 : m < U.syms.length := by rw [hm, List.length_append]; omega
      have := nameOf_inj h.wf h5 hn h4
      omega
end Go.Proofs.YtpoojimmponklaaDoor.SymTab
