/- PlaysPure, Ref, RefDoes, RefNames, RefMore, RefVar, RefLabel, Pair: in one text. -/
import Derived.Test.YtpoojimmponklaaDoorTabAll
import Derived.Test.YtpoojimmponklaaDoorPSymPlaysx3
import Derived.Test.YtpoojimmponklaaDoorPSymPlaysx4
import Derived.Laws.AppendOwnNone
namespace Go.Proofs.YtpoojimmponklaaDoor.SymTab
set_option linter.unusedVariables false

def statStep (n : Nat) (st : Option Nat) (a : Int) : Option Nat :=
  if a = (n : Int) then some 0 else if a = -1 then st.map (· + 1) else if a = -2 then (match st with | none => none | some 0 => none | some (j + 1) => some j) else st
def stat (n : Nat) (acts : List Int) : Option Nat := acts.foldl (statStep n) none
def depthStep (d : Int) (a : Int) : Int := if a = -1 then d + 1 else if a = -2 then d - 1 else d
def depthL (acts : List Int) : Int := acts.foldl depthStep 0
theorem stat_snoc (n : Nat) (acts : List Int) (a : Int) : stat n (acts ++ [a]) = statStep n (stat n acts) a := by simp [stat]
theorem depthL_snoc (acts : List Int) (a : Int) : depthL (acts ++ [a]) = depthStep (depthL acts) a := by simp [depthL]

def varAt (T : Tab) (n : Nat) : Bool := (T.syms.getD n (ByteArray.empty, false)).2
/-- What the log says of n. -/
def Says (T : Tab) (n : Nat) : Option Nat → Prop
  | none => T.act (nameOf T n) = none
  | some j => T.act (nameOf T n) = some n ∧ j ≤ T.scopes.length ∧ ∀ i l, T.scopes[i]? = some l → (n ∈ l ↔ i + 1 + j = T.scopes.length)
structure Rel (T : Tab) (acts : List Int) : Prop where
  depth : depthL acts = T.scopes.length
  says : ∀ n, n < T.syms.length → varAt T n = true → Says T n (stat n acts)

theorem rel_open {T : Tab} {acts : List Int} (hw : WF T) (h : Rel T acts) (hd : T.scopes.length < 16) : Rel (openS T).1 (acts ++ [-1]) ∧ (openS T).2 = 0 := by
  have e : openS T = ({ T with scopes := T.scopes ++ [[]] }, 0) := by unfold openS; rw [if_neg (by omega)]
  rw [e]
  refine ⟨⟨?_, fun n hn hv => ?_⟩, rfl⟩
  · rw [depthL_snoc, h.depth]
    show (T.scopes.length : Int) + 1 = ((T.scopes ++ [[]]).length : Int)
    rw [List.length_append]
    rfl
  · have hs := h.says n hn hv
    rw [stat_snoc]
    unfold statStep
    rw [if_neg (by omega), if_pos rfl]
    cases hst : stat n acts with
    | none =>
      rw [hst] at hs
      exact hs
    | some j =>
      rw [hst] at hs
      obtain ⟨h1, h2, h3⟩ := hs
      refine ⟨h1, ?_, fun i l hl => ?_⟩
      · show j + 1 ≤ (T.scopes ++ [[]]).length
        rw [List.length_append]
        simp
        exact h2
      · have hl' : (T.scopes ++ [[]])[i]? = some l := hl
        show n ∈ l ↔ i + 1 + (j + 1) = (T.scopes ++ [[]]).length
        rw [List.length_append, List.length_singleton]
        by_cases hi : i < T.scopes.length
        · rw [List.getElem?_append_left hi] at hl'
          rw [h3 i l hl']
          omega
        · rw [List.getElem?_append_right (by omega)] at hl'
          have hi2 : i = T.scopes.length := by
            have := (List.getElem?_eq_some_iff.1 hl').1
            simp at this
            omega
          subst hi2
          simp at hl'
          subst hl'
          simp

theorem rel_close {T : Tab} {acts : List Int} (hw : WF T) (h : Rel T acts) (hd : T.scopes ≠ []) : Rel (closeS T).1 (acts ++ [-2]) ∧ (closeS T).2 = 0 := by
  obtain ⟨S, L, hS⟩ : ∃ S L, T.scopes = S ++ [L] := by
    rcases List.eq_nil_or_concat T.scopes with e | ⟨a, b, e⟩
    · exact absurd e hd
    · exact ⟨a, b, by rw [e, List.concat_eq_append]⟩
  have e : closeS T = ({ T with act := dels T T.act L, scopes := S }, 0) := by
    unfold closeS
    rw [if_neg hd, hS]
    simp
  rw [e]
  refine ⟨⟨?_, fun n hn hv => ?_⟩, rfl⟩
  · rw [depthL_snoc, h.depth, hS, List.length_append]
    show ((S.length + 1 : Nat) : Int) - 1 = (S.length : Int)
    omega
  · have hs := h.says n hn hv
    have hmem : nameOf T n ∈ L.map (nameOf T) ↔ n ∈ L := by
      constructor
      · intro hm
        obtain ⟨v, hv1, hv2⟩ := List.mem_map.1 hm
        have hv3 := (hw.vars L (by rw [hS]; simp) v hv1).1
        have := nameOf_inj hw hv3 hn hv2
        exact this ▸ hv1
      · intro hm
        exact List.mem_map.2 ⟨n, hm, rfl⟩
    rw [stat_snoc]
    unfold statStep
    rw [if_neg (by omega), if_neg (by decide), if_pos rfl]
    cases hst : stat n acts with
    | none =>
      rw [hst] at hs
      show dels T T.act L (nameOf T n) = none
      by_cases hm : nameOf T n ∈ L.map (nameOf T)
      · exact dels_in _ _ _ _ hm
      · rw [dels_out _ _ _ _ hm]
        exact hs
    | some j =>
      rw [hst] at hs
      obtain ⟨h1, h2, h3⟩ := hs
      rw [hS, List.length_append, List.length_singleton] at h2
      have hL := h3 S.length L (by rw [hS]; simp)
      rw [hS, List.length_append, List.length_singleton] at hL
      cases j with
      | zero =>
        show dels T T.act L (nameOf T n) = none
        exact dels_in _ _ _ _ (hmem.2 (hL.2 (by omega)))
      | succ j =>
        have hnot : ¬ n ∈ L := fun hm => by have := hL.1 hm; omega
        refine ⟨?_, ?_, fun i l hl => ?_⟩
        · show dels T T.act L (nameOf T n) = some n
          rw [dels_out _ _ _ _ (fun hm => hnot (hmem.1 hm))]
          exact h1
        · show j ≤ S.length
          omega
        · have hl' : S[i]? = some l := hl
          have hi := (List.getElem?_eq_some_iff.1 hl').1
          have h4 := h3 i l (by rw [hS, List.getElem?_append_left hi]; exact hl')
          rw [hS, List.length_append, List.length_singleton] at h4
          show n ∈ l ↔ i + 1 + j = S.length
          rw [h4]
          omega

theorem addLast_at {S : List (List Nat)} {n i : Nat} {l : List Nat} (h : (addLast S n)[i]? = some l) : ∃ l0, S[i]? = some l0 ∧ l = if i + 1 = S.length then l0 ++ [n] else l0 := by
  rcases List.eq_nil_or_concat S with e | ⟨a, b, e⟩
  · subst e
    simp [addLast] at h
  · rw [List.concat_eq_append] at e
    subst e
    rw [addLast_snoc] at h
    rw [List.length_append, List.length_singleton]
    by_cases hi : i < a.length
    · rw [List.getElem?_append_left hi] at h
      exact ⟨l, by rw [List.getElem?_append_left hi]; exact h, by rw [if_neg (by omega)]⟩
    · rw [List.getElem?_append_right (by omega)] at h
      have hi2 : i = a.length := by
        have := (List.getElem?_eq_some_iff.1 h).1
        simp at this
        omega
      subst hi2
      simp at h
      exact ⟨b, by simp, by rw [if_pos rfl, h]⟩
theorem rel_activate {T V : Tab} {acts : List Int} {s : ByteArray} {n : Nat} (hw : WF T) (h : Rel T acts) (hs : T.act s = none) (hV : V.act = T.act) (hVs : V.scopes = T.scopes) (hVn : ∃ more, V.syms = T.syms ++ more)
    (hn : nameOf V n = s) (hold : ∀ m, m < V.syms.length → m ≠ n → m < T.syms.length ∧ nameOf V m ≠ s) : Rel (activate V s n) (acts ++ [(n : Int)]) := by
  have hnone : ∀ (i : Nat) (l : List Nat), T.scopes[i]? = some l → n ∉ l := by
    intro i l hl hm
    obtain ⟨h1, _, h3⟩ := hw.vars l (List.mem_of_getElem? hl) n hm
    obtain ⟨more, hmore⟩ := hVn
    have e : nameOf T n = nameOf V n := by
      unfold nameOf
      rw [hmore]
      simp only [List.getD_eq_getElem?_getD, List.getElem?_append_left h1]
    rw [e, hn, hs] at h3
    cases h3
  refine ⟨?_, fun m hm hv => ?_⟩
  · rw [depthL_snoc]
    unfold depthStep
    rw [if_neg (by omega), if_neg (by omega), h.depth]
    show (T.scopes.length : Int) = ((addLast V.scopes n).length : Int)
    rw [addLast_length, hVs]
  · have hm' : m < V.syms.length := hm
    rw [stat_snoc]
    unfold statStep
    by_cases e : m = n
    · subst e
      rw [if_pos rfl]
      refine ⟨?_, Nat.zero_le _, fun i l hl => ?_⟩
      · show upd V.act s m (nameOf V m) = some m
        rw [hn]
        simp [upd]
      · have hl' : (addLast V.scopes m)[i]? = some l := hl
        rw [hVs] at hl'
        obtain ⟨l0, h1, h2⟩ := addLast_at hl'
        show m ∈ l ↔ i + 1 + 0 = (addLast V.scopes m).length
        rw [addLast_length, hVs, h2]
        split
        · rename_i e2
          simp [e2]
        · rename_i e2
          constructor
          · intro hx
            exact absurd hx (hnone i l0 h1)
          · intro hx
            omega
    · obtain ⟨h1, h2⟩ := hold m hm' e
      have hvar : varAt T m = true := by
        obtain ⟨more, hmore⟩ := hVn
        have hv' : (V.syms.getD m (ByteArray.empty, false)).2 = true := hv
        rw [hmore] at hv'
        unfold varAt
        simpa only [List.getD_eq_getElem?_getD, List.getElem?_append_left h1] using hv'
      have hname : nameOf V m = nameOf T m := by
        obtain ⟨more, hmore⟩ := hVn
        unfold nameOf
        rw [hmore]
        simp only [List.getD_eq_getElem?_getD, List.getElem?_append_left h1]
      rw [if_neg (by omega), if_neg (by omega), if_neg (by omega)]
      have hs2 := h.says m h1 hvar
      have hact : (activate V s n).act (nameOf (activate V s n) m) = T.act (nameOf T m) := by
        show upd V.act s n (nameOf V m) = _
        unfold upd
        rw [if_neg h2, hV, hname]
      cases hst : stat m acts with
      | none =>
        rw [hst] at hs2
        exact hact.trans hs2
      | some j =>
        rw [hst] at hs2
        obtain ⟨g1, g2, g3⟩ := hs2
        refine ⟨hact.trans g1, ?_, fun i l hl => ?_⟩
        · show j ≤ (addLast V.scopes n).length
          rw [addLast_length, hVs]
          exact g2
        · have hl' : (addLast V.scopes n)[i]? = some l := hl
          rw [hVs] at hl'
          obtain ⟨l0, h4, h5⟩ := addLast_at hl'
          show m ∈ l ↔ i + 1 + j = (addLast V.scopes n).length
          rw [addLast_length, hVs, ← g3 i l0 h4, h5]
          split
          · simp [e]
          · exact Iff.rfl

/-- What const makes. -/
theorem rel_const {T : Tab} {acts : List Int} (hw : WF T) (h : Rel T acts) (s : ByteArray) : Rel (constT T s).1 acts := by
  unfold constT
  split
  · exact h
  · split
    · exact h
    · split
      · exact h
      · split
        · exact h
        · rename_i hi _
          have hi' : idx T.syms s = none := by simpa using hi
          refine ⟨h.depth, fun m hm hv => ?_⟩
          have hv' : ((T.syms ++ [(s, false)]).getD m (ByteArray.empty, false)).2 = true := hv
          have hm' : m < (T.syms ++ [(s, false)]).length := hm
          have hlt : m < T.syms.length := by
            rw [List.length_append, List.length_singleton] at hm'
            rcases Nat.lt_or_ge m T.syms.length with g | g
            · exact g
            · have e : m = T.syms.length := by omega
              subst e
              rw [List.getD_eq_getElem?_getD, List.getElem?_append_right (Nat.le_refl _)] at hv'
              simp at hv'
          have hget : (T.syms ++ [(s, false)]).getD m (ByteArray.empty, false) = T.syms.getD m (ByteArray.empty, false) := by
            simp only [List.getD_eq_getElem?_getD, List.getElem?_append_left hlt]
          rw [hget] at hv'
          have hs2 := h.says m hlt hv'
          have hne : nameOf T m ≠ s := by
            intro e
            have := idx_nameOf hw hlt
            rw [e, hi'] at this
            cases this
          have hname : ((T.syms ++ [(s, false)]).getD m (ByteArray.empty, false)).1 = nameOf T m := by rw [hget]; rfl
          have hact : upd T.act s T.syms.length (((T.syms ++ [(s, false)]).getD m (ByteArray.empty, false)).1) = T.act (nameOf T m) := by
            rw [hname]
            unfold upd
            rw [if_neg hne]
          cases hst : stat m acts with
          | none =>
            rw [hst] at hs2
            exact hact.trans hs2
          | some j =>
            rw [hst] at hs2
            exact ⟨hact.trans hs2.1, hs2.2⟩
theorem rel_empty : Rel empty [] := ⟨rfl, fun n hn => by simp [empty] at hn⟩

/-- What var makes: the same table and log, or one act more. -/
theorem rel_var {T : Tab} {acts : List Int} (hw : WF T) (h : Rel T acts) (s : ByteArray) :
    (∃ c : Nat, c ≠ 0 ∧ varT T s = (T, 0, c)) ∨ ∃ (U : Tab) (n : Nat), varT T s = (U, n, 0) ∧ Rel U (acts ++ [(n : Int)]) := by
  unfold varT
  split
  · exact .inl ⟨21, by decide, rfl⟩
  · split
    · exact .inl ⟨20, by decide, rfl⟩
    · rename_i ha
      have ha' : T.act s = none := by simpa using ha
      cases hi : idx T.syms s with
      | some n =>
        obtain ⟨h1, h2⟩ := idx_lt hi
        exact .inr ⟨_, n, rfl, rel_activate hw h ha' rfl rfl ⟨[], by simp⟩ h2 (fun m hm hne => ⟨hm, fun e => hne (nameOf_inj hw hm h1 (e.trans h2.symm))⟩)⟩
      | none =>
        simp only
        split
        · exact .inl ⟨22, by decide, rfl⟩
        · refine .inr ⟨_, T.syms.length, rfl, rel_activate hw h ha' (V := added T s true) rfl rfl ⟨[(s, true)], rfl⟩ nameOf_new (fun m hm hne => ?_)⟩
          have hm' : m < (T.syms ++ [(s, true)]).length := hm
          rw [List.length_append, List.length_singleton] at hm'
          have hlt : m < T.syms.length := by omega
          refine ⟨hlt, fun e => ?_⟩
          have hget : nameOf (added T s true) m = nameOf T m := by
            show ((T.syms ++ [(s, true)]).getD m (ByteArray.empty, false)).1 = _
            simp only [List.getD_eq_getElem?_getD, List.getElem?_append_left hlt]
            rfl
          rw [hget] at e
          have := idx_nameOf hw hlt
          rw [e, hi] at this
          cases this

/-! ### how the log is read -/
def openL : Int → List Int → Bool
  | _, [] => true
  | d, a :: r => if depthStep d a < 0 then false else openL (depthStep d a) r
theorem fold_none (n : Nat) : ∀ (r : List Int), (∀ a ∈ r, a ≠ (n : Int)) → r.foldl (statStep n) none = none
  | [], _ => rfl
  | a :: r, h => by
    have h1 := h a (List.mem_cons_self ..)
    have e : statStep n none a = none := by
      unfold statStep
      rw [if_neg h1]
      split
      · rfl
      · split <;> rfl
    rw [List.foldl_cons, e]
    exact fold_none n r (fun b hb => h b (List.mem_cons_of_mem _ hb))
theorem fold_open (n : Nat) : ∀ (r : List Int) (j : Nat), (∀ a ∈ r, a ≠ (n : Int)) → (r.foldl (statStep n) (some j)).isSome = openL (j : Int) r
  | [], _, _ => rfl
  | a :: r, j, h => by
    have h1 := h a (List.mem_cons_self ..)
    have h2 := fun b hb => h b (List.mem_cons_of_mem _ hb)
    rw [List.foldl_cons]
    unfold openL statStep depthStep
    rw [if_neg h1]
    by_cases e1 : a = -1
    · rw [if_pos e1, if_pos e1, if_neg (by omega)]
      exact fold_open n r (j + 1) h2
    · rw [if_neg e1, if_neg e1]
      by_cases e2 : a = -2
      · rw [if_pos e2, if_pos e2]
        cases j with
        | zero =>
          rw [if_pos (by omega)]
          show (r.foldl (statStep n) none).isSome = false
          rw [fold_none n r h2]
          rfl
        | succ j =>
          rw [if_neg (by omega)]
          have e3 : (((j + 1 : Nat) : Int) - 1) = (j : Int) := by omega
          rw [e3]
          exact fold_open n r j h2
      · rw [if_neg e2, if_neg e2, if_neg (by omega)]
        exact fold_open n r j h2
theorem stat_last {n : Nat} {pre suf : List Int} (h : ∀ a ∈ suf, a ≠ (n : Int)) : (stat n (pre ++ (n : Int) :: suf)).isSome = openL 0 suf := by
  unfold stat
  rw [List.foldl_append, List.foldl_cons]
  have e : statStep n (pre.foldl (statStep n) none) (n : Int) = some 0 := by
    unfold statStep
    rw [if_pos rfl]
  rw [e]
  exact fold_open n suf 0 h
theorem stat_never {n : Nat} {acts : List Int} (h : ∀ a ∈ acts, a ≠ (n : Int)) : stat n acts = none := fold_none n acts h

/-- Active, as the document reads the log, is active in the table. -/
theorem active_says {T : Tab} {acts : List Int} (hw : WF T) (h : Rel T acts) {n : Nat} (hn : n < T.syms.length) : (T.act (nameOf T n)).isSome = (!varAt T n || (stat n acts).isSome) := by
  cases hv : varAt T n with
  | false =>
    have := hw.consts n hn hv
    rw [this]
    rfl
  | true =>
    have hs := h.says n hn hv
    cases hst : stat n acts with
    | none =>
      rw [hst] at hs
      rw [show T.act (nameOf T n) = none from hs]
      rfl
    | some j =>
      rw [hst] at hs
      rw [hs.1]
      rfl
end Go.Proofs.YtpoojimmponklaaDoor.SymTab

namespace Go.Proofs.YtpoojimmponklaaDoor.SymRef
open Go.RowKit Go.Maps Go.Proofs.YtpoojimmponklaaDoor.SymTab Go.Proofs.YtpoojimmponklaaDoor.SymHeap Go.Proofs.YtpoojimmponklaaDoor.SymReads Go.Proofs.YtpoojimmponklaaDoor.SymApi
open Go.Proofs.YtpoojimmponklaaDoorW.PrintWords (Aside0 Drawn0 own_move)
set_option linter.unusedVariables false

structure Ref where
  syms : List (ByteArray × Bool)
  acts : List Int
  taken : List ByteArray
def actCells (l : List Int) : List Value := l.map (Value.int .i64)
structure RParts where
  vs : Value
  va : Value
  vt : Value
structure RHolds (w : World) (p g : Nat) (R : Ref) (q : RParts) : Prop where
  cells : w.heap[p]? = some (.cells #[q.vs, q.va, q.vt] 99 (0, 0))
  syms : w.ownsRow 0 101 2 q.vs R.syms.length (symCells R.syms)
  acts : w.ownsRow 0 3 1 q.va R.acts.length (actCells R.acts)
  taken : w.ownsRow 0 9 1 q.vt R.taken.length (R.taken.map Value.string)
  few : R.acts.length ≤ g
def RParts.has (q : RParts) (p k : Nat) : Prop := k = p ∨ q.vs.ownBlock = some k ∨ q.va.ownBlock = some k ∨ q.vt.ownBlock = some k
def RefIs (w : World) (p g : Nat) (R : Ref) (fp : Nat → Prop) : Prop := ∃ q, RHolds w p g R q ∧ ∀ k, q.has p k → fp k

theorem RHolds.move {w w' : World} {p g : Nat} {R : Ref} {q : RParts} (h : RHolds w p g R q) (hm : ∀ k, q.has p k → w'.heap[k]? = w.heap[k]?) : RHolds w' p g R q :=
  ⟨(hm p (.inl rfl)).trans h.cells, own_move h.syms (fun k hk => hm k (.inr (.inl hk))), own_move h.acts (fun k hk => hm k (.inr (.inr (.inl hk)))), own_move h.taken (fun k hk => hm k (.inr (.inr (.inr hk)))), h.few⟩
theorem RHolds.lt {w : World} {p g : Nat} {R : Ref} {q : RParts} (h : RHolds w p g R q) : ∀ k, q.has p k → k < w.heap.size := by
  intro k hk
  rcases hk with rfl | hk | hk | hk
  · exact (Array.getElem?_eq_some_iff.1 h.cells).1
  · exact (h.syms.lt k hk).2
  · exact (h.acts.lt k hk).2
  · exact (h.taken.lt k hk).2
theorem RefIs.move {w w' : World} {p g : Nat} {R : Ref} {fp : Nat → Prop} (h : RefIs w p g R fp) (hm : ∀ k, fp k → w'.heap[k]? = w.heap[k]?) : RefIs w' p g R fp := by
  obtain ⟨q, hq, hf⟩ := h
  exact ⟨q, hq.move (fun k hk => hm k (hf k hk)), hf⟩
theorem RefIs.mono {w : World} {p g : Nat} {R : Ref} {fp fp' : Nat → Prop} (h : RefIs w p g R fp) (hf : ∀ k, fp k → fp' k) : RefIs w p g R fp' := by
  obtain ⟨q, hq, hf'⟩ := h
  exact ⟨q, hq, fun k hk => hf k (hf' k hk)⟩
theorem RefIs.bound {w : World} {p g : Nat} {R : Ref} {fp : Nat → Prop} (h : RefIs w p g R fp) : RefIs w p g R (fun k => fp k ∧ k < w.heap.size) := by
  obtain ⟨q, hq, hf⟩ := h
  exact ⟨q, hq, fun k hk => ⟨hf k hk, hq.lt k hk⟩⟩
theorem RefIs.more {w : World} {p g g' : Nat} {R : Ref} {fp : Nat → Prop} (h : RefIs w p g R fp) (hg : g ≤ g') : RefIs w p g' R fp := by
  obtain ⟨q, ⟨a, b, c, d, e⟩, hf⟩ := h
  exact ⟨q, ⟨a, b, c, d, by omega⟩, hf⟩
theorem RefIs.drawn {w w' : World} {p g : Nat} {R : Ref} {fp : Nat → Prop} (h : RefIs w p g R fp) (hd : Drawn0 w w') : RefIs w' p g R fp := by
  obtain ⟨n, rfl⟩ := hd
  exact h.move (fun _ _ => rfl)
theorem RHolds.tp {w : World} {p g : Nat} {R : Ref} {q : RParts} (h : RHolds w p g R q) : tyOf w p = some 99 := tyOf_cells h.cells

/-! ### the log -/
theorem depthL_take (l : List Int) (k : Nat) (h : k < l.length) : depthL (l.take (k + 1)) = depthStep (depthL (l.take k)) l[k] := by
  rw [List.take_succ_eq_append_getElem h, depthL_snoc]
theorem depthF_bound (l : List Int) : ∀ d : Int, d - l.length ≤ l.foldl depthStep d ∧ l.foldl depthStep d ≤ d + l.length := by
  induction l with
  | nil => intro d; simp
  | cons a l ih =>
    intro d
    have h := ih (depthStep d a)
    rw [List.foldl_cons, List.length_cons]
    unfold depthStep at h ⊢
    split at h
    · rename_i e
      rw [if_pos e]
      omega
    · rename_i e
      rw [if_neg e]
      split at h
      · rename_i e2
        rw [if_pos e2]
        omega
      · rename_i e2
        rw [if_neg e2]
        omega
theorem depthL_bound (l : List Int) : -(l.length : Int) ≤ depthL l ∧ depthL l ≤ l.length := by
  have := depthF_bound l 0
  unfold depthL
  omega
theorem acts_at {w : World} {p g : Nat} {R : Ref} {q : RParts} (h : RHolds w p g R q) {k : Nat} (hk : k < R.acts.length) :
    ∃ b cap, q.va = .slice (some ⟨b, 0, none⟩) R.acts.length cap ∧ w.cell? ⟨b, k, none⟩ = some (.int .i64 R.acts[k]) := by
  obtain ⟨b, cap, e, _, hcell, _⟩ := row_some h.acts (by omega)
  exact ⟨b, cap, e, hcell _ _ (by simp [actCells, hk])⟩
def nm (l : List (ByteArray × Bool)) (k : Nat) : ByteArray := (l.getD k (ByteArray.empty, false)).1
def vr (l : List (ByteArray × Bool)) (k : Nat) : Bool := (l.getD k (ByteArray.empty, false)).2
theorem rsyms_at {w : World} {p g : Nat} {R : Ref} {q : RParts} (h : RHolds w p g R q) {k : Nat} (hk : k < R.syms.length) :
    ∃ b cap, q.vs = .slice (some ⟨b, 0, none⟩) R.syms.length cap ∧ w.cell? ⟨b, k * 2, none⟩ = some (.string (nm R.syms k)) ∧ w.cell? ⟨b, k * 2 + 1, none⟩ = some (.bool (vr R.syms k)) := by
  obtain ⟨b, cap, e, _, hcell, _⟩ := row_some h.syms (by omega)
  obtain ⟨h1, h2⟩ := symCells_name hk
  rw [Nat.mul_comm] at h1 h2
  exact ⟨b, cap, e, hcell _ _ h1, hcell _ _ h2⟩
set_option maxHeartbeats 1000000 in
theorem rdepth_calls {w : World} {p g : Nat} {R : Ref} {fp : Nat → Prop} (h : RefIs w p g R fp) (hg : g < maxLen) :
    Calls Tryd.prog 37 #[.pointer (some ⟨p, 0, none⟩)] w fun e w' => e = .returned (.int .i64 (depthL R.acts)) ∧ Drawn0 w w' := by
  unfold maxLen at hg
  obtain ⟨⟨vs, va, vt⟩, h, _⟩ := h
  have hf := h.few
  have H := Aside0.mk h
  clear h
  go_enter Tryd.func37, Tryd.ntmps37
  go_wp2_with fail
  go_loopw [3, 4] (fun v3 v4 wr => ∃ k : Nat, k ≤ R.acts.length ∧ v3 = .int .i64 (depthL (R.acts.take k)) ∧ v4 = .int .i64 k ∧ Aside0 (Drawn0 w wr)) (fun _ v4 _ => R.acts.length - (intOf v4).toNat)
  case atStart => exact ⟨0, by omega, rfl, rfl, ⟨Drawn0.refl _⟩⟩
  case round =>
    obtain ⟨k, hk, rfl, rfl, HD⟩ := hrel
    obtain ⟨nq, hnq⟩ := HD.out
    subst hnq
    have h := H.out.move (w' := w.drewN nq) (fun _ _ => rfl)
    have hb := depthL_bound (R.acts.take k)
    rw [List.length_take_of_le hk] at hb
    by_cases hlt : k < R.acts.length
    · obtain ⟨b, cap, e, ck⟩ := acts_at h hlt
      simp only at e
      subst e
      have c1 := (cell_at h.cells 1).1
      simp only [List.getElem?_toArray, List.getElem?_cons_zero, List.getElem?_cons_succ] at c1
      have ht := depthL_take _ _ hlt
      generalize R.acts[k] = a at ck ht
      generalize depthL (R.acts.take k) = d at ht hb
      unfold depthStep at ht
      clear h
      by_cases e1 : a = -1
      · rw [if_pos e1] at ht
        subst e1
        have Ht := Lib.hid ht
        clear ht
        go_wp2_with fail
        go_roundw
        case rel => exact ⟨k + 1, by omega, by rw [Ht.out], by go_num, ⟨Drawn0.step (Drawn0.refl _) _⟩⟩
        case measure => simp [intOf]; omega
      · by_cases e2 : a = -2
        · rw [if_neg e1, if_pos e2] at ht
          subst e2
          have Ht := Lib.hid ht
          clear ht
          go_wp2_with fail
          go_roundw
          case rel => exact ⟨k + 1, by omega, by rw [Ht.out], by go_num, ⟨Drawn0.step (Drawn0.refl _) _⟩⟩
          case measure => simp [intOf]; omega
        · rw [if_neg e1, if_neg e2] at ht
          have Ht := Lib.hid ht
          have d1 : (a == -1) = false := beq_eq_false_iff_ne.2 e1
          have d2 : (a == -2) = false := beq_eq_false_iff_ne.2 e2
          clear ht
          go_wp2_with fail
          go_roundw
          case rel => exact ⟨k + 1, by omega, by rw [Ht.out], by go_num, ⟨Drawn0.step (Drawn0.refl _) _⟩⟩
          case measure => simp [intOf]; omega
    · have c1 := (cell_at h.cells 1).1
      simp only [List.getElem?_toArray, List.getElem?_cons_zero, List.getElem?_cons_succ] at c1
      obtain ⟨A, cap, e, _⟩ := row_slice h.acts
      simp only at e
      subst e
      have hk' : k = R.acts.length := by omega
      subst hk'
      rw [List.take_length]
      clear h
      go_wp2_with fail
      go_ret
      exact ⟨rfl, Drawn0.step (Drawn0.refl _) _⟩

/-! ### numbers -/
def numI (o : Option Nat) : Int := match o with | some n => (n : Int) | none => -1
theorem str_eqb (s t : ByteArray) : (s.toList == t.toList) = decide (s = t) := by
  rw [ByteArray.toList_eq, ByteArray.toList_eq, Bool.eq_iff_iff, beq_iff_eq, decide_eq_true_eq]
  constructor
  · intro h
    cases s; cases t
    simpa using h
  · intro h
    rw [h]
theorem idx_none {l : List (ByteArray × Bool)} {s : ByteArray} (h : ∀ j, j < l.length → nm l j ≠ s) : idx l s = none := by
  cases hi : idx l s with
  | none => rfl
  | some n =>
    obtain ⟨h1, h2⟩ := idx_lt hi
    exact absurd h2 (h n h1)
theorem idx_first {l : List (ByteArray × Bool)} {s : ByteArray} {k : Nat} (h : ∀ j, j < k → nm l j ≠ s) (hk : k < l.length) (he : nm l k = s) : idx l s = some k := by
  induction l generalizing k with
  | nil => simp at hk
  | cons x l ih =>
    unfold idx
    cases k with
    | zero =>
      have : x.1 = s := by simpa [nm] using he
      rw [if_pos this]
    | succ k =>
      have h0 : ¬ x.1 = s := by simpa [nm] using h 0 (by omega)
      rw [if_neg h0, ih (k := k) (fun j hj => by simpa [nm] using h (j + 1) (by omega)) (by simpa using hk) (by simpa [nm] using he)]
      rfl

set_option maxHeartbeats 1000000 in
theorem number_calls {w : World} {p g : Nat} {R : Ref} {fp : Nat → Prop} (h : RefIs w p g R fp) (hn : R.syms.length ≤ 512) (s : ByteArray) (hs : s.size ≤ maxLen) :
    Calls Tryd.prog 78 #[.pointer (some ⟨p, 0, none⟩), .string s] w fun e w' => e = .returned (.int .i64 (numI (idx R.syms s))) ∧ Drawn0 w w' := by
  unfold maxLen at hs
  obtain ⟨⟨vs, va, vt⟩, h, _⟩ := h
  have H := Aside0.mk h
  clear h
  go_enter Tryd.func78, Tryd.ntmps78
  go_wp2_with fail
  go_loopw [5] (fun v4 wr => ∃ k : Nat, k ≤ R.syms.length ∧ v4 = .int .i64 k ∧ Hid (∀ j, j < k → nm R.syms j ≠ s) ∧ Aside0 (Drawn0 w wr)) (fun v4 _ => R.syms.length - (intOf v4).toNat)
  case atStart => exact ⟨0, by omega, rfl, Lib.hid (fun j hj => by omega), ⟨Drawn0.refl _⟩⟩
  case round =>
    obtain ⟨k, hk, rfl, HA, HD⟩ := hrel
    obtain ⟨nq, hnq⟩ := HD.out
    subst hnq
    have h := H.out.move (w' := w.drewN nq) (fun _ _ => rfl)
    have c0 := (cell_at h.cells 0).1
    simp only [List.getElem?_toArray, List.getElem?_cons_zero] at c0
    by_cases hlt : k < R.syms.length
    · obtain ⟨b, cap, e, ck, _⟩ := rsyms_at h hlt
      simp only at e
      subst e
      have eq1 := str_eqb (nm R.syms k) s
      have ck' : (w.drewN nq).cell? ⟨b, k * 2, none⟩ = some (.string (nm R.syms k)) := ck
      clear h ck
      by_cases e1 : nm R.syms k = s
      · have Hf := Lib.hid (idx_first HA.out hlt e1)
        rw [decide_eq_true e1] at eq1
        clear e1
        generalize nm R.syms k = sk at eq1 ck'
        go_wp2_with fail
        go_ret
        exact ⟨by rw [Hf.out]; rfl, Drawn0.step (Drawn0.refl _) _⟩
      · have Hf := Lib.hid (show ∀ j, j < k + 1 → nm R.syms j ≠ s from fun j hj => by
          by_cases ej : j = k
          · subst ej; exact e1
          · exact HA.out j (by omega))
        rw [decide_eq_false e1] at eq1
        clear e1
        generalize nm R.syms k = sk at eq1 ck'
        go_wp2_with fail
        go_roundw
        case rel => exact ⟨k + 1, by omega, by go_num, Hf, ⟨Drawn0.step (Drawn0.refl _) _⟩⟩
        case measure => simp [intOf]; omega
    · obtain ⟨A, cap, e, _⟩ := row_slice h.syms
      simp only at e
      subst e
      have hk' : k = R.syms.length := by omega
      subst hk'
      have Hf := Lib.hid (idx_none HA.out)
      clear h
      go_wp2_with fail
      go_ret
      exact ⟨by rw [Hf.out]; rfl, Drawn0.step (Drawn0.refl _) _⟩

/-! ### what is open, what is active -/
set_option maxHeartbeats 1000000 in
theorem ropen_calls {w : World} {p g : Nat} {R : Ref} {fp : Nat → Prop} (h : RefIs w p g R fp) (hg : g < maxLen) (i : Nat) (hi : i < R.acts.length) :
    Calls Tryd.prog 69 #[.pointer (some ⟨p, 0, none⟩), .int .i64 i] w fun e w' => e = .returned (.bool (openL 0 (R.acts.drop (i + 1)))) ∧ Drawn0 w w' := by
  unfold maxLen at hg
  obtain ⟨⟨vs, va, vt⟩, h, _⟩ := h
  have hf := h.few
  have H := Aside0.mk h
  clear h
  go_enter Tryd.func69, Tryd.ntmps69
  go_wp2_with fail
  go_loopw [5, 6] (fun v4 v5 wr => ∃ (k : Nat) (d : Int), i + 1 ≤ k ∧ k ≤ R.acts.length ∧ 0 ≤ d ∧ d ≤ k ∧ v4 = .int .i64 d ∧ v5 = .int .i64 k ∧ Hid (openL 0 (R.acts.drop (i + 1)) = openL d (R.acts.drop k)) ∧ Aside0 (Drawn0 w wr)) (fun _ v5 _ => R.acts.length - (intOf v5).toNat)
  case atStart => exact ⟨i + 1, 0, by omega, by omega, by omega, by omega, rfl, by go_num, Lib.hid rfl, ⟨Drawn0.refl _⟩⟩
  case round =>
    obtain ⟨k, d, hik, hk, hd0, hdk, rfl, rfl, HA, HD⟩ := hrel
    obtain ⟨nq, hnq⟩ := HD.out
    subst hnq
    have h := H.out.move (w' := w.drewN nq) (fun _ _ => rfl)
    have c1 := (cell_at h.cells 1).1
    simp only [List.getElem?_toArray, List.getElem?_cons_zero, List.getElem?_cons_succ] at c1
    by_cases hlt : k < R.acts.length
    · obtain ⟨b, cap, e, ck⟩ := acts_at h hlt
      simp only at e
      subst e
      have hop : openL d (R.acts.drop k) = if depthStep d R.acts[k] < 0 then false else openL (depthStep d R.acts[k]) (R.acts.drop (k + 1)) := by
        rw [List.drop_eq_getElem_cons hlt]
        rfl
      generalize R.acts[k] = a at ck hop
      unfold depthStep at hop
      clear h
      by_cases e1 : a = -1
      · rw [if_pos e1, if_neg (by omega)] at hop
        subst e1
        have Hop := Lib.hid (HA.out.trans hop)
        clear hop
        go_wp2_with fail
        go_roundw
        case rel => exact ⟨k + 1, d + 1, by omega, by omega, by omega, by omega, by go_num, by go_num, Hop, ⟨Drawn0.step (Drawn0.refl _) _⟩⟩
        case measure => simp [intOf]; omega
      · by_cases e2 : a = -2
        · rw [if_neg e1, if_pos e2] at hop
          subst e2
          by_cases e3 : d = 0
          · have hz : d - 1 < 0 := by omega
            rw [if_pos hz] at hop
            have Hop := Lib.hid (HA.out.trans hop)
            clear hop
            go_wp2_with fail
            go_ret
            exact ⟨by rw [Hop.out]; rfl, Drawn0.step (Drawn0.refl _) _⟩
          · have hd1 : 1 ≤ d := by omega
            rw [if_neg (by omega)] at hop
            have Hop := Lib.hid (HA.out.trans hop)
            clear hop
            go_wp2_with fail
            go_roundw
            case rel => exact ⟨k + 1, d - 1, by omega, by omega, by omega, by omega, by go_num, by go_num, Hop, ⟨Drawn0.step (Drawn0.refl _) _⟩⟩
            case measure => simp [intOf]; omega
        · rw [if_neg e1, if_neg e2, if_neg (by omega)] at hop
          have Hop := Lib.hid (HA.out.trans hop)
          have d1 : (a == -1) = false := beq_eq_false_iff_ne.2 e1
          have d2 : (a == -2) = false := beq_eq_false_iff_ne.2 e2
          clear hop
          go_wp2_with fail
          go_roundw
          case rel => exact ⟨k + 1, d, by omega, by omega, by omega, by omega, rfl, by go_num, Hop, ⟨Drawn0.step (Drawn0.refl _) _⟩⟩
          case measure => simp [intOf]; omega
    · obtain ⟨A, cap, e, _⟩ := row_slice h.acts
      simp only at e
      subst e
      have hk' : k = R.acts.length := by omega
      subst hk'
      have HA' := Lib.hid (show openL 0 (R.acts.drop (i + 1)) = true by rw [HA.out, List.drop_length]; rfl)
      clear h
      go_wp2_with fail
      go_ret
      exact ⟨by rw [HA'.out]; rfl, Drawn0.step (Drawn0.refl _) _⟩

/-! ### Count, Name, IsVar -/
theorem rcount_calls {w : World} {p g : Nat} {R : Ref} {fp : Nat → Prop} (h : RefIs w p g R fp) :
    Calls Tryd.prog 36 #[.pointer (some ⟨p, 0, none⟩)] w fun e w' => e = .returned (.int .i64 (R.syms.length : Int)) ∧ Drawn0 w w' := by
  obtain ⟨⟨vs, va, vt⟩, h, _⟩ := h
  obtain ⟨A, cap, e, _⟩ := row_slice h.syms
  simp only at e
  subst e
  have c0 := (cell_at h.cells 0).1
  simp only [List.getElem?_toArray, List.getElem?_cons_zero] at c0
  clear h
  go_enter Tryd.func36, Tryd.ntmps36
  go_wp2
  go_ret
  exact ⟨rfl, Drawn0.refl _⟩
def rThere (R : Ref) (n : Int) : Bool := decide (0 ≤ n) && decide (n < R.syms.length)
def rName (R : Ref) (n : Int) : ByteArray := if rThere R n then nm R.syms n.toNat else ByteArray.empty
theorem rname_calls {w : World} {p g : Nat} {R : Ref} {fp : Nat → Prop} (h : RefIs w p g R fp) (n : Int) :
    Calls Tryd.prog 39 #[.pointer (some ⟨p, 0, none⟩), .int .i64 n] w fun e w' => e = .returned (.string (rName R n)) ∧ Drawn0 w w' := by
  obtain ⟨⟨vs, va, vt⟩, h, _⟩ := h
  by_cases h0 : 0 ≤ n
  · by_cases h1 : n < R.syms.length
    · obtain ⟨k, rfl⟩ : ∃ k : Nat, n = (k : Int) := ⟨n.toNat, by omega⟩
      have hk : k < R.syms.length := by omega
      have Hn := Lib.hid (show rName R k = nm R.syms k by unfold rName rThere; rw [decide_eq_true h0, decide_eq_true h1]; rfl)
      obtain ⟨b, cap, e, cn, _⟩ := rsyms_at h hk
      simp only at e
      subst e
      have c0 := (cell_at h.cells 0).1
      simp only [List.getElem?_toArray, List.getElem?_cons_zero] at c0
      have d0 : decide ((k : Int) < 0) = false := decide_eq_false (by omega)
      have d1 : decide ((R.syms.length : Int) ≤ k) = false := decide_eq_false (by omega)
      clear h
      go_enter Tryd.func39, Tryd.ntmps39
      go_wp2_with fail
      go_ret
      exact ⟨by rw [Hn.out]; rfl, Drawn0.refl _⟩
    · obtain ⟨A, cap, e, _⟩ := row_slice h.syms
      simp only at e
      subst e
      have c0 := (cell_at h.cells 0).1
      simp only [List.getElem?_toArray, List.getElem?_cons_zero] at c0
      have Hn := Lib.hid (show rName R n = ByteArray.empty by unfold rName rThere; rw [decide_eq_false h1, Bool.and_false]; rfl)
      have d0 : decide (n < 0) = false := decide_eq_false (by omega)
      have d1 : decide ((R.syms.length : Int) ≤ n) = true := decide_eq_true (by omega)
      clear h
      go_enter Tryd.func39, Tryd.ntmps39
      go_wp2_with fail
      go_ret
      exact ⟨by rw [Hn.out]; rfl, Drawn0.refl _⟩
  · have Hn := Lib.hid (show rName R n = ByteArray.empty by unfold rName rThere; rw [decide_eq_false h0, Bool.false_and]; rfl)
    have d0 : decide (n < 0) = true := decide_eq_true (by omega)
    clear h
    go_enter Tryd.func39, Tryd.ntmps39
    go_wp2_with fail
    go_ret
    exact ⟨by rw [Hn.out]; rfl, Drawn0.refl _⟩
def rActive (R : Ref) (n : Int) : Bool := rThere R n && (!vr R.syms n.toNat || (stat n.toNat R.acts).isSome)
set_option maxHeartbeats 1000000 in
theorem ractive_calls {w : World} {p g : Nat} {R : Ref} {fp : Nat → Prop} (h : RefIs w p g R fp) (hg : g < maxLen) (n : Int) :
    Calls Tryd.prog 41 #[.pointer (some ⟨p, 0, none⟩), .int .i64 n] w fun e w' => e = .returned (.bool (rActive R n)) ∧ Drawn0 w w' := by
  have HR := Aside0.mk h
  have Hg := Lib.hid hg
  unfold maxLen at hg
  obtain ⟨⟨vs, va, vt⟩, h, _⟩ := h
  have hf := h.few
  by_cases h0 : 0 ≤ n
  · by_cases h1 : n < R.syms.length
    · obtain ⟨k, rfl⟩ : ∃ k : Nat, n = (k : Int) := ⟨n.toNat, by omega⟩
      have hk : k < R.syms.length := by omega
      have d0 : decide ((k : Int) < 0) = false := decide_eq_false (by omega)
      have d1 : decide ((R.syms.length : Int) ≤ k) = false := decide_eq_false (by omega)
      obtain ⟨b, cap, e, _, cn⟩ := rsyms_at h hk
      simp only at e
      subst e
      have c0 := (cell_at h.cells 0).1
      simp only [List.getElem?_toArray, List.getElem?_cons_zero] at c0
      have Hn := Lib.hid (show rActive R k = (!vr R.syms k || (stat k R.acts).isSome) by unfold rActive rThere; rw [decide_eq_true h0, decide_eq_true h1]; rfl)
      cases hv : vr R.syms k with
      | false =>
        rw [hv] at cn Hn
        clear h hv
        go_enter Tryd.func41, Tryd.ntmps41
        go_wp2_with fail
        go_ret
        exact ⟨by rw [Hn.out]; rfl, Drawn0.refl _⟩
      | true =>
        rw [hv] at cn Hn
        have H := Aside0.mk h
        obtain ⟨A, cap2, e, _⟩ := row_slice h.acts
        simp only at e
        subst e
        have c1 := (cell_at h.cells 1).1
        simp only [List.getElem?_toArray, List.getElem?_cons_zero, List.getElem?_cons_succ] at c1
        clear h hv
        go_enter Tryd.func41, Tryd.ntmps41
        go_wp2_with fail
        go_loopw [5] (fun v5 wr => ∃ j : Int, -1 ≤ j ∧ j < R.acts.length ∧ v5 = .int .i64 j ∧ Hid (∀ a ∈ R.acts.drop (j + 1).toNat, a ≠ (k : Int)) ∧ Aside0 (Drawn0 w wr)) (fun v5 _ => (intOf v5 + 1).toNat)
        case atStart => exact ⟨(R.acts.length : Int) - 1, by omega, by omega, by go_num, Lib.hid (fun a ha => by rw [show ((R.acts.length : Int) - 1 + 1).toNat = R.acts.length by omega, List.drop_length] at ha; cases ha), ⟨Drawn0.refl _⟩⟩
        case round =>
          obtain ⟨j, hj0, hj1, rfl, HA, HD⟩ := hrel
          obtain ⟨nq, hnq⟩ := HD.out
          subst hnq
          have h := H.out.move (w' := w.drewN nq) (fun _ _ => rfl)
          by_cases hj : 0 ≤ j
          · obtain ⟨m, rfl⟩ : ∃ m : Nat, j = (m : Int) := ⟨j.toNat, by omega⟩
            have hm : m < R.acts.length := by omega
            obtain ⟨b2, cap3, e, ck⟩ := acts_at h hm
            simp only [Value.slice.injEq] at e
            obtain ⟨rfl, -, rfl⟩ := e
            have HA' := Lib.hid (show ∀ a ∈ R.acts.drop (m + 1), a ≠ (k : Int) from by have := HA.out; rwa [show ((m : Int) + 1).toNat = m + 1 by omega] at this)
            have c1 := (cell_at h.cells 1).1
            simp only [List.getElem?_toArray, List.getElem?_cons_zero, List.getElem?_cons_succ] at c1
            have hcut : R.acts = R.acts.take m ++ R.acts[m] :: R.acts.drop (m + 1) := by
              rw [← List.drop_eq_getElem_cons hm, List.take_append_drop]
            have hdrop : R.acts.drop m = R.acts[m] :: R.acts.drop (m + 1) := List.drop_eq_getElem_cons hm
            clear h HA
            generalize R.acts[m] = a at ck hcut hdrop
            by_cases e1 : a = (k : Int)
            · have HS := Lib.hid (show (stat k R.acts).isSome = openL 0 (R.acts.drop (m + 1)) by
                have h1 := hcut
                rw [e1] at h1
                exact (congrArg (fun x => (stat k x).isSome) h1).trans (stat_last HA'.out))
              subst e1
              clear hcut hdrop
              go_wp2_with fail
              refine (ropen_calls (HR.out.move (w' := w.drewN nq) (fun _ _ => rfl)) Hg.out m hm).mono ?_
              rintro e w2 ⟨rfl, hd⟩
              have Hd := Aside0.mk hd
              clear hd
              go_wp2_with fail
              go_ret
              exact ⟨by rw [Hn.out, HS.out]; rfl, by obtain ⟨n2, e2⟩ := Hd.out; rw [e2]; exact Drawn0.step (Drawn0.step (Drawn0.refl _) _) _⟩
            · have HB := Lib.hid (show ∀ x ∈ R.acts.drop m, x ≠ (k : Int) from by
                rw [hdrop]
                intro x hx
                rcases List.mem_cons.1 hx with rfl | hx
                · exact e1
                · exact HA'.out x hx)
              have d2 : (a == (k : Int)) = false := beq_eq_false_iff_ne.2 e1
              clear hcut hdrop e1
              go_wp2_with fail
              go_roundw
              case rel => exact ⟨(m : Int) - 1, by omega, by omega, by go_num, Lib.hid (by rw [show ((m : Int) - 1 + 1).toNat = m by omega]; exact HB.out), ⟨Drawn0.step (Drawn0.refl _) _⟩⟩
              case measure => simp [intOf]
          · have hj' : j = -1 := by omega
            subst hj'
            have HS := Lib.hid (stat_never (n := k) (acts := R.acts) (by have := HA.out; simpa using this))
            clear h HA
            go_wp2_with fail
            go_ret
            exact ⟨by rw [Hn.out, HS.out]; rfl, Drawn0.step (Drawn0.refl _) _⟩
    · obtain ⟨A, cap, e, _⟩ := row_slice h.syms
      simp only at e
      subst e
      have c0 := (cell_at h.cells 0).1
      simp only [List.getElem?_toArray, List.getElem?_cons_zero] at c0
      have Hn := Lib.hid (show rActive R n = false by unfold rActive rThere; rw [decide_eq_false h1, Bool.and_false]; rfl)
      have d0 : decide (n < 0) = false := decide_eq_false (by omega)
      have d1 : decide ((R.syms.length : Int) ≤ n) = true := decide_eq_true (by omega)
      clear h
      go_enter Tryd.func41, Tryd.ntmps41
      go_wp2_with fail
      go_ret
      exact ⟨by rw [Hn.out]; rfl, Drawn0.refl _⟩
  · have Hn := Lib.hid (show rActive R n = false by unfold rActive rThere; rw [decide_eq_false h0, Bool.false_and]; rfl)
    have d0 : decide (n < 0) = true := decide_eq_true (by omega)
    clear h
    go_enter Tryd.func41, Tryd.ntmps41
    go_wp2_with fail
    go_ret
    exact ⟨by rw [Hn.out]; rfl, Drawn0.refl _⟩
end Go.Proofs.YtpoojimmponklaaDoor.SymRef

namespace Go.Proofs.YtpoojimmponklaaDoor.SymRefDoes
open Go.RowKit Go.Maps Go.Proofs.YtpoojimmponklaaDoor.SymTab Go.Proofs.YtpoojimmponklaaDoor.SymHeap Go.Proofs.YtpoojimmponklaaDoor.SymReads Go.Proofs.YtpoojimmponklaaDoor.SymAdd Go.Proofs.YtpoojimmponklaaDoor.SymConst Go.Proofs.YtpoojimmponklaaDoor.SymApi Go.Proofs.YtpoojimmponklaaDoor.SymRef
open Go.Proofs.YtpoojimmponklaaDoorW.PrintWords (Aside0 Drawn0 own_move)
set_option linter.unusedVariables false

def RSteps (w w' : World) (p g : Nat) (R : Ref) (q : RParts) : Prop := ∃ q', RHolds w' p g R q' ∧ (∀ k, q'.has p k → q.has p k ∨ w.heap.size ≤ k) ∧ Turns (q.has p) w w'
theorem rsteps_drawn {w w' : World} {p g g' : Nat} {R : Ref} {q : RParts} (h : RHolds w p g R q) (hg : g ≤ g') (hd : Drawn0 w w') : RSteps w w' p g' R q := by
  obtain ⟨n, rfl⟩ := hd
  have h2 := h.move (w' := w.drewN n) (fun _ _ => rfl)
  exact ⟨q, ⟨h2.cells, h2.syms, h2.acts, h2.taken, Nat.le_trans h.few hg⟩, fun _ hk => .inl hk, Turns.drewN w n⟩
theorem RSteps.drawn {w w' w'' : World} {p g : Nat} {R : Ref} {q : RParts} (h : RSteps w w' p g R q) (hd : Drawn0 w' w'') : RSteps w w'' p g R q := by
  obtain ⟨n, rfl⟩ := hd
  obtain ⟨q', a, b, c⟩ := h
  exact ⟨q', a.move (w' := w'.drewN n) (fun _ _ => rfl), b, ⟨c.os, c.tape, c.output, c.size, c.block⟩⟩
theorem RSteps.before {w w' w'' : World} {p g : Nat} {R : Ref} {q : RParts} (h : RSteps w' w'' p g R q) (hd : Drawn0 w w') : RSteps w w'' p g R q := by
  obtain ⟨n, rfl⟩ := hd
  obtain ⟨q', a, b, c⟩ := h
  exact ⟨q', a, b, ⟨c.os, c.tape, c.output, c.size, c.block⟩⟩
theorem push_acts_at {w w1 : World} {p g : Nat} {R : Ref} {q : RParts} (h : RHolds w p g R q) {a : Int} {v' : Value} {o : Obj} (hown : w1.ownsRow 0 3 1 v' (R.acts.length + 1) (actCells (R.acts ++ [a]))) (hgrow : (w.alloc o).grownBy w1 q.va.ownBlock)
    (hat : v'.ownBlock = q.va.ownBlock ∨ v'.ownBlock = some (w.alloc o).heap.size) :
    RHolds (w1.setCell ⟨p, 1, none⟩ v') p (g + 1) { R with acts := R.acts ++ [a] } ⟨q.vs, v', q.vt⟩ ∧ (∀ k, (RParts.mk q.vs  v'  q.vt).has p k → q.has p k ∨ w.heap.size ≤ k) ∧ Turns (q.has p) w (w1.setCell ⟨p, 1, none⟩ v') := by
  have hlt := h.lt
  have ht1 : Turns (fun k => q.va.ownBlock = some k) w w1 := (Turns.alloc _ w _).trans (Turns.of_grown (fp := fun k => q.va.ownBlock = some k) hgrow (fun k hk => hk)) (fun k hk => .inl hk)
  have hb1 : ∀ k, k < w.heap.size → tyOf w k ≠ some 3 → w1.heap[k]? = w.heap[k]? := fun k hk hty => ht1.block k hk (fun e => hty (tyOf_row h.acts e))
  have hp1 : w1.heap[p]? = some (.cells #[q.vs, q.va, q.vt] 99 (0, 0)) := (hb1 p (hlt p (.inl rfl)) (by rw [h.tp]; decide)).trans h.cells
  have hpt : tyOf w1 p = some 99 := tyOf_cells hp1
  have step : ∀ k, k ≠ p → (w1.setCell ⟨p, 1, none⟩ v').heap[k]? = w1.heap[k]? := fun k h1 => Below.heap_setCell w1 ⟨p, 1, none⟩ _ k h1
  have row : ∀ k t, k < w.heap.size → tyOf w k = t → t ≠ some 3 → t ≠ some 99 → (w1.setCell ⟨p, 1, none⟩ v').heap[k]? = w.heap[k]? := fun k t hk ht h1 h2 =>
    (step k (ne_ty ht h.tp h2)).trans (hb1 k hk (by rw [ht]; exact h1))
  refine ⟨⟨?_, own_move h.syms (fun k hk => row k _ (h.syms.lt k hk).2 (tyOf_row h.syms hk) (by decide) (by decide)), ?_, own_move h.taken (fun k hk => row k _ (h.taken.lt k hk).2 (tyOf_row h.taken hk) (by decide) (by decide)), by have := h.few; show (R.acts ++ [a]).length ≤ g + 1; rw [List.length_append, List.length_singleton]; omega⟩, ?_, ?_⟩
  · rw [set_block hp1]
    rfl
  · show World.ownsRow _ _ _ _ _ (R.acts ++ [a]).length _
    rw [List.length_append, List.length_singleton]
    exact own_move hown (fun k hk => step k (ne_ty (tyOf_row hown hk) hpt (by decide)))
  · intro k hk
    rcases hk with hk | hk | hk | hk
    · exact .inl (.inl hk)
    · exact .inl (.inr (.inl hk))
    · rcases hat with e | e
      · rw [show (RParts.mk q.vs v' q.vt).va = v' from rfl, e] at hk
        exact .inl (.inr (.inr (.inl hk)))
      · rw [show (RParts.mk q.vs v' q.vt).va = v' from rfl, e] at hk
        right
        have := Option.some.inj hk
        simp at this
        omega
    · exact .inl (.inr (.inr (.inr hk)))
  · refine Turns.trans (ht1.mono ?_) (Turns.setCell (fp := fun k => k = p) w1 ⟨p, 1, none⟩ _ rfl) ?_
    · intro k hk; simp [RParts.has, hk]
    · rintro k rfl; left; simp [RParts.has]
theorem push_acts {w w1 : World} {p g : Nat} {R : Ref} {q : RParts} (h : RHolds w p g R q) {a : Int} {v' : Value} {o : Obj} (hown : w1.ownsRow 0 3 1 v' (R.acts.length + 1) (actCells (R.acts ++ [a]))) (hgrow : (w.alloc o).grownBy w1 q.va.ownBlock)
    (hat : v'.ownBlock = q.va.ownBlock ∨ v'.ownBlock = some (w.alloc o).heap.size) : RSteps w (w1.setCell ⟨p, 1, none⟩ v') p (g + 1) { R with acts := R.acts ++ [a] } q :=
  ⟨_, push_acts_at h hown hgrow hat⟩
theorem push_syms_at {w w1 : World} {p g : Nat} {R : Ref} {q : RParts} (h : RHolds w p g R q) {a : ByteArray × Bool} {v' : Value} {o : Obj} (hown : w1.ownsRow 0 101 2 v' (R.syms.length + 1) (symCells (R.syms ++ [a]))) (hgrow : (w.alloc o).grownBy w1 q.vs.ownBlock)
    (hat : v'.ownBlock = q.vs.ownBlock ∨ v'.ownBlock = some (w.alloc o).heap.size) :
    RHolds (w1.setCell ⟨p, 0, none⟩ v') p (g + 1) { R with syms := R.syms ++ [a] } ⟨v', q.va, q.vt⟩ ∧ (∀ k, (RParts.mk v'  q.va  q.vt).has p k → q.has p k ∨ w.heap.size ≤ k) ∧ Turns (q.has p) w (w1.setCell ⟨p, 0, none⟩ v') := by
  have hlt := h.lt
  have ht1 : Turns (fun k => q.vs.ownBlock = some k) w w1 := (Turns.alloc _ w _).trans (Turns.of_grown (fp := fun k => q.vs.ownBlock = some k) hgrow (fun k hk => hk)) (fun k hk => .inl hk)
  have hb1 : ∀ k, k < w.heap.size → tyOf w k ≠ some 101 → w1.heap[k]? = w.heap[k]? := fun k hk hty => ht1.block k hk (fun e => hty (tyOf_row h.syms e))
  have hp1 : w1.heap[p]? = some (.cells #[q.vs, q.va, q.vt] 99 (0, 0)) := (hb1 p (hlt p (.inl rfl)) (by rw [h.tp]; decide)).trans h.cells
  have hpt : tyOf w1 p = some 99 := tyOf_cells hp1
  have step : ∀ k, k ≠ p → (w1.setCell ⟨p, 0, none⟩ v').heap[k]? = w1.heap[k]? := fun k h1 => Below.heap_setCell w1 ⟨p, 0, none⟩ _ k h1
  have row : ∀ k t, k < w.heap.size → tyOf w k = t → t ≠ some 101 → t ≠ some 99 → (w1.setCell ⟨p, 0, none⟩ v').heap[k]? = w.heap[k]? := fun k t hk ht h1 h2 =>
    (step k (ne_ty ht h.tp h2)).trans (hb1 k hk (by rw [ht]; exact h1))
  refine ⟨⟨?_, ?_, own_move h.acts (fun k hk => row k _ (h.acts.lt k hk).2 (tyOf_row h.acts hk) (by decide) (by decide)), own_move h.taken (fun k hk => row k _ (h.taken.lt k hk).2 (tyOf_row h.taken hk) (by decide) (by decide)), by have := h.few; show R.acts.length ≤ g + 1; omega⟩, ?_, ?_⟩
  · rw [set_block hp1]
    rfl
  · show World.ownsRow _ _ _ _ _ (R.syms ++ [a]).length _
    rw [List.length_append, List.length_singleton]
    exact own_move hown (fun k hk => step k (ne_ty (tyOf_row hown hk) hpt (by decide)))
  · intro k hk
    rcases hk with hk | hk | hk | hk
    · exact .inl (.inl hk)
    · rcases hat with e | e
      · rw [show (RParts.mk v' q.va q.vt).vs = v' from rfl, e] at hk
        exact .inl (.inr (.inl hk))
      · rw [show (RParts.mk v' q.va q.vt).vs = v' from rfl, e] at hk
        right
        have := Option.some.inj hk
        simp at this
        omega
    · exact .inl (.inr (.inr (.inl hk)))
    · exact .inl (.inr (.inr (.inr hk)))
  · refine Turns.trans (ht1.mono ?_) (Turns.setCell (fp := fun k => k = p) w1 ⟨p, 0, none⟩ _ rfl) ?_
    · intro k hk; simp [RParts.has, hk]
    · rintro k rfl; left; simp [RParts.has]
theorem push_syms {w w1 : World} {p g : Nat} {R : Ref} {q : RParts} (h : RHolds w p g R q) {a : ByteArray × Bool} {v' : Value} {o : Obj} (hown : w1.ownsRow 0 101 2 v' (R.syms.length + 1) (symCells (R.syms ++ [a]))) (hgrow : (w.alloc o).grownBy w1 q.vs.ownBlock)
    (hat : v'.ownBlock = q.vs.ownBlock ∨ v'.ownBlock = some (w.alloc o).heap.size) : RSteps w (w1.setCell ⟨p, 0, none⟩ v') p (g + 1) { R with syms := R.syms ++ [a] } q :=
  ⟨_, push_syms_at h hown hgrow hat⟩
theorem info3 : (Tryd.prog.info? 3).map (fun i => (i.zero, i.size, i.bytes)) = some (some (.int .i64 0), 1, 8) := by kernel_rfl
theorem info101 : (Tryd.prog.info? 101).map (fun i => (i.zero, i.size, i.bytes)) = some (some (.agg #[.string .empty, .bool false]), 2, 24) := by kernel_rfl

theorem cells_after {w w1 : World} {p : Nat} {c : Array Value} {o : Obj} {e size n : Nat} {v : Value} {xs : List Value} (h : w.heap[p]? = some (.cells c 99 (0, 0))) (hr : w.ownsRow 0 e size v n xs) (hg : (w.alloc o).grownBy w1 v.ownBlock) (he : e ≠ 99) :
    w1.heap[p]? = some (.cells c 99 (0, 0)) := by
  have hp := (Array.getElem?_eq_some_iff.1 h).1
  rw [← h]
  refine (hg.block p (by simp; omega) (fun e2 => ?_)).trans (Below.heap_alloc w o p hp)
  have h1 := tyOf_row hr e2.symm
  rw [tyOf_cells h] at h1
  exact he (Option.some.inj h1).symm

/-! ### Open, Close -/
set_option maxHeartbeats 1000000 in
set_option maxRecDepth 100000 in
theorem ropen_full {w : World} {p g : Nat} {R : Ref} {q : RParts} (h : RHolds w p g R q) (hg : g + 2 < 17592186044416) (d : Nat) (hd : depthL R.acts = (d : Int)) (hsc : 16 ≤ d) :
    Calls Tryd.prog 63 #[.pointer (some ⟨p, 0, none⟩)] w fun e w' => e = .returned (.int .i64 23) ∧ RSteps w w' p (g + 1) R q := by
  have hdep := rdepth_calls (fp := fun _ => True) ⟨q, h, fun _ _ => trivial⟩ (by unfold maxLen; omega)
  rw [hd] at hdep
  have H := Aside0.mk h
  clear h
  have d3 : (16 : Int) ≤ (d : Int) := by omega
  go_enter Tryd.func63, Tryd.ntmps63
  go_wp2_with fail
  refine hdep.mono ?_
  rintro e w2 ⟨rfl, hd2⟩
  have Hd := Aside0.mk hd2
  clear hd2
  go_wp2_with fail
  go_ret
  exact ⟨rfl, rsteps_drawn H.out (by omega) Hd.out⟩
set_option maxHeartbeats 1000000 in
set_option maxRecDepth 100000 in
theorem ropen_new {w : World} {p g : Nat} {R : Ref} {q : RParts} (h : RHolds w p g R q) (hg : g + 2 < 17592186044416) (d : Nat) (hd : depthL R.acts = (d : Int)) (hsc : d < 16) :
    Calls Tryd.prog 63 #[.pointer (some ⟨p, 0, none⟩)] w fun e w' => e = .returned (.int .i64 0) ∧ RSteps w w' p (g + 1) { R with acts := R.acts ++ [-1] } q := by
  have hdep := rdepth_calls (fp := fun _ => True) ⟨q, h, fun _ _ => trivial⟩ (by unfold maxLen; omega)
  rw [hd] at hdep
  obtain ⟨vs, va, vt⟩ := q
  have H := Aside0.mk h
  obtain ⟨A, cap, e, _⟩ := row_slice h.acts
  simp only at e
  subst e
  have hlen := h.few
  have d3 : (d : Int) < 16 := by omega
  obtain ⟨i0, hi, hz0, hz1, hz2⟩ := info_parts info3
  have Hi := Aside0.mk hi
  have Hz0 := Aside0.mk hz0
  have Hz1 := Aside0.mk hz1
  have Hz2 := Aside0.mk hz2
  clear h hi hz0 hz1 hz2
  go_enter Tryd.func63, Tryd.ntmps63
  go_wp2_with fail
  refine hdep.mono ?_
  rintro e w2 ⟨rfl, hd2⟩
  have H2 := Aside0.mk (show RHolds w2 p g R ⟨vs, .slice A R.acts.length cap, vt⟩ from by obtain ⟨n, rfl⟩ := hd2; exact H.out.move (fun _ _ => rfl))
  have HS := Aside0.mk H2.out.acts
  have c1 := (cell_at H2.out.cells 1).1
  simp only [List.getElem?_toArray, List.getElem?_cons_zero, List.getElem?_cons_succ] at c1
  have Hd := Aside0.mk hd2
  clear hd2 hdep
  go_wp2_with (at_builtin; refine wpList_append_own_at _ rfl (.tmp 10) (.tmp 11) 57 rfl 0 3 i0 (.int .i64 0) 1 8 Tryd.underlying57 Hi.out Hz0.out Hz1.out Hz2.out rfl (by decide) _ _ _ rfl (HS.out.alloc _) ⟨w2.heap.size, 0, none⟩ 1 1 [.int .i64 (-1)] rfl rfl (cell_one_new _ _ _) ?c2 (by unfold maxLen; omega) (by omega) (Nat.zero_le _) ?_)
  case c2 => intro u hu; simp at hu; subst hu; rfl
  intro v' w1 hown1 hgrow1 hnil1 hat1
  clear hnil1
  obtain ⟨A', cap', e', _⟩ := row_slice hown1
  subst e'
  have hp1 : w1.heap[p]? = some (.cells #[vs, .slice A R.acts.length cap, vt] 99 (0, 0)) := cells_after H2.out.cells HS.out hgrow1 (by decide)
  have f1 := (cell_at hp1 1).2
  have d1 := (cell_at hp1 1).1
  simp only [List.getElem?_toArray, List.getElem?_cons_zero, List.getElem?_cons_succ] at d1
  have X := Aside0.mk (show RSteps w2 (w1.setCell ⟨p, 1, none⟩ (.slice A' (R.acts.length + 1) cap')) p (g + 1) { R with acts := R.acts ++ [-1] } ⟨vs, .slice A R.acts.length cap, vt⟩ from push_acts H2.out (by simpa [actCells] using hown1) hgrow1 (by simpa using hat1))
  clear hown1 hgrow1 hat1 hp1 c1
  go_wp2_with fail
  go_ret
  exact ⟨rfl, X.out.before Hd.out⟩
set_option maxHeartbeats 1000000 in
set_option maxRecDepth 100000 in
theorem rclose_none {w : World} {p g : Nat} {R : Ref} {q : RParts} (h : RHolds w p g R q) (hg : g + 2 < 17592186044416) (d : Nat) (hd : depthL R.acts = (d : Int)) (hsc : d = 0) :
    Calls Tryd.prog 64 #[.pointer (some ⟨p, 0, none⟩)] w fun e w' => e = .returned (.int .i64 23) ∧ RSteps w w' p (g + 1) R q := by
  have hdep := rdepth_calls (fp := fun _ => True) ⟨q, h, fun _ _ => trivial⟩ (by unfold maxLen; omega)
  rw [hd] at hdep
  have H := Aside0.mk h
  clear h
  have d3 : ((d : Int) == 0) = true := by rw [hsc]; rfl
  go_enter Tryd.func64, Tryd.ntmps64
  go_wp2_with fail
  refine hdep.mono ?_
  rintro e w2 ⟨rfl, hd2⟩
  have Hd := Aside0.mk hd2
  clear hd2
  go_wp2_with fail
  go_ret
  exact ⟨rfl, rsteps_drawn H.out (by omega) Hd.out⟩
set_option maxHeartbeats 1000000 in
set_option maxRecDepth 100000 in
theorem rclose_new {w : World} {p g : Nat} {R : Ref} {q : RParts} (h : RHolds w p g R q) (hg : g + 2 < 17592186044416) (d : Nat) (hd : depthL R.acts = (d : Int)) (hsc : d ≠ 0) :
    Calls Tryd.prog 64 #[.pointer (some ⟨p, 0, none⟩)] w fun e w' => e = .returned (.int .i64 0) ∧ RSteps w w' p (g + 1) { R with acts := R.acts ++ [-2] } q := by
  have hdep := rdepth_calls (fp := fun _ => True) ⟨q, h, fun _ _ => trivial⟩ (by unfold maxLen; omega)
  rw [hd] at hdep
  obtain ⟨vs, va, vt⟩ := q
  have H := Aside0.mk h
  obtain ⟨A, cap, e, _⟩ := row_slice h.acts
  simp only at e
  subst e
  have hlen := h.few
  have d3 : ((d : Int) == 0) = false := by rw [beq_eq_false_iff_ne]; omega
  obtain ⟨i0, hi, hz0, hz1, hz2⟩ := info_parts info3
  have Hi := Aside0.mk hi
  have Hz0 := Aside0.mk hz0
  have Hz1 := Aside0.mk hz1
  have Hz2 := Aside0.mk hz2
  clear h hi hz0 hz1 hz2
  go_enter Tryd.func64, Tryd.ntmps64
  go_wp2_with fail
  refine hdep.mono ?_
  rintro e w2 ⟨rfl, hd2⟩
  have H2 := Aside0.mk (show RHolds w2 p g R ⟨vs, .slice A R.acts.length cap, vt⟩ from by obtain ⟨n, rfl⟩ := hd2; exact H.out.move (fun _ _ => rfl))
  have HS := Aside0.mk H2.out.acts
  have c1 := (cell_at H2.out.cells 1).1
  simp only [List.getElem?_toArray, List.getElem?_cons_zero, List.getElem?_cons_succ] at c1
  have Hd := Aside0.mk hd2
  clear hd2 hdep
  go_wp2_with (at_builtin; refine wpList_append_own_at _ rfl (.tmp 10) (.tmp 11) 57 rfl 0 3 i0 (.int .i64 0) 1 8 Tryd.underlying57 Hi.out Hz0.out Hz1.out Hz2.out rfl (by decide) _ _ _ rfl (HS.out.alloc _) ⟨w2.heap.size, 0, none⟩ 1 1 [.int .i64 (-2)] rfl rfl (cell_one_new _ _ _) ?c2 (by unfold maxLen; omega) (by omega) (Nat.zero_le _) ?_)
  case c2 => intro u hu; simp at hu; subst hu; rfl
  intro v' w1 hown1 hgrow1 hnil1 hat1
  clear hnil1
  obtain ⟨A', cap', e', _⟩ := row_slice hown1
  subst e'
  have hp1 : w1.heap[p]? = some (.cells #[vs, .slice A R.acts.length cap, vt] 99 (0, 0)) := cells_after H2.out.cells HS.out hgrow1 (by decide)
  have f1 := (cell_at hp1 1).2
  have d1 := (cell_at hp1 1).1
  simp only [List.getElem?_toArray, List.getElem?_cons_zero, List.getElem?_cons_succ] at d1
  have X := Aside0.mk (show RSteps w2 (w1.setCell ⟨p, 1, none⟩ (.slice A' (R.acts.length + 1) cap')) p (g + 1) { R with acts := R.acts ++ [-2] } ⟨vs, .slice A R.acts.length cap, vt⟩ from push_acts H2.out (by simpa [actCells] using hown1) hgrow1 (by simpa using hat1))
  clear hown1 hgrow1 hat1 hp1 c1
  go_wp2_with fail
  go_ret
  exact ⟨rfl, X.out.before Hd.out⟩
end Go.Proofs.YtpoojimmponklaaDoor.SymRefDoes

namespace Go.Proofs.YtpoojimmponklaaDoor.SymRefNames
open Go.RowKit Go.Proofs.YtpoojimmponklaaDoor.SymTab Go.Proofs.YtpoojimmponklaaDoor.SymScan Go.Proofs.YtpoojimmponklaaDoor.SymName Go.Proofs.YtpoojimmponklaaDoor.PSymPlays Go.Proofs.YtpoojimmponklaaDoorW.PrintWords
set_option linter.unusedVariables false

theorem bt_nat {s : ByteArray} {i : Nat} (hi : i < s.size) : bt s (i : Int) = (s[i].toNat : Int) := by
  have := bt_at s (i : Int) (by simpa using hi)
  simpa using this.symm
theorem sym_round (k : Nat) (s : ByteArray) (i : Nat) (hi : i < s.size) :
    lemmaref02_SymbolName.l0 (k + 1) s (i : Int) = if byteOk s[i] = true then lemmaref02_SymbolName.l0 k s (wrap64 ((i : Int) + 1)) else some false := by
  simp only [lemmaref02_SymbolName.l0]
  rw [if_pos (by omega), if_pos (by omega), bt_nat hi]
  generalize lemmaref02_SymbolName.l0 k s (wrap64 ((i : Int) + 1)) = R
  generalize s[i] = b
  by_cases h : byteOk b = true
  · rw [if_pos h]
    unfold byteOk at h
    simp only [Bool.and_eq_true, decide_eq_true_eq, UInt8.le_iff_toNat_le, bne_iff_ne, ne_eq, ← UInt8.toNat_inj] at h
    obtain ⟨⟨h1, h2⟩, h3⟩ := h
    have h1' : 33 ≤ b.toNat := h1
    have h2' : b.toNat ≤ 126 := h2
    have h3' : b.toNat ≠ 36 := h3
    rw [if_neg (by omega), if_neg (by omega), if_neg (by omega)]
  · rw [if_neg h]
    unfold byteOk at h
    simp only [Bool.and_eq_true, decide_eq_true_eq, UInt8.le_iff_toNat_le, bne_iff_ne, ne_eq, ← UInt8.toNat_inj] at h
    by_cases h1 : b.toNat < 33
    · rw [if_pos (by omega)]
    · rw [if_neg (by omega)]
      by_cases h2 : b.toNat > 126
      · rw [if_pos (by omega)]
      · rw [if_neg (by omega)]
        by_cases h3 : b.toNat = 36
        · rw [if_pos (by omega)]
        · exact absurd ⟨⟨(by show 33 ≤ b.toNat; omega), (by show b.toNat ≤ 126; omega)⟩, h3⟩ h
theorem sym_l0 (s : ByteArray) (h1 : 1 ≤ s.size) (hs : s.size ≤ 32) (d : Nat) : ∀ (k i : Nat), i ≤ s.size → s.size - i = d → d < k → (s.data.toList.take i).all byteOk = true →
    lemmaref02_SymbolName.l0 k s (i : Int) = some (symOk s) := by
  induction d with
  | zero =>
    intro k i hi hd hk ha
    obtain ⟨k, rfl⟩ : ∃ m, k = m + 1 := ⟨k - 1, by omega⟩
    rw [List.take_of_length_le (by simp; omega)] at ha
    simp only [lemmaref02_SymbolName.l0]
    rw [if_neg (by omega)]
    unfold symOk
    rw [ha]
    simp [h1, hs]
  | succ d ih =>
    intro k i hi hd hk ha
    obtain ⟨k, rfl⟩ : ∃ m, k = m + 1 := ⟨k - 1, by omega⟩
    have hlt : i < s.size := by omega
    rw [sym_round k s i hlt]
    have ht := take_all hlt byteOk
    rw [ha, Bool.true_and] at ht
    cases hb : byteOk s[i] with
    | false =>
      rw [if_neg (by simp)]
      unfold symOk
      rw [all_false hlt byteOk hb]
      rfl
    | true =>
      rw [if_pos rfl, show wrap64 ((i : Int) + 1) = ((i + 1 : Nat) : Int) from by unfold wrap64; omega]
      exact ih k (i + 1) (by omega) (by omega) (by omega) (by rw [ht, hb])
theorem symName_calls {w : World} (s : ByteArray) : Calls Tryd.prog 77 #[.string s] w fun e w' => e = .returned (.bool (symOk s)) ∧ Drawn0 w w' := by
  refine lemmaref02_SymbolName.calls (s.size + 2) s (symOk s) w ?_
  unfold lemmaref02_SymbolName.f
  by_cases h1 : 1 ≤ s.size
  · rw [if_neg (by omega)]
    simp only [lemmaref02_SymbolName.j0]
    by_cases h2 : s.size ≤ 32
    · rw [if_neg (by simp; omega)]
      exact sym_l0 s h1 h2 s.size (s.size + 1) 0 (by omega) (by omega) (by omega) (by simp)
    · rw [if_pos (by simp; omega)]
      unfold symOk
      rw [decide_eq_false h2, Bool.and_false]
  · rw [if_pos (by omega)]
    simp only [lemmaref02_SymbolName.j0]
    rw [if_pos trivial]
    unfold symOk
    rw [decide_eq_false h1, Bool.and_false, Bool.false_and]
end Go.Proofs.YtpoojimmponklaaDoor.SymRefNames

namespace Go.Proofs.YtpoojimmponklaaDoor.SymRefMore
open Go.RowKit Go.Maps Go.Proofs.YtpoojimmponklaaDoor.SymTab Go.Proofs.YtpoojimmponklaaDoor.SymHeap Go.Proofs.YtpoojimmponklaaDoor.SymReads Go.Proofs.YtpoojimmponklaaDoor.SymAdd Go.Proofs.YtpoojimmponklaaDoor.SymConst Go.Proofs.YtpoojimmponklaaDoor.SymApi Go.Proofs.YtpoojimmponklaaDoor.SymRef Go.Proofs.YtpoojimmponklaaDoor.SymRefDoes Go.Proofs.YtpoojimmponklaaDoor.SymRefNames
open Go.Proofs.YtpoojimmponklaaDoorW.PrintWords
set_option linter.unusedVariables false

/-- The document's table tells what the program's does. -/
structure Mir (T : Tab) (R : Ref) : Prop where
  syms : R.syms = T.syms
  taken : R.taken = T.labels
  rel : Rel T R.acts
  wf : WF T

theorem hdrawn {w w' : World} {p g : Nat} {R : Ref} {q : RParts} (h : RHolds w p g R q) (hd : Drawn0 w w') : RHolds w' p g R q := by
  obtain ⟨n, rfl⟩ := hd
  exact h.move (fun _ _ => rfl)
theorem dtrans {a b c : World} (h : Drawn0 a b) (k : Drawn0 b c) : Drawn0 a c := by
  obtain ⟨n, rfl⟩ := k
  exact Drawn0.step h n
section
variable {w : World} {p g : Nat} {R : Ref} {q : RParts}
theorem rdepth_h (h : RHolds w p g R q) (hg : g < maxLen) {d : Nat} (hd : depthL R.acts = (d : Int)) : Calls Tryd.prog 37 #[.pointer (some ⟨p, 0, none⟩)] w fun e w' => e = .returned (.int .i64 (d : Int)) ∧ Drawn0 w w' := by
  have := rdepth_calls (fp := fun _ => True) ⟨q, h, fun _ _ => trivial⟩ hg
  rwa [hd] at this
theorem number_h (h : RHolds w p g R q) (hn : R.syms.length ≤ 512) {s : ByteArray} (hs : s.size ≤ maxLen) {v : Int} (hv : numI (idx R.syms s) = v) : Calls Tryd.prog 78 #[.pointer (some ⟨p, 0, none⟩), .string s] w fun e w' => e = .returned (.int .i64 v) ∧ Drawn0 w w' := by
  subst hv
  exact number_calls (fp := fun _ => True) ⟨q, h, fun _ _ => trivial⟩ hn s hs
theorem ractive_h (h : RHolds w p g R q) (hg : g < maxLen) {n : Int} {b : Bool} (hv : rActive R n = b) : Calls Tryd.prog 41 #[.pointer (some ⟨p, 0, none⟩), .int .i64 n] w fun e w' => e = .returned (.bool b) ∧ Drawn0 w w' := by
  subst hv
  exact ractive_calls (fp := fun _ => True) ⟨q, h, fun _ _ => trivial⟩ hg n
theorem symName_h {s : ByteArray} {b : Bool} (hb : symOk s = b) : Calls Tryd.prog 77 #[.string s] w fun e w' => e = .returned (.bool b) ∧ Drawn0 w w' := by
  subst hb
  exact symName_calls s
end

/-! ### Const -/
section
variable {w : World} {p g : Nat} {T : Tab} {R : Ref} {q : RParts}
set_option maxHeartbeats 1000000 in
set_option maxRecDepth 100000 in
theorem rconst_1 (h : RHolds w p g R q) (hm : Mir T R) (hg : g + 2 < 17592186044416) (s : ByteArray) (hs : s.size ≤ maxLen) (h1 : 0 < T.scopes.length) :
    Calls Tryd.prog 65 #[.pointer (some ⟨p, 0, none⟩), .string s] w fun e w' => e = .returned (.tuple #[.int .i64 0, .int .i64 23]) ∧ RSteps w w' p (g + 1) R q := by
  have H := Aside0.mk h
  have HM := Aside0.mk hm
  clear h hm
  have d1 : decide ((0 : Int) < (T.scopes.length : Int)) = true := decide_eq_true (by omega)
  go_enter Tryd.func65, Tryd.ntmps65
  go_wp2_with fail
  refine (rdepth_h H.out (by unfold maxLen; omega) HM.out.rel.depth).mono ?_
  rintro e w2 ⟨rfl, hd2⟩
  have D := Aside0.mk hd2
  clear hd2
  go_wp2_with fail
  go_ret2
  exact ⟨rfl, rsteps_drawn H.out (by omega) D.out⟩
set_option maxHeartbeats 1000000 in
set_option maxRecDepth 100000 in
theorem rconst_2 (h : RHolds w p g R q) (hm : Mir T R) (hg : g + 2 < 17592186044416) (s : ByteArray) (hs : s.size ≤ maxLen) (h1 : T.scopes.length = 0) (h2 : symOk s = false) :
    Calls Tryd.prog 65 #[.pointer (some ⟨p, 0, none⟩), .string s] w fun e w' => e = .returned (.tuple #[.int .i64 0, .int .i64 21]) ∧ RSteps w w' p (g + 1) R q := by
  have H := Aside0.mk h
  have HM := Aside0.mk hm
  have H2 := Lib.hid h2
  have hdl := hm.rel.depth
  rw [h1] at hdl
  have Hdl := Aside0.mk hdl
  clear h hm h2 hdl
  go_enter Tryd.func65, Tryd.ntmps65
  go_wp2_with fail
  refine (rdepth_h H.out (by unfold maxLen; omega) Hdl.out).mono ?_
  rintro e w2 ⟨rfl, hd2⟩
  have D := Aside0.mk hd2
  clear hd2
  go_wp2_with fail
  refine (symName_h H2.out).mono ?_
  rintro e w3 ⟨rfl, hd3⟩
  have D3 := Aside0.mk (dtrans D.out hd3)
  clear hd3 D
  go_wp2_with fail
  go_ret2
  exact ⟨rfl, rsteps_drawn H.out (by omega) D3.out⟩
set_option maxHeartbeats 1000000 in
set_option maxRecDepth 100000 in
theorem rconst_3 (h : RHolds w p g R q) (hm : Mir T R) (hg : g + 2 < 17592186044416) (s : ByteArray) (hs : s.size ≤ maxLen) (h1 : T.scopes.length = 0) (h2 : symOk s = true) {n : Nat} (h3 : idx T.syms s = some n) :
    Calls Tryd.prog 65 #[.pointer (some ⟨p, 0, none⟩), .string s] w fun e w' => e = .returned (.tuple #[.int .i64 0, .int .i64 20]) ∧ RSteps w w' p (g + 1) R q := by
  have H := Aside0.mk h
  have H2 := Lib.hid h2
  have hfew := hm.wf.few
  rw [← hm.syms] at h3 hfew
  have Hfew := Lib.hid hfew
  have H3 := Lib.hid (show numI (idx R.syms s) = (n : Int) by rw [h3]; rfl)
  have hdl := hm.rel.depth
  rw [h1] at hdl
  have Hdl := Aside0.mk hdl
  clear h hm h2 hdl h3 hfew
  go_enter Tryd.func65, Tryd.ntmps65
  go_wp2_with fail
  refine (rdepth_h H.out (by unfold maxLen; omega) Hdl.out).mono ?_
  rintro e w2 ⟨rfl, hd2⟩
  have D := Aside0.mk hd2
  clear hd2
  go_wp2_with fail
  refine (symName_h H2.out).mono ?_
  rintro e w3 ⟨rfl, hd3⟩
  have D3 := Aside0.mk (dtrans D.out hd3)
  clear hd3 D
  go_wp2_with fail
  refine (number_h (hdrawn H.out D3.out) Hfew.out hs H3.out).mono ?_
  rintro e w4 ⟨rfl, hd4⟩
  have D4 := Aside0.mk (dtrans D3.out hd4)
  clear hd4 D3
  go_wp2_with fail
  go_ret2
  exact ⟨rfl, rsteps_drawn H.out (by omega) D4.out⟩
set_option maxHeartbeats 1000000 in
set_option maxRecDepth 100000 in
theorem rconst_4 (h : RHolds w p g R q) (hm : Mir T R) (hg : g + 2 < 17592186044416) (s : ByteArray) (hs : s.size ≤ maxLen) (h1 : T.scopes.length = 0) (h2 : symOk s = true) (h3 : idx T.syms s = none) (h4 : 512 ≤ T.syms.length) :
    Calls Tryd.prog 65 #[.pointer (some ⟨p, 0, none⟩), .string s] w fun e w' => e = .returned (.tuple #[.int .i64 0, .int .i64 22]) ∧ RSteps w w' p (g + 1) R q := by
  have H := Aside0.mk h
  have H2 := Lib.hid h2
  have hfew := hm.wf.few
  rw [← hm.syms] at h3 hfew h4
  have Hfew := Lib.hid hfew
  have H3 := Lib.hid (show numI (idx R.syms s) = -1 by rw [h3]; rfl)
  have hdl := hm.rel.depth
  rw [h1] at hdl
  have Hdl := Aside0.mk hdl
  obtain ⟨vs, va, vt⟩ := q
  obtain ⟨A, cap, e, _⟩ := row_slice h.syms
  simp only at e
  subst e
  clear h hm h2 hdl h3 hfew
  go_enter Tryd.func65, Tryd.ntmps65
  go_wp2_with fail
  refine (rdepth_h H.out (by unfold maxLen; omega) Hdl.out).mono ?_
  rintro e w2 ⟨rfl, hd2⟩
  have D := Aside0.mk hd2
  clear hd2
  go_wp2_with fail
  refine (symName_h H2.out).mono ?_
  rintro e w3 ⟨rfl, hd3⟩
  have D3 := Aside0.mk (dtrans D.out hd3)
  clear hd3 D
  go_wp2_with fail
  refine (number_h (hdrawn H.out D3.out) Hfew.out hs H3.out).mono ?_
  rintro e w4 ⟨rfl, hd4⟩
  have D4 := Aside0.mk (dtrans D3.out hd4)
  have c0 := (cell_at (hdrawn H.out D4.out).cells 0).1
  simp only [List.getElem?_toArray, List.getElem?_cons_zero] at c0
  clear hd4 D3
  go_wp2_with fail
  go_ret2
  exact ⟨rfl, rsteps_drawn H.out (by omega) D4.out⟩
set_option maxHeartbeats 1000000 in
set_option maxRecDepth 100000 in
theorem rconst_5 (h : RHolds w p g R q) (hm : Mir T R) (hg : g + 2 < 17592186044416) (s : ByteArray) (hs : s.size ≤ maxLen) (h1 : T.scopes.length = 0) (h2 : symOk s = true) (h3 : idx T.syms s = none) (h4 : T.syms.length < 512) :
    Calls Tryd.prog 65 #[.pointer (some ⟨p, 0, none⟩), .string s] w fun e w' => e = .returned (.tuple #[.int .i64 (R.syms.length : Int), .int .i64 0]) ∧ RSteps w w' p (g + 1) { R with syms := R.syms ++ [(s, false)] } q := by
  have H := Aside0.mk h
  have H2 := Lib.hid h2
  have hfew := hm.wf.few
  rw [← hm.syms] at h3 hfew h4
  have Hfew := Lib.hid hfew
  have H3 := Lib.hid (show numI (idx R.syms s) = -1 by rw [h3]; rfl)
  have hdl := hm.rel.depth
  rw [h1] at hdl
  have Hdl := Aside0.mk hdl
  obtain ⟨vs, va, vt⟩ := q
  obtain ⟨A, cap, e, _⟩ := row_slice h.syms
  simp only at e
  subst e
  obtain ⟨i0, hi, hz0, hz1, hz2⟩ := info_parts info101
  have Hi := Aside0.mk hi
  have Hz0 := Aside0.mk hz0
  have Hz1 := Aside0.mk hz1
  have Hz2 := Aside0.mk hz2
  clear h hm h2 hdl h3 hfew hi hz0 hz1 hz2
  go_enter Tryd.func65, Tryd.ntmps65
  go_wp2_with fail
  refine (rdepth_h H.out (by unfold maxLen; omega) Hdl.out).mono ?_
  rintro e w2 ⟨rfl, hd2⟩
  have D := Aside0.mk hd2
  clear hd2
  go_wp2_with fail
  refine (symName_h H2.out).mono ?_
  rintro e w3 ⟨rfl, hd3⟩
  have D3 := Aside0.mk (dtrans D.out hd3)
  clear hd3 D
  go_wp2_with fail
  refine (number_h (hdrawn H.out D3.out) Hfew.out hs H3.out).mono ?_
  rintro e w4 ⟨rfl, hd4⟩
  have D4 := Aside0.mk (dtrans D3.out hd4)
  have HW := Aside0.mk (hdrawn H.out D4.out)
  have HS := Aside0.mk HW.out.syms
  have c0 := (cell_at HW.out.cells 0).1
  simp only [List.getElem?_toArray, List.getElem?_cons_zero] at c0
  clear hd4 D3
  go_wp2_with (at_builtin; refine wpList_append_own_at _ rfl (.tmp 26) (.tmp 29) 97 rfl 0 101 i0 (.agg #[.string .empty, .bool false]) 2 24 Tryd.underlying97 Hi.out Hz0.out Hz1.out Hz2.out rfl (by decide) _ _ _ rfl (HS.out.alloc _) ⟨w4.heap.size, 0, none⟩ 1 1 [.string s, .bool false] rfl rfl (cells_two_new _ _ _ _) ?c2 (by unfold maxLen; omega) (by omega) (Nat.zero_le _) ?_)
  case c2 => intro u hu; simp at hu; rcases hu with rfl | rfl <;> rfl
  intro v' w5 hown1 hgrow1 hnil1 hat1
  clear hnil1
  obtain ⟨A', cap', e', _⟩ := row_slice hown1
  subst e'
  have hp1 : w5.heap[p]? = some (.cells #[.slice A R.syms.length cap, va, vt] 99 (0, 0)) := cells_after HW.out.cells HS.out hgrow1 (by decide)
  have f1 := (cell_at hp1 0).2
  have d1 := (cell_at hp1 0).1
  simp only [List.getElem?_toArray, List.getElem?_cons_zero] at d1
  have X := Aside0.mk (show RSteps w4 (w5.setCell ⟨p, 0, none⟩ (.slice A' (R.syms.length + 1) cap')) p (g + 1) { R with syms := R.syms ++ [(s, false)] } ⟨.slice A R.syms.length cap, va, vt⟩ from push_syms HW.out (by simpa [symCells] using hown1) hgrow1 (by simpa using hat1))
  clear hown1 hgrow1 hat1 hp1 c0
  go_wp2_with fail
  go_ret2
  exact ⟨rfl, X.out.before D4.out⟩
end

theorem mir_const {T : Tab} {R : Ref} (hm : Mir T R) (s : ByteArray) (h1 : T.scopes.length = 0) (h2 : symOk s = true) (h3 : idx T.syms s = none) (h4 : T.syms.length < 512) :
    constT T s = ({ added T s false with act := upd T.act s T.syms.length }, T.syms.length, 0) ∧ Mir (constT T s).1 { R with syms := R.syms ++ [(s, false)] } := by
  have hc : constT T s = ({ added T s false with act := upd T.act s T.syms.length }, T.syms.length, 0) := by
    unfold constT
    rw [if_neg (by omega), if_neg (by simp [h2]), if_neg (by simp [h3]), if_neg (by omega)]
  refine ⟨hc, ?_, ?_, rel_const hm.wf hm.rel s, wf_const hm.wf s⟩
  · rw [hc, hm.syms]; rfl
  · rw [hc, hm.taken]; rfl
theorem rconst_calls {w : World} {p g : Nat} {T : Tab} {R : Ref} {q : RParts} (h : RHolds w p g R q) (hm : Mir T R) (hg : g + 2 < 17592186044416) (s : ByteArray) (hs : s.size ≤ maxLen) :
    Calls Tryd.prog 65 #[.pointer (some ⟨p, 0, none⟩), .string s] w fun e w' => ∃ R', e = .returned (.tuple #[.int .i64 ((constT T s).2.1 : Int), .int .i64 ((constT T s).2.2 : Int)]) ∧ Mir (constT T s).1 R' ∧ RSteps w w' p (g + 1) R' q := by
  by_cases h1 : 0 < T.scopes.length
  · have hc : constT T s = (T, 0, 23) := by unfold constT; rw [if_pos h1]
    rw [hc]
    exact (rconst_1 h hm hg s hs h1).mono fun e w' ⟨he, hd⟩ => ⟨R, he, hm, hd⟩
  · have h1' : T.scopes.length = 0 := by omega
    cases h2 : symOk s with
    | false =>
      have hc : constT T s = (T, 0, 21) := by unfold constT; rw [if_neg h1, if_pos h2]
      rw [hc]
      exact (rconst_2 h hm hg s hs h1' h2).mono fun e w' ⟨he, hd⟩ => ⟨R, he, hm, hd⟩
    | true =>
      cases h3 : idx T.syms s with
      | some n =>
        have hc : constT T s = (T, 0, 20) := by unfold constT; rw [if_neg h1, if_neg (by simp [h2]), if_pos (by simp [h3])]
        rw [hc]
        exact (rconst_3 h hm hg s hs h1' h2 h3).mono fun e w' ⟨he, hd⟩ => ⟨R, he, hm, hd⟩
      | none =>
        by_cases h4 : 512 ≤ T.syms.length
        · have hc : constT T s = (T, 0, 22) := by unfold constT; rw [if_neg h1, if_neg (by simp [h2]), if_neg (by simp [h3]), if_pos h4]
          rw [hc]
          exact (rconst_4 h hm hg s hs h1' h2 h3 h4).mono fun e w' ⟨he, hd⟩ => ⟨R, he, hm, hd⟩
        · obtain ⟨hc, hmir⟩ := mir_const hm s h1' h2 h3 (by omega)
          refine (rconst_5 h hm hg s hs h1' h2 h3 (by omega)).mono fun e w' ⟨he, hd⟩ => ⟨_, ?_, hmir, hd⟩
          rw [he, hc, hm.syms]
          rfl
end Go.Proofs.YtpoojimmponklaaDoor.SymRefMore

namespace Go.Proofs.YtpoojimmponklaaDoor.SymRefVar
open Go.RowKit Go.Maps Go.Proofs.YtpoojimmponklaaDoor.SymTab Go.Proofs.YtpoojimmponklaaDoor.SymHeap Go.Proofs.YtpoojimmponklaaDoor.SymReads Go.Proofs.YtpoojimmponklaaDoor.SymAdd Go.Proofs.YtpoojimmponklaaDoor.SymConst Go.Proofs.YtpoojimmponklaaDoor.SymApi Go.Proofs.YtpoojimmponklaaDoor.SymRef Go.Proofs.YtpoojimmponklaaDoor.SymRefDoes Go.Proofs.YtpoojimmponklaaDoor.SymRefNames Go.Proofs.YtpoojimmponklaaDoor.SymRefMore
open Go.Proofs.YtpoojimmponklaaDoorW.PrintWords
set_option linter.unusedVariables false
theorem cell_one_at (w : World) (b : Nat) (hb : b = w.heap.size) (x : Value) (t : TypeId) : ∀ j u, [x][j]? = some u → (w.alloc (.cells #[x] t)).cell? ((⟨b, 0, none⟩ : Addr).add j) = some u := by
  subst hb
  exact cell_one_new w x t
section
variable {w : World} {p g : Nat} {T : Tab} {R : Ref} {q : RParts}
set_option maxHeartbeats 1000000 in
set_option maxRecDepth 100000 in
theorem rvar_1 (h : RHolds w p g R q) (hm : Mir T R) (hg : g + 2 < 17592186044416) (s : ByteArray) (hs : s.size ≤ maxLen) (h2 : symOk s = false) :
    Calls Tryd.prog 66 #[.pointer (some ⟨p, 0, none⟩), .string s] w fun e w' => e = .returned (.tuple #[.int .i64 0, .int .i64 21]) ∧ RSteps w w' p (g + 1) R q := by
  have H := Aside0.mk h
  have hfew := hm.wf.few
  rw [← hm.syms] at hfew
  have Hfew := Lib.hid hfew
  have H2 := Lib.hid h2
  clear h hm hfew h2
  go_enter Tryd.func66, Tryd.ntmps66
  go_wp2_with fail
  refine (symName_h H2.out).mono ?_
  rintro e w2 ⟨rfl, hd2⟩
  have D2 := Aside0.mk hd2
  clear hd2
  go_wp2_with fail
  go_ret2
  exact ⟨rfl, rsteps_drawn H.out (by omega) D2.out⟩
set_option maxHeartbeats 1000000 in
set_option maxRecDepth 100000 in
theorem rvar_2 (h : RHolds w p g R q) (hm : Mir T R) (hg : g + 2 < 17592186044416) (s : ByteArray) (hs : s.size ≤ maxLen) (h2 : symOk s = true) {n : Nat} (h3 : idx R.syms s = some n) (h5 : rActive R n = true) :
    Calls Tryd.prog 66 #[.pointer (some ⟨p, 0, none⟩), .string s] w fun e w' => e = .returned (.tuple #[.int .i64 0, .int .i64 20]) ∧ RSteps w w' p (g + 1) R q := by
  have H := Aside0.mk h
  have hfew := hm.wf.few
  rw [← hm.syms] at hfew
  have Hfew := Lib.hid hfew
  have H2 := Lib.hid h2
  have H3 := Lib.hid (show numI (idx R.syms s) = (n : Int) by rw [h3]; rfl)
  have H5 := Lib.hid h5
  clear h hm hfew h2 h3 h5
  go_enter Tryd.func66, Tryd.ntmps66
  go_wp2_with fail
  refine (symName_h H2.out).mono ?_
  rintro e w2 ⟨rfl, hd2⟩
  have D2 := Aside0.mk hd2
  clear hd2
  go_wp2_with fail
  refine (number_h (hdrawn H.out D2.out) Hfew.out hs H3.out).mono ?_
  rintro e w3 ⟨rfl, hd3⟩
  have D3 := Aside0.mk (dtrans D2.out hd3)
  clear hd3
  go_wp2_with fail
  refine (ractive_h (hdrawn H.out D3.out) (by unfold maxLen; omega) H5.out).mono ?_
  rintro e w4 ⟨rfl, hd4⟩
  have D4 := Aside0.mk (dtrans D3.out hd4)
  clear hd4
  go_wp2_with fail
  go_ret2
  exact ⟨rfl, rsteps_drawn H.out (by omega) D4.out⟩
set_option maxHeartbeats 1000000 in
set_option maxRecDepth 100000 in
theorem rvar_3 (h : RHolds w p g R q) (hm : Mir T R) (hg : g + 2 < 17592186044416) (s : ByteArray) (hs : s.size ≤ maxLen) (h2 : symOk s = true) {n : Nat} (h3 : idx R.syms s = some n) (h5 : rActive R n = false) :
    Calls Tryd.prog 66 #[.pointer (some ⟨p, 0, none⟩), .string s] w fun e w' => e = .returned (.tuple #[.int .i64 (n : Int), .int .i64 0]) ∧ RSteps w w' p (g + 1) { R with acts := R.acts ++ [(n : Int)] } q := by
  have H := Aside0.mk h
  have hfew := hm.wf.few
  rw [← hm.syms] at hfew
  have Hfew := Lib.hid hfew
  have H2 := Lib.hid h2
  have H3 := Lib.hid (show numI (idx R.syms s) = (n : Int) by rw [h3]; rfl)
  have H5 := Lib.hid h5
  have hn5 : n < 512 := by have := (idx_lt h3).1; omega
  have hlen := h.few
  obtain ⟨vs, va, vt⟩ := q
  obtain ⟨A, capA, e, _⟩ := row_slice h.acts
  simp only at e
  subst e
  obtain ⟨i3, hi, hz0, hz1, hz2⟩ := info_parts info3
  have Hi3 := Aside0.mk hi
  have Hz03 := Aside0.mk hz0
  have Hz13 := Aside0.mk hz1
  have Hz23 := Aside0.mk hz2
  clear hi hz0 hz1 hz2
  clear h hm hfew h2 h3 h5
  go_enter Tryd.func66, Tryd.ntmps66
  go_wp2_with fail
  refine (symName_h H2.out).mono ?_
  rintro e w2 ⟨rfl, hd2⟩
  have D2 := Aside0.mk hd2
  clear hd2
  go_wp2_with fail
  refine (number_h (hdrawn H.out D2.out) Hfew.out hs H3.out).mono ?_
  rintro e w3 ⟨rfl, hd3⟩
  have D3 := Aside0.mk (dtrans D2.out hd3)
  clear hd3
  go_wp2_with fail
  refine (ractive_h (hdrawn H.out D3.out) (by unfold maxLen; omega) H5.out).mono ?_
  rintro e w4 ⟨rfl, hd4⟩
  have D4 := Aside0.mk (dtrans D3.out hd4)
  clear hd4
  have HW := Aside0.mk (hdrawn H.out D4.out)
  have HA := Aside0.mk HW.out.acts
  have c1 := (cell_at HW.out.cells 1).1
  simp only [List.getElem?_toArray, List.getElem?_cons_zero, List.getElem?_cons_succ] at c1
  go_wp2_with (at_builtin; refine wpList_append_own_at _ rfl (.tmp 45) (.tmp 47) 57 rfl 0 3 i3 (.int .i64 0) 1 8 Tryd.underlying57 Hi3.out Hz03.out Hz13.out Hz23.out rfl (by decide) _ _ _ rfl (HA.out.alloc _) ⟨w4.heap.size, 0, none⟩ 1 1 [.int .i64 (n : Int)] rfl rfl (cell_one_new _ _ _) ?c2 (by unfold maxLen; omega) (by omega) (Nat.zero_le _) ?_)
  case c2 => first | rfl | (intro u hu; simp at hu; subst hu; rfl)
  intro v' w5 hown1 hgrow1 hnil1 hat1
  clear hnil1
  obtain ⟨A', cap', e', _⟩ := row_slice hown1
  subst e'
  have hp1 : w5.heap[p]? = some (.cells #[vs, .slice A R.acts.length capA, vt] 99 (0, 0)) := cells_after HW.out.cells HA.out hgrow1 (by decide)
  have f1 := (cell_at hp1 1).2
  have d1 := (cell_at hp1 1).1
  simp only [List.getElem?_toArray, List.getElem?_cons_zero, List.getElem?_cons_succ] at d1
  have X := Aside0.mk (show RSteps w4 (w5.setCell ⟨p, 1, none⟩ (.slice A' (R.acts.length + 1) cap')) p (g + 1) { R with acts := R.acts ++ [(n : Int)] } ⟨vs, .slice A R.acts.length capA, vt⟩ from push_acts HW.out (by simpa [actCells] using hown1) hgrow1 (by simpa using hat1))
  clear hown1 hgrow1 hat1 hp1 c1
  go_wp2_with fail
  go_ret2
  exact ⟨rfl, X.out.before D4.out⟩
set_option maxHeartbeats 1000000 in
set_option maxRecDepth 100000 in
theorem rvar_4 (h : RHolds w p g R q) (hm : Mir T R) (hg : g + 2 < 17592186044416) (s : ByteArray) (hs : s.size ≤ maxLen) (h2 : symOk s = true) (h3 : idx R.syms s = none) (h5 : rActive R (-1) = false) (h4 : 512 ≤ R.syms.length) :
    Calls Tryd.prog 66 #[.pointer (some ⟨p, 0, none⟩), .string s] w fun e w' => e = .returned (.tuple #[.int .i64 0, .int .i64 22]) ∧ RSteps w w' p (g + 1) R q := by
  have H := Aside0.mk h
  have hfew := hm.wf.few
  rw [← hm.syms] at hfew
  have Hfew := Lib.hid hfew
  have H2 := Lib.hid h2
  have H3 := Lib.hid (show numI (idx R.syms s) = -1 by rw [h3]; rfl)
  have H5 := Lib.hid h5
  obtain ⟨vs, va, vt⟩ := q
  obtain ⟨A, capA, e, _⟩ := row_slice h.syms
  simp only at e
  subst e
  clear h hm hfew h2 h3 h5
  go_enter Tryd.func66, Tryd.ntmps66
  go_wp2_with fail
  refine (symName_h H2.out).mono ?_
  rintro e w2 ⟨rfl, hd2⟩
  have D2 := Aside0.mk hd2
  clear hd2
  go_wp2_with fail
  refine (number_h (hdrawn H.out D2.out) Hfew.out hs H3.out).mono ?_
  rintro e w3 ⟨rfl, hd3⟩
  have D3 := Aside0.mk (dtrans D2.out hd3)
  clear hd3
  go_wp2_with fail
  refine (ractive_h (hdrawn H.out D3.out) (by unfold maxLen; omega) H5.out).mono ?_
  rintro e w4 ⟨rfl, hd4⟩
  have D4 := Aside0.mk (dtrans D3.out hd4)
  clear hd4
  have HW := Aside0.mk (hdrawn H.out D4.out)
  have c0 := (cell_at HW.out.cells 0).1
  simp only [List.getElem?_toArray, List.getElem?_cons_zero] at c0
  go_wp2_with fail
  go_ret2
  exact ⟨rfl, rsteps_drawn H.out (by omega) D4.out⟩
set_option maxHeartbeats 1000000 in
set_option maxRecDepth 100000 in
theorem rvar_5 (h : RHolds w p g R q) (hm : Mir T R) (hg : g + 2 < 17592186044416) (s : ByteArray) (hs : s.size ≤ maxLen) (h2 : symOk s = true) (h3 : idx R.syms s = none) (h5 : rActive R (-1) = false) (h4 : R.syms.length < 512) :
    Calls Tryd.prog 66 #[.pointer (some ⟨p, 0, none⟩), .string s] w fun e w' => e = .returned (.tuple #[.int .i64 (R.syms.length : Int), .int .i64 0]) ∧ RSteps w w' p (g + 1) { R with syms := R.syms ++ [(s, true)], acts := R.acts ++ [(R.syms.length : Int)] } q := by
  have H := Aside0.mk h
  have hfew := hm.wf.few
  rw [← hm.syms] at hfew
  have Hfew := Lib.hid hfew
  have H2 := Lib.hid h2
  have H3 := Lib.hid (show numI (idx R.syms s) = -1 by rw [h3]; rfl)
  have H5 := Lib.hid h5
  have hlen := h.few
  obtain ⟨vs, va, vt⟩ := q
  obtain ⟨S, capS, e, _⟩ := row_slice h.syms
  simp only at e
  subst e
  obtain ⟨A, capA, e, _⟩ := row_slice h.acts
  simp only at e
  subst e
  obtain ⟨i3, hi, hz0, hz1, hz2⟩ := info_parts info3
  have Hi3 := Aside0.mk hi
  have Hz03 := Aside0.mk hz0
  have Hz13 := Aside0.mk hz1
  have Hz23 := Aside0.mk hz2
  clear hi hz0 hz1 hz2
  obtain ⟨i101, hi, hz0, hz1, hz2⟩ := info_parts info101
  have Hi101 := Aside0.mk hi
  have Hz0101 := Aside0.mk hz0
  have Hz1101 := Aside0.mk hz1
  have Hz2101 := Aside0.mk hz2
  clear hi hz0 hz1 hz2
  clear h hm hfew h2 h3 h5
  go_enter Tryd.func66, Tryd.ntmps66
  go_wp2_with fail
  refine (symName_h H2.out).mono ?_
  rintro e w2 ⟨rfl, hd2⟩
  have D2 := Aside0.mk hd2
  clear hd2
  go_wp2_with fail
  refine (number_h (hdrawn H.out D2.out) Hfew.out hs H3.out).mono ?_
  rintro e w3 ⟨rfl, hd3⟩
  have D3 := Aside0.mk (dtrans D2.out hd3)
  clear hd3
  go_wp2_with fail
  refine (ractive_h (hdrawn H.out D3.out) (by unfold maxLen; omega) H5.out).mono ?_
  rintro e w4 ⟨rfl, hd4⟩
  have D4 := Aside0.mk (dtrans D3.out hd4)
  clear hd4
  have HW := Aside0.mk (hdrawn H.out D4.out)
  have HS := Aside0.mk HW.out.syms
  have c0 := (cell_at HW.out.cells 0).1
  simp only [List.getElem?_toArray, List.getElem?_cons_zero] at c0
  go_wp2_with (at_builtin; refine wpList_append_own_at _ rfl (.tmp 28) (.tmp 31) 97 rfl 0 101 i101 (.agg #[.string .empty, .bool false]) 2 24 Tryd.underlying97 Hi101.out Hz0101.out Hz1101.out Hz2101.out rfl (by decide) _ _ _ rfl (HS.out.alloc _) ⟨w4.heap.size, 0, none⟩ 1 1 [.string s, .bool true] rfl rfl (cells_two_new _ _ _ _) ?c2 (by unfold maxLen; omega) (by omega) (Nat.zero_le _) ?_)
  case c2 => intro u hu; simp at hu; rcases hu with rfl | rfl <;> rfl
  intro v' w5 hown1 hgrow1 hnil1 hat1
  clear hnil1
  obtain ⟨S', capS', e', _⟩ := row_slice hown1
  subst e'
  have hp1 : w5.heap[p]? = some (.cells #[.slice S R.syms.length capS, .slice A R.acts.length capA, vt] 99 (0, 0)) := cells_after HW.out.cells HS.out hgrow1 (by decide)
  have f1 := (cell_at hp1 0).2
  have d1 := (cell_at hp1 0).1
  simp only [List.getElem?_toArray, List.getElem?_cons_zero] at d1
  have dA := (cell_at hp1 1).1
  simp only [List.getElem?_toArray, List.getElem?_cons_zero, List.getElem?_cons_succ] at dA
  have HV := Aside0.mk (push_syms_at (a := (s, true)) HW.out (by simpa [symCells] using hown1) hgrow1 (by simpa using hat1))
  have HA := Aside0.mk (show (w5.setCell ⟨p, 0, none⟩ (.slice S' (R.syms.length + 1) capS')).ownsRow 0 3 1 (.slice A R.acts.length capA) R.acts.length (actCells R.acts) from HV.out.1.acts)
  clear hown1 hgrow1 hat1 hp1 c0
  go_wp2_with (at_builtin; refine wpList_append_own_at _ rfl (.tmp 45) (.tmp 47) 57 rfl 0 3 i3 (.int .i64 0) 1 8 Tryd.underlying57 Hi3.out Hz03.out Hz13.out Hz23.out rfl (by decide) _ _ _ rfl (HA.out.alloc _) ⟨w5.heap.size, 0, none⟩ 1 1 [.int .i64 (R.syms.length : Int)] rfl rfl (cell_one_at _ _ (by simp [World.setCell]) _ _) ?c2 (by unfold maxLen; omega) (by omega) (Nat.zero_le _) ?_)
  case c2 => first | rfl | (intro u hu; simp at hu; subst hu; rfl)
  intro v2 w7 hown2 hgrow2 hnil2 hat2
  clear hnil2
  obtain ⟨A', capA', e', _⟩ := row_slice hown2
  subst e'
  have hp2 : w7.heap[p]? = some (.cells #[.slice S' (R.syms.length + 1) capS', .slice A R.acts.length capA, vt] 99 (0, 0)) := cells_after HV.out.1.cells HA.out hgrow2 (by decide)
  have f2 := (cell_at hp2 1).2
  have d2 := (cell_at hp2 1).1
  simp only [List.getElem?_toArray, List.getElem?_cons_zero, List.getElem?_cons_succ] at d2
  have HZ := Aside0.mk (push_acts_at HV.out.1 (a := (R.syms.length : Int)) (by simpa [actCells] using hown2) hgrow2 (by simpa using hat2))
  have H50 := Aside0.mk (cell_at hp2 0).1
  clear hown2 hgrow2 hat2 hp2
  go_wp2_with fail
  go_ret2
  refine ⟨rfl, RSteps.before ?_ D4.out⟩
  obtain ⟨a1, a2, a3⟩ := HV.out
  obtain ⟨b1, b2, b3⟩ := HZ.out
  refine ⟨_, ⟨b1.cells, b1.syms, b1.acts, b1.taken, ?_⟩, fun k hk => ?_, a3.trans b3 (fun k hk => a2 k hk)⟩
  · show (R.acts ++ [(R.syms.length : Int)]).length ≤ g + 1
    rw [List.length_append, List.length_singleton]
    omega
  · rcases b2 k hk with hk | hk
    · exact a2 k hk
    · exact .inr (Nat.le_trans a3.size hk)
variable {s : ByteArray}
theorem act_of (hm : Mir T R) {n : Nat} (hn : idx T.syms s = some n) : rActive R n = (T.act s).isSome := by
  obtain ⟨h1, h2⟩ := idx_lt hn
  have h3 := active_says hm.wf hm.rel h1
  have e : nameOf T n = s := h2
  rw [e] at h3
  rw [h3]
  unfold rActive rThere
  rw [hm.syms, decide_eq_true (by omega), decide_eq_true (by omega)]
  rfl
theorem act_no : rActive R (-1) = false := by
  unfold rActive rThere
  rfl
theorem rvar_calls (h : RHolds w p g R q) (hm : Mir T R) (hg : g + 2 < 17592186044416) (hs : s.size ≤ maxLen) :
    Calls Tryd.prog 66 #[.pointer (some ⟨p, 0, none⟩), .string s] w fun e w' => ∃ R', e = .returned (.tuple #[.int .i64 ((varT T s).2.1 : Int), .int .i64 ((varT T s).2.2 : Int)]) ∧ Mir (varT T s).1 R' ∧ RSteps w w' p (g + 1) R' q := by
  cases h2 : symOk s with
  | false =>
    have hc : varT T s = (T, 0, 21) := by unfold varT; rw [if_pos h2]
    rw [hc]
    exact (rvar_1 h hm hg s hs h2).mono fun e w' ⟨he, hd⟩ => ⟨R, he, hm, hd⟩
  | true =>
    have hrv := rel_var hm.wf hm.rel s
    have hwf := wf_var hm.wf s
    cases ha : T.act s with
    | some n =>
      have hc : varT T s = (T, 0, 20) := by unfold varT; rw [if_neg (by simp [h2]), if_pos (by simp [ha])]
      have hn := hm.wf.act s n ha
      have h5 := act_of hm hn
      rw [ha] at h5
      rw [← hm.syms] at hn
      rw [hc]
      exact (rvar_2 h hm hg s hs h2 hn h5).mono fun e w' ⟨he, hd⟩ => ⟨R, he, hm, hd⟩
    | none =>
      cases hn : idx T.syms s with
      | some n =>
        have hc : varT T s = (activate T s n, n, 0) := by unfold varT; rw [if_neg (by simp [h2]), if_neg (by simp [ha]), hn]
        have h5 := act_of hm hn
        rw [ha] at h5
        rw [← hm.syms] at hn
        rw [hc] at hrv hwf ⊢
        refine (rvar_3 h hm hg s hs h2 hn h5).mono fun e w' ⟨he, hd⟩ => ⟨_, he, ⟨?_, ?_, ?_, hwf⟩, hd⟩
        · exact hm.syms
        · exact hm.taken
        · rcases hrv with ⟨c, hc0, e⟩ | ⟨U, m, e, hr⟩
          · simp only [Prod.mk.injEq] at e
            exact absurd e.2.2.symm hc0
          · simp only [Prod.mk.injEq] at e
            obtain ⟨rfl, rfl, -⟩ := e
            exact hr
      | none =>
        by_cases h4 : 512 ≤ T.syms.length
        · have hc : varT T s = (T, 0, 22) := by unfold varT; rw [if_neg (by simp [h2]), if_neg (by simp [ha]), hn]; simp only; rw [if_pos h4]
          rw [← hm.syms] at hn h4
          rw [hc]
          exact (rvar_4 h hm hg s hs h2 hn act_no h4).mono fun e w' ⟨he, hd⟩ => ⟨R, he, hm, hd⟩
        · have hc : varT T s = (activate (added T s true) s T.syms.length, T.syms.length, 0) := by unfold varT; rw [if_neg (by simp [h2]), if_neg (by simp [ha]), hn]; simp only; rw [if_neg h4]
          have h4' : R.syms.length < 512 := by rw [hm.syms]; omega
          rw [← hm.syms] at hn
          rw [hc] at hrv hwf ⊢
          refine (rvar_5 h hm hg s hs h2 hn act_no h4').mono fun e w' ⟨he, hd⟩ => ⟨_, ?_, ⟨?_, ?_, ?_, hwf⟩, hd⟩
          · rw [he, hm.syms]
            rfl
          · show R.syms ++ [(s, true)] = T.syms ++ [(s, true)]
            rw [hm.syms]
          · exact hm.taken
          · rcases hrv with ⟨c, hc0, e⟩ | ⟨U, m, e, hr⟩
            · simp only [Prod.mk.injEq] at e
              exact absurd e.2.2.symm hc0
            · simp only [Prod.mk.injEq] at e
              obtain ⟨rfl, rfl, -⟩ := e
              show Rel _ (R.acts ++ [(R.syms.length : Int)])
              rw [hm.syms]
              exact hr
end
end Go.Proofs.YtpoojimmponklaaDoor.SymRefVar

namespace Go.Proofs.YtpoojimmponklaaDoor.SymRefLabel
open Go.RowKit Go.Maps Go.Proofs.YtpoojimmponklaaDoor.SymTab Go.Proofs.YtpoojimmponklaaDoor.SymHeap Go.Proofs.YtpoojimmponklaaDoor.SymReads Go.Proofs.YtpoojimmponklaaDoor.SymAdd Go.Proofs.YtpoojimmponklaaDoor.SymConst Go.Proofs.YtpoojimmponklaaDoor.SymApi Go.Proofs.YtpoojimmponklaaDoor.SymRef Go.Proofs.YtpoojimmponklaaDoor.SymRefDoes Go.Proofs.YtpoojimmponklaaDoor.SymRefNames Go.Proofs.YtpoojimmponklaaDoor.SymRefMore Go.Proofs.YtpoojimmponklaaDoor.SymRefVar Go.Proofs.YtpoojimmponklaaDoor.SymNew
open Go.Proofs.YtpoojimmponklaaDoorW.PrintWords
set_option linter.unusedVariables false
section
variable {w : World} {p g : Nat} {T : Tab} {R : Ref} {q : RParts}
/-! ### Labels, New -/
set_option maxHeartbeats 1000000 in
theorem rnew_calls : Calls Tryd.prog 34 #[] w fun e w' => ∃ p q, e = .returned (.pointer (some ⟨p, 0, none⟩)) ∧ RHolds w' p 0 ⟨[], [], []⟩ q ∧ (∀ k, q.has p k → w.heap.size ≤ k) ∧ Turns None w w' := by
  go_enter Tryd.func34, Tryd.ntmps34
  go_wp2
  go_ret
  refine ⟨_, ⟨.slice none 0 0, .slice none 0 0, .slice none 0 0⟩, rfl, ⟨?_, World.ownsRow_nil _ _ _ _, World.ownsRow_nil _ _ _ _, World.ownsRow_nil _ _ _ _, Nat.le_refl _⟩, fun k hk => ?_, Turns.alloc _ _ _⟩
  · exact heap_alloc_new _ _
  · rcases hk with hk | hk | hk | hk
    · omega
    · simp [Value.ownBlock] at hk
    · simp [Value.ownBlock] at hk
    · simp [Value.ownBlock] at hk
theorem mir_empty : Mir empty ⟨[], [], []⟩ := ⟨rfl, rfl, rel_empty, WF.empty⟩
end
end Go.Proofs.YtpoojimmponklaaDoor.SymRefLabel

namespace Go.Proofs.YtpoojimmponklaaDoor.SymPair
open Go.RowKit Go.Maps Go.Proofs.YtpoojimmponklaaDoor.SymTab Go.Proofs.YtpoojimmponklaaDoor.SymHeap Go.Proofs.YtpoojimmponklaaDoor.SymReads Go.Proofs.YtpoojimmponklaaDoor.SymApi Go.Proofs.YtpoojimmponklaaDoor.SymRef Go.Proofs.YtpoojimmponklaaDoor.SymRefDoes Go.Proofs.YtpoojimmponklaaDoor.SymRefMore Go.Proofs.YtpoojimmponklaaDoor.SymRefVar Go.Proofs.YtpoojimmponklaaDoor.SymRefLabel Go.Proofs.YtpoojimmponklaaDoor.SymNew
open Go.Proofs.YtpoojimmponklaaDoorW.PrintWords
set_option linter.unusedVariables false

/-- The two tables lie in F, apart from each other. -/
def Two (w : World) (p g : Nat) (T : Tab) (r gr : Nat) (R : Ref) (F : Nat → Prop) : Prop :=
  ∃ F1 F2, TabIs w p g T F1 ∧ RefIs w r gr R F2 ∧ (∀ k, F1 k → ¬ F2 k) ∧ (∀ k, F1 k → F k ∧ k < w.heap.size) ∧ (∀ k, F2 k → F k ∧ k < w.heap.size)
/-- They lie in F and in what was made since W. -/
def Twos (W w : World) (F : Nat → Prop) (p g : Nat) (T : Tab) (r gr : Nat) (R : Ref) : Prop := Two w p g T r gr R (More F W.heap.size) ∧ Turns F W w

section
variable {W w w' : World} {F : Nat → Prop} {p g g' r gr gr' : Nat} {T T' : Tab} {R R' : Ref}
theorem Two.mono {F' : Nat → Prop} (h : Two w p g T r gr R F) (hf : ∀ k, k < w.heap.size → F k → F' k) : Two w p g T r gr R F' := by
  obtain ⟨F1, F2, a, b, c, d, e⟩ := h
  exact ⟨F1, F2, a, b, c, fun k hk => ⟨hf k (d k hk).2 (d k hk).1, (d k hk).2⟩, fun k hk => ⟨hf k (e k hk).2 (e k hk).1, (e k hk).2⟩⟩
theorem Two.move (h : Two w p g T r gr R F) (hm : ∀ k, k < w.heap.size → F k → w'.heap[k]? = w.heap[k]?) (hs : w.heap.size ≤ w'.heap.size) : Two w' p g T r gr R F := by
  obtain ⟨F1, F2, a, b, c, d, e⟩ := h
  exact ⟨F1, F2, a.move (fun k hk => hm k (d k hk).2 (d k hk).1), b.move (fun k hk => hm k (e k hk).2 (e k hk).1), c, fun k hk => ⟨(d k hk).1, Nat.lt_of_lt_of_le (d k hk).2 hs⟩, fun k hk => ⟨(e k hk).1, Nat.lt_of_lt_of_le (e k hk).2 hs⟩⟩
theorem Two.wf (h : Two w p g T r gr R F) : WF T := by
  obtain ⟨_, _, a, _⟩ := h
  exact a.1
theorem Two.more (h : Two w p g T r gr R F) (hg : g ≤ g') (hr : gr ≤ gr') : Two w p g' T r gr' R F := by
  obtain ⟨F1, F2, a, b, c⟩ := h
  exact ⟨F1, F2, a.more hg, b.more hr, c⟩
theorem Two.start (h : Two w p g T r gr R F) : Twos w w F p g T r gr R := ⟨h.mono (fun k hk hf => .inl hf), Turns.refl _ _⟩
theorem Twos.past (h : Twos W w F p g T r gr R) (ht : Turns None w w') : Twos W w' F p g T r gr R :=
  ⟨h.1.move (fun k hk _ => ht.block k hk (fun x => x.elim)) ht.size, h.2.trans ht (fun k hk => hk.elim)⟩
theorem Twos.drawn (h : Twos W w F p g T r gr R) (hd : Drawn0 w w') : Twos W w' F p g T r gr R := by
  obtain ⟨n, rfl⟩ := hd
  exact h.past (Turns.drewN w n)
theorem Twos.more (h : Twos W w F p g T r gr R) (hg : g ≤ g') (hr : gr ≤ gr') : Twos W w F p g' T r gr' R := ⟨h.1.more hg hr, h.2⟩
/-- The box of a call's own argument lies apart. -/
theorem Twos.box (h : Twos W w F p g T r gr R) {b : Nat} (hb : b < W.heap.size) (hf : ¬ F b) (i : Nat) : w.cell? ⟨b, i, none⟩ = W.cell? ⟨b, i, none⟩ := by
  simp [World.cell?, h.2.block b hb hf]

/-! ### the calls on the program's table -/
theorem Twos.blanks (h : Twos W w F p g T r gr R) (hb : SymScan.Blanks W) (hF : ¬ F 0) : SymScan.Blanks w := blanks_turns hb h.2 hF
/-! ### the calls on the document's -/
theorem ropen_calls' {q : RParts} (h : RHolds w r gr R q) (hm : Mir T R) (hg : gr + 2 < 17592186044416) :
    Calls Tryd.prog 63 #[.pointer (some ⟨r, 0, none⟩)] w fun e w' => ∃ R', (e = .returned (.int .i64 ((openS T).2 : Int)) ∧ Mir (openS T).1 R') ∧ RSteps w w' r (gr + 1) R' q := by
  by_cases h1 : 16 ≤ T.scopes.length
  · have hc : openS T = (T, 23) := by unfold openS; rw [if_pos h1]
    rw [hc]
    exact (ropen_full h hg _ hm.rel.depth h1).mono fun e w' ⟨he, hd⟩ => ⟨R, ⟨he, hm⟩, hd⟩
  · obtain ⟨hr, hc⟩ := rel_open hm.wf hm.rel (by omega)
    have e1 : openS T = ({ T with scopes := T.scopes ++ [[]] }, 0) := by unfold openS; rw [if_neg h1]
    refine (ropen_new h hg _ hm.rel.depth (by omega)).mono fun e w' ⟨he, hd⟩ => ⟨{ R with acts := R.acts ++ [-1] }, ⟨by rw [he, hc]; rfl, ⟨?_, ?_, hr, wf_open hm.wf⟩⟩, hd⟩
    · rw [e1]; exact hm.syms
    · rw [e1]; exact hm.taken
theorem rclose_calls' {q : RParts} (h : RHolds w r gr R q) (hm : Mir T R) (hg : gr + 2 < 17592186044416) :
    Calls Tryd.prog 64 #[.pointer (some ⟨r, 0, none⟩)] w fun e w' => ∃ R', (e = .returned (.int .i64 ((closeS T).2 : Int)) ∧ Mir (closeS T).1 R') ∧ RSteps w w' r (gr + 1) R' q := by
  by_cases h1 : T.scopes = []
  · have hc : closeS T = (T, 23) := by unfold closeS; rw [if_pos h1]
    rw [hc]
    exact (rclose_none h hg _ hm.rel.depth (by rw [h1]; rfl)).mono fun e w' ⟨he, hd⟩ => ⟨R, ⟨he, hm⟩, hd⟩
  · obtain ⟨hr, hc⟩ := rel_close hm.wf hm.rel h1
    have e1 : closeS T = ({ T with act := dels T T.act (T.scopes.getLastD []), scopes := T.scopes.dropLast }, 0) := by unfold closeS; rw [if_neg h1]
    refine (rclose_new h hg _ hm.rel.depth (fun e => h1 (List.eq_nil_of_length_eq_zero e))).mono fun e w' ⟨he, hd⟩ => ⟨{ R with acts := R.acts ++ [-2] }, ⟨by rw [he, hc]; rfl, ⟨?_, ?_, hr, wf_close hm.wf⟩⟩, hd⟩
    · rw [e1]; exact hm.syms
    · rw [e1]; exact hm.taken
theorem mir_there (hm : Mir T R) (n : Int) : rThere R n = there T n := by
  unfold rThere there
  rw [hm.syms]
theorem mir_name (hm : Mir T R) (n : Int) : rName R n = nameT T n := by
  unfold rName nameT nameOf nm
  rw [mir_there hm, hm.syms]
end
end Go.Proofs.YtpoojimmponklaaDoor.SymPair
