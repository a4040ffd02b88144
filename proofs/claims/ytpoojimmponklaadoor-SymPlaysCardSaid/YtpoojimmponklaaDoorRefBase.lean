/- The document's table: its log beside a table, its memory, its calls that read, open and close. -/
import Derived.Test.YtpoojimmponklaaDoorKeep
import Derived.Test.YtpoojimmponklaaDoorApi
import Derived.Test.YtpoojimmponklaaDoorLabelsPure
import Derived.Test.YtpoojimmponklaaDoorName
import Derived.Test.YtpoojimmponklaaDoorPSymPlaysx3
import Derived.Test.YtpoojimmponklaaDoorPSymPlaysx4
namespace Go.Proofs.YtpoojimmponklaaDoor.SymTab
set_option linter.unusedVariables false

def statStep (n : Nat) (st : Option Nat) (a : Int) : Option Nat :=
  if a = (n : Int) then some 0 else if a = -1 then st.map (· + 1) else if a = -2 then (match st with | none => none | some 0 => none | some (j + 1) => some j) else st
def stat (n : Nat) (acts : List Int) : Option Nat := acts.foldl (statStep n) none
def depthStep (d : Int) (a : Int) : Int := if a = -1 then d + 1 else if a = -2 then d - 1 else d
def depthL (acts : List Int) : Int := acts.foldl depthStep 0
theorem stat_snoc (n : Nat) (acts : List Int) (a : Int) : stat n (acts ++ [a]) = statStep n (stat n acts) a := by simp [stat]
theorem depthL_snoc (acts : List Int) (a : Int) : depthL (acts ++ [a]) = depthStep (depthL acts) a := by simp [depthL]

def varAt (T : Tab) (n : Nat) : Bool := (T.syms.getD n (ByteArray.empty, false)).2
/-- What the log says of n. -/
def Says (T : Tab) (n : Nat) : Option Nat → Prop
  | none => T.act (nameOf T n) = none
  | some j => T.act (nameOf T n) = some n ∧ j ≤ T.scopes.length ∧ ∀ i l, T.scopes[i]? = some l → (n ∈ l ↔ i + 1 + j = T.scopes.length)
structure Rel (T : Tab) (acts : List Int) : Prop where
  depth : depthL acts = T.scopes.length
  says : ∀ n, n < T.syms.length → varAt T n = true → Says T n (stat n acts)

theorem rel_open {T : Tab} {acts : List Int} (hw : WF T) (h : Rel T acts) (hd : T.scopes.length < 16) : Rel (openS T).1 (acts ++ [-1]) ∧ (openS T).2 = 0 := by
  have e : openS T = ({ T with scopes := T.scopes ++ [[]] }, 0) := by unfold openS; rw [if_neg (by omega)]
  rw [e]
  refine ⟨⟨?_, fun n hn hv => ?_⟩, rfl⟩
  · rw [depthL_snoc, h.depth]
    show (T.scopes.length : Int) + 1 = ((T.scopes ++ [[]]).length : Int)
    rw [List.length_append]
    rfl
  · have hs := h.says n hn hv
    rw [stat_snoc]
    unfold statStep
    rw [if_neg (by omega), if_pos rfl]
    cases hst : stat n acts with
    | none =>
      rw [hst] at hs
      exact hs
    | some j =>
      rw [hst] at hs
      obtain ⟨h1, h2, h3⟩ := hs
      refine ⟨h1, ?_, fun i l hl => ?_⟩
      · show j + 1 ≤ (T.scopes ++ [[]]).length
        rw [List.length_append]
        simp
        exact h2
      · have hl' : (T.scopes ++ [[]])[i]? = some l := hl
        show n ∈ l ↔ i + 1 + (j + 1) = (T.scopes ++ [[]]).length
        rw [List.length_append, List.length_singleton]
        by_cases hi : i < T.scopes.length
        · rw [List.getElem?_append_left hi] at hl'
          rw [h3 i l hl']
          omega
        · rw [List.getElem?_append_right (by omega)] at hl'
          have hi2 : i = T.scopes.length := by
            have := (List.getElem?_eq_some_iff.1 hl').1
            simp at this
            omega
          subst hi2
          simp at hl'
          subst hl'
          simp

theorem rel_close {T : Tab} {acts : List Int} (hw : WF T) (h : Rel T acts) (hd : T.scopes ≠ []) : Rel (closeS T).1 (acts ++ [-2]) ∧ (closeS T).2 = 0 := by
  obtain ⟨S, L, hS⟩ : ∃ S L, T.scopes = S ++ [L] := by
    rcases List.eq_nil_or_concat T.scopes with e | ⟨a, b, e⟩
    · exact absurd e hd
    · exact ⟨a, b, by rw [e, List.concat_eq_append]⟩
  have e : closeS T = ({ T with act := dels T T.act L, scopes := S }, 0) := by
    unfold closeS
    rw [if_neg hd, hS]
    simp
  rw [e]
  refine ⟨⟨?_, fun n hn hv => ?_⟩, rfl⟩
  · rw [depthL_snoc, h.depth, hS, List.length_append]
    show ((S.length + 1 : Nat) : Int) - 1 = (S.length : Int)
    omega
  · have hs := h.says n hn hv
    have hmem : nameOf T n ∈ L.map (nameOf T) ↔ n ∈ L := by
      constructor
      · intro hm
        obtain ⟨v, hv1, hv2⟩ := List.mem_map.1 hm
        have hv3 := (hw.vars L (by rw [hS]; simp) v hv1).1
        have := nameOf_inj hw hv3 hn hv2
        exact this ▸ hv1
      · intro hm
        exact List.mem_map.2 ⟨n, hm, rfl⟩
    rw [stat_snoc]
    unfold statStep
    rw [if_neg (by omega), if_neg (by decide), if_pos rfl]
    cases hst : stat n acts with
    | none =>
      rw [hst] at hs
      show dels T T.act L (nameOf T n) = none
      by_cases hm : nameOf T n ∈ L.map (nameOf T)
      · exact dels_in _ _ _ _ hm
      · rw [dels_out _ _ _ _ hm]
        exact hs
    | some j =>
      rw [hst] at hs
      obtain ⟨h1, h2, h3⟩ := hs
      rw [hS, List.length_append, List.length_singleton] at h2
      have hL := h3 S.length L (by rw [hS]; simp)
      rw [hS, List.length_append, List.length_singleton] at hL
      cases j with
      | zero =>
        show dels T T.act L (nameOf T n) = none
        exact dels_in _ _ _ _ (hmem.2 (hL.2 (by omega)))
      | succ j =>
        have hnot : ¬ n ∈ L := fun hm => by have := hL.1 hm; omega
        refine ⟨?_, ?_, fun i l hl => ?_⟩
        · show dels T T.act L (nameOf T n) = some n
          rw [dels_out _ _ _ _ (fun hm => hnot (hmem.1 hm))]
          exact h1
        · show j ≤ S.length
          omega
        · have hl' : S[i]? = some l := hl
          have hi := (List.getElem?_eq_some_iff.1 hl').1
          have h4 := h3 i l (by rw [hS, List.getElem?_append_left hi]; exact hl')
          rw [hS, List.length_append, List.length_singleton] at h4
          show n ∈ l ↔ i + 1 + j = S.length
          rw [h4]
          omega

theorem addLast_at {S : List (List Nat)} {n i : Nat} {l : List Nat} (h : (addLast S n)[i]? = some l) : ∃ l0, S[i]? = some l0 ∧ l = if i + 1 = S.length then l0 ++ [n] else l0 := by
  rcases List.eq_nil_or_concat S with e | ⟨a, b, e⟩
  · subst e
    simp [addLast] at h
  · rw [List.concat_eq_append] at e
    subst e
    rw [addLast_snoc] at h
    rw [List.length_append, List.length_singleton]
    by_cases hi : i < a.length
    · rw [List.getElem?_append_left hi] at h
      exact ⟨l, by rw [List.getElem?_append_left hi]; exact h, by rw [if_neg (by omega)]⟩
    · rw [List.getElem?_append_right (by omega)] at h
      have hi2 : i = a.length := by
        have := (List.getElem?_eq_some_iff.1 h).1
        simp at this
        omega
      subst hi2
      simp at h
      exact ⟨b, by simp, by rw [if_pos rfl, h]⟩
theorem rel_activate {T V : Tab} {acts : List Int} {s : ByteArray} {n : Nat} (hw : WF T) (h : Rel T acts) (hs : T.act s = none) (hV : V.act = T.act) (hVs : V.scopes = T.scopes) (hVn : ∃ more, V.syms = T.syms ++ more)
    (hn : nameOf V n = s) (hold : ∀ m, m < V.syms.length → m ≠ n → m < T.syms.length ∧ nameOf V m ≠ s) : Rel (activate V s n) (acts ++ [(n : Int)]) := by
  have hnone : ∀ (i : Nat) (l : List Nat), T.scopes[i]? = some l → n ∉ l := by
    intro i l hl hm
    obtain ⟨h1, _, h3⟩ := hw.vars l (List.mem_of_getElem? hl) n hm
    obtain ⟨more, hmore⟩ := hVn
    have e : nameOf T n = nameOf V n := by
      unfold nameOf
      rw [hmore]
      simp only [List.getD_eq_getElem?_getD, List.getElem?_append_left h1]
    rw [e, hn, hs] at h3
    cases h3
  refine ⟨?_, fun m hm hv => ?_⟩
  · rw [depthL_snoc]
    unfold depthStep
    rw [if_neg (by omega), if_neg (by omega), h.depth]
    show (T.scopes.length : Int) = ((addLast V.scopes n).length : Int)
    rw [addLast_length, hVs]
  · have hm' : m < V.syms.length := hm
    rw [stat_snoc]
    unfold statStep
    by_cases e : m = n
    · subst e
      rw [if_pos rfl]
      refine ⟨?_, Nat.zero_le _, fun i l hl => ?_⟩
      · show upd V.act s m (nameOf V m) = some m
        rw [hn]
        simp [upd]
      · have hl' : (addLast V.scopes m)[i]? = some l := hl
        rw [hVs] at hl'
        obtain ⟨l0, h1, h2⟩ := addLast_at hl'
        show m ∈ l ↔ i + 1 + 0 = (addLast V.scopes m).length
        rw [addLast_length, hVs, h2]
        split
        · rename_i e2
          simp [e2]
        · rename_i e2
          constructor
          · intro hx
            exact absurd hx (hnone i l0 h1)
          · intro hx
            omega
    · obtain ⟨h1, h2⟩ := hold m hm' e
      have hvar : varAt T m = true := by
        obtain ⟨more, hmore⟩ := hVn
        have hv' : (V.syms.getD m (ByteArray.empty, false)).2 = true := hv
        rw [hmore] at hv'
        unfold varAt
        simpa only [List.getD_eq_getElem?_getD, List.getElem?_append_left h1] using hv'
      have hname : nameOf V m = nameOf T m := by
        obtain ⟨more, hmore⟩ := hVn
        unfold nameOf
        rw [hmore]
        simp only [List.getD_eq_getElem?_getD, List.getElem?_append_left h1]
      rw [if_neg (by omega), if_neg (by omega), if_neg (by omega)]
      have hs2 := h.says m h1 hvar
      have hact : (activate V s n).act (nameOf (activate V s n) m) = T.act (nameOf T m) := by
        show upd V.act s n (nameOf V m) = _
        unfold upd
        rw [if_neg h2, hV, hname]
      cases hst : stat m acts with
      | none =>
        rw [hst] at hs2
        exact hact.trans hs2
      | some j =>
        rw [hst] at hs2
        obtain ⟨g1, g2, g3⟩ := hs2
        refine ⟨hact.trans g1, ?_, fun i l hl => ?_⟩
        · show j ≤ (addLast V.scopes n).length
          rw [addLast_length, hVs]
          exact g2
        · have hl' : (addLast V.scopes n)[i]? = some l := hl
          rw [hVs] at hl'
          obtain ⟨l0, h4, h5⟩ := addLast_at hl'
          show m ∈ l ↔ i + 1 + j = (addLast V.scopes n).length
          rw [addLast_length, hVs, ← g3 i l0 h4, h5]
          split
          · simp [e]
          · exact Iff.rfl

theorem getD_old {T V : Tab} {more : List (ByteArray × Bool)} (h : V.syms = T.syms ++ more) {m : Nat} (hm : m < T.syms.length) : V.syms.getD m (ByteArray.empty, false) = T.syms.getD m (ByteArray.empty, false) := by
  rw [h]
  simp only [List.getD_eq_getElem?_getD, List.getElem?_append_left hm]
/-- What const makes. -/
theorem rel_const {T : Tab} {acts : List Int} (hw : WF T) (h : Rel T acts) (s : ByteArray) : Rel (constT T s).1 acts := by
  unfold constT
  split
  · exact h
  · split
    · exact h
    · split
      · exact h
      · split
        · exact h
        · rename_i hi _
          have hi' : idx T.syms s = none := by simpa using hi
          refine ⟨h.depth, fun m hm hv => ?_⟩
          have hv' : ((T.syms ++ [(s, false)]).getD m (ByteArray.empty, false)).2 = true := hv
          have hm' : m < (T.syms ++ [(s, false)]).length := hm
          have hlt : m < T.syms.length := by
            rw [List.length_append, List.length_singleton] at hm'
            rcases Nat.lt_or_ge m T.syms.length with g | g
            · exact g
            · have e : m = T.syms.length := by omega
              subst e
              rw [List.getD_eq_getElem?_getD, List.getElem?_append_right (Nat.le_refl _)] at hv'
              simp at hv'
          have hget : (T.syms ++ [(s, false)]).getD m (ByteArray.empty, false) = T.syms.getD m (ByteArray.empty, false) := by
            simp only [List.getD_eq_getElem?_getD, List.getElem?_append_left hlt]
          rw [hget] at hv'
          have hs2 := h.says m hlt hv'
          have hne : nameOf T m ≠ s := by
            intro e
            have := idx_nameOf hw hlt
            rw [e, hi'] at this
            cases this
          have hname : ((T.syms ++ [(s, false)]).getD m (ByteArray.empty, false)).1 = nameOf T m := by rw [hget]; rfl
          have hact : upd T.act s T.syms.length (((T.syms ++ [(s, false)]).getD m (ByteArray.empty, false)).1) = T.act (nameOf T m) := by
            rw [hname]
            unfold upd
            rw [if_neg hne]
          cases hst : stat m acts with
          | none =>
            rw [hst] at hs2
            exact hact.trans hs2
          | some j =>
            rw [hst] at hs2
            exact ⟨hact.trans hs2.1, hs2.2⟩
theorem rel_label {T : Tab} {acts : List Int} (h : Rel T acts) (s : ByteArray) : Rel (labelT T s).1 acts := by
  unfold labelT
  split
  · exact h
  · split
    · exact h
    · split
      · exact h
      · refine ⟨h.depth, fun m hm hv => ?_⟩
        have := h.says m hm hv
        cases hst : stat m acts with
        | none => rw [hst] at this; exact this
        | some j => rw [hst] at this; exact this
theorem rel_empty : Rel empty [] := ⟨rfl, fun n hn => by simp [empty] at hn⟩

/-- What var makes: the same table and log, or one act more. -/
theorem rel_var {T : Tab} {acts : List Int} (hw : WF T) (h : Rel T acts) (s : ByteArray) :
    (∃ c : Nat, c ≠ 0 ∧ varT T s = (T, 0, c)) ∨ ∃ (U : Tab) (n : Nat), varT T s = (U, n, 0) ∧ Rel U (acts ++ [(n : Int)]) := by
  unfold varT
  split
  · exact .inl ⟨21, by decide, rfl⟩
  · split
    · exact .inl ⟨20, by decide, rfl⟩
    · rename_i ha
      have ha' : T.act s = none := by simpa using ha
      cases hi : idx T.syms s with
      | some n =>
        obtain ⟨h1, h2⟩ := idx_lt hi
        exact .inr ⟨_, n, rfl, rel_activate hw h ha' rfl rfl ⟨[], by simp⟩ h2 (fun m hm hne => ⟨hm, fun e => hne (nameOf_inj hw hm h1 (e.trans h2.symm))⟩)⟩
      | none =>
        simp only
        split
        · exact .inl ⟨22, by decide, rfl⟩
        · refine .inr ⟨_, T.syms.length, rfl, rel_activate hw h ha' (V := added T s true) rfl rfl ⟨[(s, true)], rfl⟩ nameOf_new (fun m hm hne => ?_)⟩
          have hm' : m < (T.syms ++ [(s, true)]).length := hm
          rw [List.length_append, List.length_singleton] at hm'
          have hlt : m < T.syms.length := by omega
          refine ⟨hlt, fun e => ?_⟩
          have hget : nameOf (added T s true) m = nameOf T m := by
            show ((T.syms ++ [(s, true)]).getD m (ByteArray.empty, false)).1 = _
            simp only [List.getD_eq_getElem?_getD, List.getElem?_append_left hlt]
            rfl
          rw [hget] at e
          have := idx_nameOf hw hlt
          rw [e, hi] at this
          cases this

/-! ### how the log is read -/
def openL : Int → List Int → Bool
  | _, [] => true
  | d, a :: r => if depthStep d a < 0 then false else openL (depthStep d a) r
theorem fold_none (n : Nat) : ∀ (r : List Int), (∀ a ∈ r, a ≠ (n : Int)) → r.foldl (statStep n) none = none
  | [], _ => rfl
  | a :: r, h => by
    have h1 := h a (List.mem_cons_self ..)
    have e : statStep n none a = none := by
      unfold statStep
      rw [if_neg h1]
      split
      · rfl
      · split <;> rfl
    rw [List.foldl_cons, e]
    exact fold_none n r (fun b hb => h b (List.mem_cons_of_mem _ hb))
theorem fold_open (n : Nat) : ∀ (r : List Int) (j : Nat), (∀ a ∈ r, a ≠ (n : Int)) → (r.foldl (statStep n) (some j)).isSome = openL (j : Int) r
  | [], _, _ => rfl
  | a :: r, j, h => by
    have h1 := h a (List.mem_cons_self ..)
    have h2 := fun b hb => h b (List.mem_cons_of_mem _ hb)
    rw [List.foldl_cons]
    unfold openL statStep depthStep
    rw [if_neg h1]
    by_cases e1 : a = -1
    · rw [if_pos e1, if_pos e1, if_neg (by omega)]
      exact fold_open n r (j + 1) h2
    · rw [if_neg e1, if_neg e1]
      by_cases e2 : a = -2
      · rw [if_pos e2, if_pos e2]
        cases j with
        | zero =>
          rw [if_pos (by omega)]
          show (r.foldl (statStep n) none).isSome = false
          rw [fold_none n r h2]
          rfl
        | succ j =>
          rw [if_neg (by omega)]
          have e3 : (((j + 1 : Nat) : Int) - 1) = (j : Int) := by omega
          rw [e3]
          exact fold_open n r j h2
      · rw [if_neg e2, if_neg e2, if_neg (by omega)]
        exact fold_open n r j h2
theorem stat_last {n : Nat} {pre suf : List Int} (h : ∀ a ∈ suf, a ≠ (n : Int)) : (stat n (pre ++ (n : Int) :: suf)).isSome = openL 0 suf := by
  unfold stat
  rw [List.foldl_append, List.foldl_cons]
  have e : statStep n (pre.foldl (statStep n) none) (n : Int) = some 0 := by
    unfold statStep
    rw [if_pos rfl]
  rw [e]
  exact fold_open n suf 0 h
theorem stat_never {n : Nat} {acts : List Int} (h : ∀ a ∈ acts, a ≠ (n : Int)) : stat n acts = none := fold_none n acts h

/-- Active, as the document reads the log, is active in the table. -/
theorem active_says {T : Tab} {acts : List Int} (hw : WF T) (h : Rel T acts) {n : Nat} (hn : n < T.syms.length) : (T.act (nameOf T n)).isSome = (!varAt T n || (stat n acts).isSome) := by
  cases hv : varAt T n with
  | false =>
    have := hw.consts n hn hv
    rw [this]
    rfl
  | true =>
    have hs := h.says n hn hv
    cases hst : stat n acts with
    | none =>
      rw [hst] at hs
      rw [show T.act (nameOf T n) = none from hs]
      rfl
    | some j =>
      rw [hst] at hs
      rw [hs.1]
      rfl
end Go.Proofs.YtpoojimmponklaaDoor.SymTab

namespace Go.Proofs.YtpoojimmponklaaDoor.SymRef
open Go.RowKit Go.Maps Go.Proofs.YtpoojimmponklaaDoor.SymTab Go.Proofs.YtpoojimmponklaaDoor.SymHeap Go.Proofs.YtpoojimmponklaaDoor.SymReads Go.Proofs.YtpoojimmponklaaDoor.SymApi
open Go.Proofs.YtpoojimmponklaaDoorW.PrintWords (Aside0 Drawn0 own_move)
set_option linter.unusedVariables false

structure Ref where
  syms : List (ByteArray × Bool)
  acts : List Int
  taken : List ByteArray
def actCells (l : List Int) : List Value := l.map (Value.int .i64)
structure RParts where
  vs : Value
  va : Value
  vt : Value
structure RHolds (w : World) (p g : Nat) (R : Ref) (q : RParts) : Prop where
  cells : w.heap[p]? = some (.cells #[q.vs, q.va, q.vt] 99 (0, 0))
  syms : w.ownsRow 0 101 2 q.vs R.syms.length (symCells R.syms)
  acts : w.ownsRow 0 3 1 q.va R.acts.length (actCells R.acts)
  taken : w.ownsRow 0 9 1 q.vt R.taken.length (R.taken.map Value.string)
  few : R.acts.length ≤ g
def RParts.has (q : RParts) (p k : Nat) : Prop := k = p ∨ q.vs.ownBlock = some k ∨ q.va.ownBlock = some k ∨ q.vt.ownBlock = some k
def RefIs (w : World) (p g : Nat) (R : Ref) (fp : Nat → Prop) : Prop := ∃ q, RHolds w p g R q ∧ ∀ k, q.has p k → fp k

theorem RHolds.move {w w' : World} {p g : Nat} {R : Ref} {q : RParts} (h : RHolds w p g R q) (hm : ∀ k, q.has p k → w'.heap[k]? = w.heap[k]?) : RHolds w' p g R q :=
  ⟨(hm p (.inl rfl)).trans h.cells, own_move h.syms (fun k hk => hm k (.inr (.inl hk))), own_move h.acts (fun k hk => hm k (.inr (.inr (.inl hk)))), own_move h.taken (fun k hk => hm k (.inr (.inr (.inr hk)))), h.few⟩
theorem RHolds.lt {w : World} {p g : Nat} {R : Ref} {q : RParts} (h : RHolds w p g R q) : ∀ k, q.has p k → k < w.heap.size := by
  intro k hk
  rcases hk with rfl | hk | hk | hk
  · exact (Array.getElem?_eq_some_iff.1 h.cells).1
  · exact (h.syms.lt k hk).2
  · exact (h.acts.lt k hk).2
  · exact (h.taken.lt k hk).2
theorem RefIs.move {w w' : World} {p g : Nat} {R : Ref} {fp : Nat → Prop} (h : RefIs w p g R fp) (hm : ∀ k, fp k → w'.heap[k]? = w.heap[k]?) : RefIs w' p g R fp := by
  obtain ⟨q, hq, hf⟩ := h
  exact ⟨q, hq.move (fun k hk => hm k (hf k hk)), hf⟩
theorem RefIs.mono {w : World} {p g : Nat} {R : Ref} {fp fp' : Nat → Prop} (h : RefIs w p g R fp) (hf : ∀ k, fp k → fp' k) : RefIs w p g R fp' := by
  obtain ⟨q, hq, hf'⟩ := h
  exact ⟨q, hq, fun k hk => hf k (hf' k hk)⟩
theorem RefIs.bound {w : World} {p g : Nat} {R : Ref} {fp : Nat → Prop} (h : RefIs w p g R fp) : RefIs w p g R (fun k => fp k ∧ k < w.heap.size) := by
  obtain ⟨q, hq, hf⟩ := h
  exact ⟨q, hq, fun k hk => ⟨hf k hk, hq.lt k hk⟩⟩
theorem RefIs.more {w : World} {p g g' : Nat} {R : Ref} {fp : Nat → Prop} (h : RefIs w p g R fp) (hg : g ≤ g') : RefIs w p g' R fp := by
  obtain ⟨q, ⟨a, b, c, d, e⟩, hf⟩ := h
  exact ⟨q, ⟨a, b, c, d, by omega⟩, hf⟩
theorem RefIs.drawn {w w' : World} {p g : Nat} {R : Ref} {fp : Nat → Prop} (h : RefIs w p g R fp) (hd : Drawn0 w w') : RefIs w' p g R fp := by
  obtain ⟨n, rfl⟩ := hd
  exact h.move (fun _ _ => rfl)
theorem RHolds.tp {w : World} {p g : Nat} {R : Ref} {q : RParts} (h : RHolds w p g R q) : tyOf w p = some 99 := tyOf_cells h.cells

/-! ### the log -/
theorem depthL_take (l : List Int) (k : Nat) (h : k < l.length) : depthL (l.take (k + 1)) = depthStep (depthL (l.take k)) l[k] := by
  rw [List.take_succ_eq_append_getElem h, depthL_snoc]
theorem depthF_bound (l : List Int) : ∀ d : Int, d - l.length ≤ l.foldl depthStep d ∧ l.foldl depthStep d ≤ d + l.length := by
  induction l with
  | nil => intro d; simp
  | cons a l ih =>
    intro d
    have h := ih (depthStep d a)
    rw [List.foldl_cons, List.length_cons]
    unfold depthStep at h ⊢
    split at h
    · rename_i e
      rw [if_pos e]
      omega
    · rename_i e
      rw [if_neg e]
      split at h
      · rename_i e2
        rw [if_pos e2]
        omega
      · rename_i e2
        rw [if_neg e2]
        omega
theorem depthL_bound (l : List Int) : -(l.length : Int) ≤ depthL l ∧ depthL l ≤ l.length := by
  have := depthF_bound l 0
  unfold depthL
  omega
theorem acts_at {w : World} {p g : Nat} {R : Ref} {q : RParts} (h : RHolds w p g R q) {k : Nat} (hk : k < R.acts.length) :
    ∃ b cap, q.va = .slice (some ⟨b, 0, none⟩) R.acts.length cap ∧ w.cell? ⟨b, k, none⟩ = some (.int .i64 R.acts[k]) := by
  obtain ⟨b, cap, e, _, hcell, _⟩ := row_some h.acts (by omega)
  exact ⟨b, cap, e, hcell _ _ (by simp [actCells, hk])⟩
def nm (l : List (ByteArray × Bool)) (k : Nat) : ByteArray := (l.getD k (ByteArray.empty, false)).1
def vr (l : List (ByteArray × Bool)) (k : Nat) : Bool := (l.getD k (ByteArray.empty, false)).2
theorem rsyms_at {w : World} {p g : Nat} {R : Ref} {q : RParts} (h : RHolds w p g R q) {k : Nat} (hk : k < R.syms.length) :
    ∃ b cap, q.vs = .slice (some ⟨b, 0, none⟩) R.syms.length cap ∧ w.cell? ⟨b, k * 2, none⟩ = some (.string (nm R.syms k)) ∧ w.cell? ⟨b, k * 2 + 1, none⟩ = some (.bool (vr R.syms k)) := by
  obtain ⟨b, cap, e, _, hcell, _⟩ := row_some h.syms (by omega)
  obtain ⟨h1, h2⟩ := symCells_name hk
  rw [Nat.mul_comm] at h1 h2
  exact ⟨b, cap, e, hcell _ _ h1, hcell _ _ h2⟩
theorem taken_at {w : World} {p g : Nat} {R : Ref} {q : RParts} (h : RHolds w p g R q) {k : Nat} (hk : k < R.taken.length) :
    ∃ b cap, q.vt = .slice (some ⟨b, 0, none⟩) R.taken.length cap ∧ w.cell? ⟨b, k, none⟩ = some (.string R.taken[k]) := by
  obtain ⟨b, cap, e, _, hcell, _⟩ := row_some h.taken (by omega)
  exact ⟨b, cap, e, hcell _ _ (by simp [hk])⟩

set_option maxHeartbeats 1000000 in
theorem rdepth_calls {w : World} {p g : Nat} {R : Ref} {fp : Nat → Prop} (h : RefIs w p g R fp) (hg : g < maxLen) :
    Calls Tryd.prog 37 #[.pointer (some ⟨p, 0, none⟩)] w fun e w' => e = .returned (.int .i64 (depthL R.acts)) ∧ Drawn0 w w' := by
  unfold maxLen at hg
  obtain ⟨⟨vs, va, vt⟩, h, _⟩ := h
  have hf := h.few
  have H := Aside0.mk h
  clear h
  go_enter Tryd.func37, Tryd.ntmps37
  go_wp2_with fail
  go_loopw [3, 4] (fun v3 v4 wr => ∃ k : Nat, k ≤ R.acts.length ∧ v3 = .int .i64 (depthL (R.acts.take k)) ∧ v4 = .int .i64 k ∧ Aside0 (Drawn0 w wr)) (fun _ v4 _ => R.acts.length - (intOf v4).toNat)
  case atStart => exact ⟨0, by omega, rfl, rfl, ⟨Drawn0.refl _⟩⟩
  case round =>
    obtain ⟨k, hk, rfl, rfl, HD⟩ := hrel
    obtain ⟨nq, hnq⟩ := HD.out
    subst hnq
    have h := H.out.move (w' := w.drewN nq) (fun _ _ => rfl)
    have hb := depthL_bound (R.acts.take k)
    rw [List.length_take_of_le hk] at hb
    by_cases hlt : k < R.acts.length
    · obtain ⟨b, cap, e, ck⟩ := acts_at h hlt
      simp only at e
      subst e
      have c1 := (cell_at h.cells 1).1
      simp only [List.getElem?_toArray, List.getElem?_cons_zero, List.getElem?_cons_succ] at c1
      have ht := depthL_take _ _ hlt
      generalize R.acts[k] = a at ck ht
      generalize depthL (R.acts.take k) = d at ht hb
      unfold depthStep at ht
      clear h
      by_cases e1 : a = -1
      · rw [if_pos e1] at ht
        subst e1
        have Ht := Lib.hid ht
        clear ht
        go_wp2_with fail
        go_roundw
        case rel => exact ⟨k + 1, by omega, by rw [Ht.out], by go_num, ⟨Drawn0.step (Drawn0.refl _) _⟩⟩
        case measure => simp [intOf]; omega
      · by_cases e2 : a = -2
        · rw [if_neg e1, if_pos e2] at ht
          subst e2
          have Ht := Lib.hid ht
          clear ht
          go_wp2_with fail
          go_roundw
          case rel => exact ⟨k + 1, by omega, by rw [Ht.out], by go_num, ⟨Drawn0.step (Drawn0.refl _) _⟩⟩
          case measure => simp [intOf]; omega
        · rw [if_neg e1, if_neg e2] at ht
          have Ht := Lib.hid ht
          have d1 : (a == -1) = false := beq_eq_false_iff_ne.2 e1
          have d2 : (a == -2) = false := beq_eq_false_iff_ne.2 e2
          clear ht
          go_wp2_with fail
          go_roundw
          case rel => exact ⟨k + 1, by omega, by rw [Ht.out], by go_num, ⟨Drawn0.step (Drawn0.refl _) _⟩⟩
          case measure => simp [intOf]; omega
    · have c1 := (cell_at h.cells 1).1
      simp only [List.getElem?_toArray, List.getElem?_cons_zero, List.getElem?_cons_succ] at c1
      obtain ⟨A, cap, e, _⟩ := row_slice h.acts
      simp only at e
      subst e
      have hk' : k = R.acts.length := by omega
      subst hk'
      rw [List.take_length]
      clear h
      go_wp2_with fail
      go_ret
      exact ⟨rfl, Drawn0.step (Drawn0.refl _) _⟩

/-! ### numbers -/
def numI (o : Option Nat) : Int := match o with | some n => (n : Int) | none => -1
theorem str_eqb (s t : ByteArray) : (s.toList == t.toList) = decide (s = t) := by
  rw [ByteArray.toList_eq, ByteArray.toList_eq, Bool.eq_iff_iff, beq_iff_eq, decide_eq_true_eq]
  constructor
  · intro h
    cases s; cases t
    simpa using h
  · intro h
    rw [h]
theorem idx_none {l : List (ByteArray × Bool)} {s : ByteArray} (h : ∀ j, j < l.length → nm l j ≠ s) : idx l s = none := by
  cases hi : idx l s with
  | none => rfl
  | some n =>
    obtain ⟨h1, h2⟩ := idx_lt hi
    exact absurd h2 (h n h1)
theorem idx_first {l : List (ByteArray × Bool)} {s : ByteArray} {k : Nat} (h : ∀ j, j < k → nm l j ≠ s) (hk : k < l.length) (he : nm l k = s) : idx l s = some k := by
  induction l generalizing k with
  | nil => simp at hk
  | cons x l ih =>
    unfold idx
    cases k with
    | zero =>
      have : x.1 = s := by simpa [nm] using he
      rw [if_pos this]
    | succ k =>
      have h0 : ¬ x.1 = s := by simpa [nm] using h 0 (by omega)
      rw [if_neg h0, ih (k := k) (fun j hj => by simpa [nm] using h (j + 1) (by omega)) (by simpa using hk) (by simpa [nm] using he)]
      rfl

set_option maxHeartbeats 1000000 in
theorem number_calls {w : World} {p g : Nat} {R : Ref} {fp : Nat → Prop} (h : RefIs w p g R fp) (hn : R.syms.length ≤ 512) (s : ByteArray) (hs : s.size ≤ maxLen) :
    Calls Tryd.prog 78 #[.pointer (some ⟨p, 0, none⟩), .string s] w fun e w' => e = .returned (.int .i64 (numI (idx R.syms s))) ∧ Drawn0 w w' := by
  unfold maxLen at hs
  obtain ⟨⟨vs, va, vt⟩, h, _⟩ := h
  have H := Aside0.mk h
  clear h
  go_enter Tryd.func78, Tryd.ntmps78
  go_wp2_with fail
  go_loopw [5] (fun v4 wr => ∃ k : Nat, k ≤ R.syms.length ∧ v4 = .int .i64 k ∧ Hid (∀ j, j < k → nm R.syms j ≠ s) ∧ Aside0 (Drawn0 w wr)) (fun v4 _ => R.syms.length - (intOf v4).toNat)
  case atStart => exact ⟨0, by omega, rfl, Lib.hid (fun j hj => by omega), ⟨Drawn0.refl _⟩⟩
  case round =>
    obtain ⟨k, hk, rfl, HA, HD⟩ := hrel
    obtain ⟨nq, hnq⟩ := HD.out
    subst hnq
    have h := H.out.move (w' := w.drewN nq) (fun _ _ => rfl)
    have c0 := (cell_at h.cells 0).1
    simp only [List.getElem?_toArray, List.getElem?_cons_zero] at c0
    by_cases hlt : k < R.syms.length
    · obtain ⟨b, cap, e, ck, _⟩ := rsyms_at h hlt
      simp only at e
      subst e
      have eq1 := str_eqb (nm R.syms k) s
      have ck' : (w.drewN nq).cell? ⟨b, k * 2, none⟩ = some (.string (nm R.syms k)) := ck
      clear h ck
      by_cases e1 : nm R.syms k = s
      · have Hf := Lib.hid (idx_first HA.out hlt e1)
        rw [decide_eq_true e1] at eq1
        clear e1
        generalize nm R.syms k = sk at eq1 ck'
        go_wp2_with fail
        go_ret
        exact ⟨by rw [Hf.out]; rfl, Drawn0.step (Drawn0.refl _) _⟩
      · have Hf := Lib.hid (show ∀ j, j < k + 1 → nm R.syms j ≠ s from fun j hj => by
          by_cases ej : j = k
          · subst ej; exact e1
          · exact HA.out j (by omega))
        rw [decide_eq_false e1] at eq1
        clear e1
        generalize nm R.syms k = sk at eq1 ck'
        go_wp2_with fail
        go_roundw
        case rel => exact ⟨k + 1, by omega, by go_num, Hf, ⟨Drawn0.step (Drawn0.refl _) _⟩⟩
        case measure => simp [intOf]; omega
    · obtain ⟨A, cap, e, _⟩ := row_slice h.syms
      simp only at e
      subst e
      have hk' : k = R.syms.length := by omega
      subst hk'
      have Hf := Lib.hid (idx_none HA.out)
      clear h
      go_wp2_with fail
      go_ret
      exact ⟨by rw [Hf.out]; rfl, Drawn0.step (Drawn0.refl _) _⟩

/-! ### what is open, what is active -/
theorem depthS_nat {d : Int} {a : Int} : depthStep d a = if a = -1 then d + 1 else if a = -2 then d - 1 else d := rfl
set_option maxHeartbeats 1000000 in
theorem ropen_calls {w : World} {p g : Nat} {R : Ref} {fp : Nat → Prop} (h : RefIs w p g R fp) (hg : g < maxLen) (i : Nat) (hi : i < R.acts.length) :
    Calls Tryd.prog 69 #[.pointer (some ⟨p, 0, none⟩), .int .i64 i] w fun e w' => e = .returned (.bool (openL 0 (R.acts.drop (i + 1)))) ∧ Drawn0 w w' := by
  unfold maxLen at hg
  obtain ⟨⟨vs, va, vt⟩, h, _⟩ := h
  have hf := h.few
  have H := Aside0.mk h
  clear h
  go_enter Tryd.func69, Tryd.ntmps69
  go_wp2_with fail
  go_loopw [5, 6] (fun v4 v5 wr => ∃ (k : Nat) (d : Int), i + 1 ≤ k ∧ k ≤ R.acts.length ∧ 0 ≤ d ∧ d ≤ k ∧ v4 = .int .i64 d ∧ v5 = .int .i64 k ∧ Hid (openL 0 (R.acts.drop (i + 1)) = openL d (R.acts.drop k)) ∧ Aside0 (Drawn0 w wr)) (fun _ v5 _ => R.acts.length - (intOf v5).toNat)
  case atStart => exact ⟨i + 1, 0, by omega, by omega, by omega, by omega, rfl, by go_num, Lib.hid rfl, ⟨Drawn0.refl _⟩⟩
  case round =>
    obtain ⟨k, d, hik, hk, hd0, hdk, rfl, rfl, HA, HD⟩ := hrel
    obtain ⟨nq, hnq⟩ := HD.out
    subst hnq
    have h := H.out.move (w' := w.drewN nq) (fun _ _ => rfl)
    have c1 := (cell_at h.cells 1).1
    simp only [List.getElem?_toArray, List.getElem?_cons_zero, List.getElem?_cons_succ] at c1
    by_cases hlt : k < R.acts.length
    · obtain ⟨b, cap, e, ck⟩ := acts_at h hlt
      simp only at e
      subst e
      have hop : openL d (R.acts.drop k) = if depthStep d R.acts[k] < 0 then false else openL (depthStep d R.acts[k]) (R.acts.drop (k + 1)) := by
        rw [List.drop_eq_getElem_cons hlt]
        rfl
      generalize R.acts[k] = a at ck hop
      unfold depthStep at hop
      clear h
      by_cases e1 : a = -1
      · rw [if_pos e1, if_neg (by omega)] at hop
        subst e1
        have Hop := Lib.hid (HA.out.trans hop)
        clear hop
        go_wp2_with fail
        go_roundw
        case rel => exact ⟨k + 1, d + 1, by omega, by omega, by omega, by omega, by go_num, by go_num, Hop, ⟨Drawn0.step (Drawn0.refl _) _⟩⟩
        case measure => simp [intOf]; omega
      · by_cases e2 : a = -2
        · rw [if_neg e1, if_pos e2] at hop
          subst e2
          by_cases e3 : d = 0
          · have hz : d - 1 < 0 := by omega
            rw [if_pos hz] at hop
            have Hop := Lib.hid (HA.out.trans hop)
            clear hop
            go_wp2_with fail
            go_ret
            exact ⟨by rw [Hop.out]; rfl, Drawn0.step (Drawn0.refl _) _⟩
          · have hd1 : 1 ≤ d := by omega
            rw [if_neg (by omega)] at hop
            have Hop := Lib.hid (HA.out.trans hop)
            clear hop
            go_wp2_with fail
            go_roundw
            case rel => exact ⟨k + 1, d - 1, by omega, by omega, by omega, by omega, by go_num, by go_num, Hop, ⟨Drawn0.step (Drawn0.refl _) _⟩⟩
            case measure => simp [intOf]; omega
        · rw [if_neg e1, if_neg e2, if_neg (by omega)] at hop
          have Hop := Lib.hid (HA.out.trans hop)
          have d1 : (a == -1) = false := beq_eq_false_iff_ne.2 e1
          have d2 : (a == -2) = false := beq_eq_false_iff_ne.2 e2
          clear hop
          go_wp2_with fail
          go_roundw
          case rel => exact ⟨k + 1, d, by omega, by omega, by omega, by omega, rfl, by go_num, Hop, ⟨Drawn0.step (Drawn0.refl _) _⟩⟩
          case measure => simp [intOf]; omega
    · obtain ⟨A, cap, e, _⟩ := row_slice h.acts
      simp only at e
      subst e
      have hk' : k = R.acts.length := by omega
      subst hk'
      have HA' := Lib.hid (show openL 0 (R.acts.drop (i + 1)) = true by rw [HA.out, List.drop_length]; rfl)
      clear h
      go_wp2_with fail
      go_ret
      exact ⟨by rw [HA'.out]; rfl, Drawn0.step (Drawn0.refl _) _⟩

/-! ### Count, Name, IsVar -/
theorem rcount_calls {w : World} {p g : Nat} {R : Ref} {fp : Nat → Prop} (h : RefIs w p g R fp) :
    Calls Tryd.prog 36 #[.pointer (some ⟨p, 0, none⟩)] w fun e w' => e = .returned (.int .i64 (R.syms.length : Int)) ∧ Drawn0 w w' := by
  obtain ⟨⟨vs, va, vt⟩, h, _⟩ := h
  obtain ⟨A, cap, e, _⟩ := row_slice h.syms
  simp only at e
  subst e
  have c0 := (cell_at h.cells 0).1
  simp only [List.getElem?_toArray, List.getElem?_cons_zero] at c0
  clear h
  go_enter Tryd.func36, Tryd.ntmps36
  go_wp2
  go_ret
  exact ⟨rfl, Drawn0.refl _⟩
def rThere (R : Ref) (n : Int) : Bool := decide (0 ≤ n) && decide (n < R.syms.length)
def rName (R : Ref) (n : Int) : ByteArray := if rThere R n then nm R.syms n.toNat else ByteArray.empty
def rIsVar (R : Ref) (n : Int) : Bool := rThere R n && vr R.syms n.toNat
theorem rname_calls {w : World} {p g : Nat} {R : Ref} {fp : Nat → Prop} (h : RefIs w p g R fp) (n : Int) :
    Calls Tryd.prog 39 #[.pointer (some ⟨p, 0, none⟩), .int .i64 n] w fun e w' => e = .returned (.string (rName R n)) ∧ Drawn0 w w' := by
  obtain ⟨⟨vs, va, vt⟩, h, _⟩ := h
  by_cases h0 : 0 ≤ n
  · by_cases h1 : n < R.syms.length
    · obtain ⟨k, rfl⟩ : ∃ k : Nat, n = (k : Int) := ⟨n.toNat, by omega⟩
      have hk : k < R.syms.length := by omega
      have Hn := Lib.hid (show rName R k = nm R.syms k by unfold rName rThere; rw [decide_eq_true h0, decide_eq_true h1]; rfl)
      obtain ⟨b, cap, e, cn, _⟩ := rsyms_at h hk
      simp only at e
      subst e
      have c0 := (cell_at h.cells 0).1
      simp only [List.getElem?_toArray, List.getElem?_cons_zero] at c0
      have d0 : decide ((k : Int) < 0) = false := decide_eq_false (by omega)
      have d1 : decide ((R.syms.length : Int) ≤ k) = false := decide_eq_false (by omega)
      clear h
      go_enter Tryd.func39, Tryd.ntmps39
      go_wp2_with fail
      go_ret
      exact ⟨by rw [Hn.out]; rfl, Drawn0.refl _⟩
    · obtain ⟨A, cap, e, _⟩ := row_slice h.syms
      simp only at e
      subst e
      have c0 := (cell_at h.cells 0).1
      simp only [List.getElem?_toArray, List.getElem?_cons_zero] at c0
      have Hn := Lib.hid (show rName R n = ByteArray.empty by unfold rName rThere; rw [decide_eq_false h1, Bool.and_false]; rfl)
      have d0 : decide (n < 0) = false := decide_eq_false (by omega)
      have d1 : decide ((R.syms.length : Int) ≤ n) = true := decide_eq_true (by omega)
      clear h
      go_enter Tryd.func39, Tryd.ntmps39
      go_wp2_with fail
      go_ret
      exact ⟨by rw [Hn.out]; rfl, Drawn0.refl _⟩
  · have Hn := Lib.hid (show rName R n = ByteArray.empty by unfold rName rThere; rw [decide_eq_false h0, Bool.false_and]; rfl)
    have d0 : decide (n < 0) = true := decide_eq_true (by omega)
    clear h
    go_enter Tryd.func39, Tryd.ntmps39
    go_wp2_with fail
    go_ret
    exact ⟨by rw [Hn.out]; rfl, Drawn0.refl _⟩
theorem risVar_calls {w : World} {p g : Nat} {R : Ref} {fp : Nat → Prop} (h : RefIs w p g R fp) (n : Int) :
    Calls Tryd.prog 40 #[.pointer (some ⟨p, 0, none⟩), .int .i64 n] w fun e w' => e = .returned (.bool (rIsVar R n)) ∧ Drawn0 w w' := by
  obtain ⟨⟨vs, va, vt⟩, h, _⟩ := h
  by_cases h0 : 0 ≤ n
  · by_cases h1 : n < R.syms.length
    · obtain ⟨k, rfl⟩ : ∃ k : Nat, n = (k : Int) := ⟨n.toNat, by omega⟩
      have hk : k < R.syms.length := by omega
      have Hn := Lib.hid (show rIsVar R k = vr R.syms k by unfold rIsVar rThere; rw [decide_eq_true h0, decide_eq_true h1]; rfl)
      obtain ⟨b, cap, e, _, cn⟩ := rsyms_at h hk
      simp only at e
      subst e
      have c0 := (cell_at h.cells 0).1
      simp only [List.getElem?_toArray, List.getElem?_cons_zero] at c0
      have d0 : decide (0 ≤ (k : Int)) = true := decide_eq_true (by omega)
      have d1 : decide ((k : Int) < R.syms.length) = true := decide_eq_true (by omega)
      clear h
      go_enter Tryd.func40, Tryd.ntmps40
      go_wp2_with fail
      go_ret
      exact ⟨by rw [Hn.out]; rfl, Drawn0.refl _⟩
    · obtain ⟨A, cap, e, _⟩ := row_slice h.syms
      simp only at e
      subst e
      have c0 := (cell_at h.cells 0).1
      simp only [List.getElem?_toArray, List.getElem?_cons_zero] at c0
      have Hn := Lib.hid (show rIsVar R n = false by unfold rIsVar rThere; rw [decide_eq_false h1, Bool.and_false]; rfl)
      have d0 : decide (0 ≤ n) = true := decide_eq_true (by omega)
      have d1 : decide (n < (R.syms.length : Int)) = false := decide_eq_false (by omega)
      clear h
      go_enter Tryd.func40, Tryd.ntmps40
      go_wp2_with fail
      go_ret
      exact ⟨by rw [Hn.out]; rfl, Drawn0.refl _⟩
  · have Hn := Lib.hid (show rIsVar R n = false by unfold rIsVar rThere; rw [decide_eq_false h0, Bool.false_and]; rfl)
    have d0 : decide (0 ≤ n) = false := decide_eq_false (by omega)
    clear h
    go_enter Tryd.func40, Tryd.ntmps40
    go_wp2_with fail
    go_ret
    exact ⟨by rw [Hn.out]; rfl, Drawn0.refl _⟩

def rActive (R : Ref) (n : Int) : Bool := rThere R n && (!vr R.syms n.toNat || (stat n.toNat R.acts).isSome)
set_option maxHeartbeats 1000000 in
theorem ractive_calls {w : World} {p g : Nat} {R : Ref} {fp : Nat → Prop} (h : RefIs w p g R fp) (hg : g < maxLen) (n : Int) :
    Calls Tryd.prog 41 #[.pointer (some ⟨p, 0, none⟩), .int .i64 n] w fun e w' => e = .returned (.bool (rActive R n)) ∧ Drawn0 w w' := by
  have HR := Aside0.mk h
  have Hg := Lib.hid hg
  unfold maxLen at hg
  obtain ⟨⟨vs, va, vt⟩, h, _⟩ := h
  have hf := h.few
  by_cases h0 : 0 ≤ n
  · by_cases h1 : n < R.syms.length
    · obtain ⟨k, rfl⟩ : ∃ k : Nat, n = (k : Int) := ⟨n.toNat, by omega⟩
      have hk : k < R.syms.length := by omega
      have d0 : decide ((k : Int) < 0) = false := decide_eq_false (by omega)
      have d1 : decide ((R.syms.length : Int) ≤ k) = false := decide_eq_false (by omega)
      obtain ⟨b, cap, e, _, cn⟩ := rsyms_at h hk
      simp only at e
      subst e
      have c0 := (cell_at h.cells 0).1
      simp only [List.getElem?_toArray, List.getElem?_cons_zero] at c0
      have Hn := Lib.hid (show rActive R k = (!vr R.syms k || (stat k R.acts).isSome) by unfold rActive rThere; rw [decide_eq_true h0, decide_eq_true h1]; rfl)
      cases hv : vr R.syms k with
      | false =>
        rw [hv] at cn Hn
        clear h hv
        go_enter Tryd.func41, Tryd.ntmps41
        go_wp2_with fail
        go_ret
        exact ⟨by rw [Hn.out]; rfl, Drawn0.refl _⟩
      | true =>
        rw [hv] at cn Hn
        have H := Aside0.mk h
        obtain ⟨A, cap2, e, _⟩ := row_slice h.acts
        simp only at e
        subst e
        have c1 := (cell_at h.cells 1).1
        simp only [List.getElem?_toArray, List.getElem?_cons_zero, List.getElem?_cons_succ] at c1
        clear h hv
        go_enter Tryd.func41, Tryd.ntmps41
        go_wp2_with fail
        go_loopw [5] (fun v5 wr => ∃ j : Int, -1 ≤ j ∧ j < R.acts.length ∧ v5 = .int .i64 j ∧ Hid (∀ a ∈ R.acts.drop (j + 1).toNat, a ≠ (k : Int)) ∧ Aside0 (Drawn0 w wr)) (fun v5 _ => (intOf v5 + 1).toNat)
        case atStart => exact ⟨(R.acts.length : Int) - 1, by omega, by omega, by go_num, Lib.hid (fun a ha => by rw [show ((R.acts.length : Int) - 1 + 1).toNat = R.acts.length by omega, List.drop_length] at ha; cases ha), ⟨Drawn0.refl _⟩⟩
        case round =>
          obtain ⟨j, hj0, hj1, rfl, HA, HD⟩ := hrel
          obtain ⟨nq, hnq⟩ := HD.out
          subst hnq
          have h := H.out.move (w' := w.drewN nq) (fun _ _ => rfl)
          by_cases hj : 0 ≤ j
          · obtain ⟨m, rfl⟩ : ∃ m : Nat, j = (m : Int) := ⟨j.toNat, by omega⟩
            have hm : m < R.acts.length := by omega
            obtain ⟨b2, cap3, e, ck⟩ := acts_at h hm
            simp only [Value.slice.injEq] at e
            obtain ⟨rfl, -, rfl⟩ := e
            have HA' := Lib.hid (show ∀ a ∈ R.acts.drop (m + 1), a ≠ (k : Int) from by have := HA.out; rwa [show ((m : Int) + 1).toNat = m + 1 by omega] at this)
            have c1 := (cell_at h.cells 1).1
            simp only [List.getElem?_toArray, List.getElem?_cons_zero, List.getElem?_cons_succ] at c1
            have hcut : R.acts = R.acts.take m ++ R.acts[m] :: R.acts.drop (m + 1) := by
              rw [← List.drop_eq_getElem_cons hm, List.take_append_drop]
            have hdrop : R.acts.drop m = R.acts[m] :: R.acts.drop (m + 1) := List.drop_eq_getElem_cons hm
            clear h HA
            generalize R.acts[m] = a at ck hcut hdrop
            by_cases e1 : a = (k : Int)
            · have HS := Lib.hid (show (stat k R.acts).isSome = openL 0 (R.acts.drop (m + 1)) by
                have h1 := hcut
                rw [e1] at h1
                exact (congrArg (fun x => (stat k x).isSome) h1).trans (stat_last HA'.out))
              subst e1
              clear hcut hdrop
              go_wp2_with fail
              refine (ropen_calls (HR.out.move (w' := w.drewN nq) (fun _ _ => rfl)) Hg.out m hm).mono ?_
              rintro e w2 ⟨rfl, hd⟩
              have Hd := Aside0.mk hd
              clear hd
              go_wp2_with fail
              go_ret
              exact ⟨by rw [Hn.out, HS.out]; rfl, by obtain ⟨n2, e2⟩ := Hd.out; rw [e2]; exact Drawn0.step (Drawn0.step (Drawn0.refl _) _) _⟩
            · have HB := Lib.hid (show ∀ x ∈ R.acts.drop m, x ≠ (k : Int) from by
                rw [hdrop]
                intro x hx
                rcases List.mem_cons.1 hx with rfl | hx
                · exact e1
                · exact HA'.out x hx)
              have d2 : (a == (k : Int)) = false := beq_eq_false_iff_ne.2 e1
              clear hcut hdrop e1
              go_wp2_with fail
              go_roundw
              case rel => exact ⟨(m : Int) - 1, by omega, by omega, by go_num, Lib.hid (by rw [show ((m : Int) - 1 + 1).toNat = m by omega]; exact HB.out), ⟨Drawn0.step (Drawn0.refl _) _⟩⟩
              case measure => simp [intOf]
          · have hj' : j = -1 := by omega
            subst hj'
            have HS := Lib.hid (stat_never (n := k) (acts := R.acts) (by have := HA.out; simpa using this))
            clear h HA
            go_wp2_with fail
            go_ret
            exact ⟨by rw [Hn.out, HS.out]; rfl, Drawn0.step (Drawn0.refl _) _⟩
    · obtain ⟨A, cap, e, _⟩ := row_slice h.syms
      simp only at e
      subst e
      have c0 := (cell_at h.cells 0).1
      simp only [List.getElem?_toArray, List.getElem?_cons_zero] at c0
      have Hn := Lib.hid (show rActive R n = false by unfold rActive rThere; rw [decide_eq_false h1, Bool.and_false]; rfl)
      have d0 : decide (n < 0) = false := decide_eq_false (by omega)
      have d1 : decide ((R.syms.length : Int) ≤ n) = true := decide_eq_true (by omega)
      clear h
      go_enter Tryd.func41, Tryd.ntmps41
      go_wp2_with fail
      go_ret
      exact ⟨by rw [Hn.out]; rfl, Drawn0.refl _⟩
  · have Hn := Lib.hid (show rActive R n = false by unfold rActive rThere; rw [decide_eq_false h0, Bool.false_and]; rfl)
    have d0 : decide (n < 0) = true := decide_eq_true (by omega)
    clear h
    go_enter Tryd.func41, Tryd.ntmps41
    go_wp2_with fail
    go_ret
    exact ⟨by rw [Hn.out]; rfl, Drawn0.refl _⟩
end Go.Proofs.YtpoojimmponklaaDoor.SymRef

namespace Go.Proofs.YtpoojimmponklaaDoor.SymRefDoes
open Go.RowKit Go.Maps Go.Proofs.YtpoojimmponklaaDoor.SymTab Go.Proofs.YtpoojimmponklaaDoor.SymHeap Go.Proofs.YtpoojimmponklaaDoor.SymReads Go.Proofs.YtpoojimmponklaaDoor.SymAdd Go.Proofs.YtpoojimmponklaaDoor.SymConst Go.Proofs.YtpoojimmponklaaDoor.SymApi Go.Proofs.YtpoojimmponklaaDoor.SymRef
open Go.Proofs.YtpoojimmponklaaDoorW.PrintWords (Aside0 Drawn0 own_move)
set_option linter.unusedVariables false

def RSteps (w w' : World) (p g : Nat) (R : Ref) (q : RParts) : Prop := ∃ q', RHolds w' p g R q' ∧ (∀ k, q'.has p k → q.has p k ∨ w.heap.size ≤ k) ∧ Turns (q.has p) w w'
theorem rsteps_refl {w : World} {p g g' : Nat} {R : Ref} {q : RParts} (h : RHolds w p g R q) (hg : g ≤ g') : RSteps w w p g' R q := ⟨q, ⟨h.cells, h.syms, h.acts, h.taken, Nat.le_trans h.few hg⟩, fun _ hk => .inl hk, Turns.refl _ _⟩
theorem rsteps_drawn {w w' : World} {p g g' : Nat} {R : Ref} {q : RParts} (h : RHolds w p g R q) (hg : g ≤ g') (hd : Drawn0 w w') : RSteps w w' p g' R q := by
  obtain ⟨n, rfl⟩ := hd
  have h2 := h.move (w' := w.drewN n) (fun _ _ => rfl)
  exact ⟨q, ⟨h2.cells, h2.syms, h2.acts, h2.taken, Nat.le_trans h.few hg⟩, fun _ hk => .inl hk, Turns.drewN w n⟩
theorem RSteps.drawn {w w' w'' : World} {p g : Nat} {R : Ref} {q : RParts} (h : RSteps w w' p g R q) (hd : Drawn0 w' w'') : RSteps w w'' p g R q := by
  obtain ⟨n, rfl⟩ := hd
  obtain ⟨q', a, b, c⟩ := h
  exact ⟨q', a.move (w' := w'.drewN n) (fun _ _ => rfl), b, ⟨c.os, c.tape, c.output, c.size, c.block⟩⟩
theorem RSteps.before {w w' w'' : World} {p g : Nat} {R : Ref} {q : RParts} (h : RSteps w' w'' p g R q) (hd : Drawn0 w w') : RSteps w w'' p g R q := by
  obtain ⟨n, rfl⟩ := hd
  obtain ⟨q', a, b, c⟩ := h
  exact ⟨q', a, b, ⟨c.os, c.tape, c.output, c.size, c.block⟩⟩
theorem push_acts_at {w w1 : World} {p g : Nat} {R : Ref} {q : RParts} (h : RHolds w p g R q) {a : Int} {v' : Value} {o : Obj} (hown : w1.ownsRow 0 3 1 v' (R.acts.length + 1) (actCells (R.acts ++ [a]))) (hgrow : (w.alloc o).grownBy w1 q.va.ownBlock)
    (hat : v'.ownBlock = q.va.ownBlock ∨ v'.ownBlock = some (w.alloc o).heap.size) :
    RHolds (w1.setCell ⟨p, 1, none⟩ v') p (g + 1) { R with acts := R.acts ++ [a] } ⟨q.vs, v', q.vt⟩ ∧ (∀ k, (RParts.mk q.vs  v'  q.vt).has p k → q.has p k ∨ w.heap.size ≤ k) ∧ Turns (q.has p) w (w1.setCell ⟨p, 1, none⟩ v') := by
  have hlt := h.lt
  have ht1 : Turns (fun k => q.va.ownBlock = some k) w w1 := (Turns.alloc _ w _).trans (Turns.of_grown (fp := fun k => q.va.ownBlock = some k) hgrow (fun k hk => hk)) (fun k hk => .inl hk)
  have hb1 : ∀ k, k < w.heap.size → tyOf w k ≠ some 3 → w1.heap[k]? = w.heap[k]? := fun k hk hty => ht1.block k hk (fun e => hty (tyOf_row h.acts e))
  have hp1 : w1.heap[p]? = some (.cells #[q.vs, q.va, q.vt] 99 (0, 0)) := (hb1 p (hlt p (.inl rfl)) (by rw [h.tp]; decide)).trans h.cells
  have hpt : tyOf w1 p = some 99 := tyOf_cells hp1
  have step : ∀ k, k ≠ p → (w1.setCell ⟨p, 1, none⟩ v').heap[k]? = w1.heap[k]? := fun k h1 => Below.heap_setCell w1 ⟨p, 1, none⟩ _ k h1
  have row : ∀ k t, k < w.heap.size → tyOf w k = t → t ≠ some 3 → t ≠ some 99 → (w1.setCell ⟨p, 1, none⟩ v').heap[k]? = w.heap[k]? := fun k t hk ht h1 h2 =>
    (step k (ne_ty ht h.tp h2)).trans (hb1 k hk (by rw [ht]; exact h1))
  refine ⟨⟨?_, own_move h.syms (fun k hk => row k _ (h.syms.lt k hk).2 (tyOf_row h.syms hk) (by decide) (by decide)), ?_, own_move h.taken (fun k hk => row k _ (h.taken.lt k hk).2 (tyOf_row h.taken hk) (by decide) (by decide)), by have := h.few; show (R.acts ++ [a]).length ≤ g + 1; rw [List.length_append, List.length_singleton]; omega⟩, ?_, ?_⟩
  · rw [set_block hp1]
    rfl
  · show World.ownsRow _ _ _ _ _ (R.acts ++ [a]).length _
    rw [List.length_append, List.length_singleton]
    exact own_move hown (fun k hk => step k (ne_ty (tyOf_row hown hk) hpt (by decide)))
  · intro k hk
    rcases hk with hk | hk | hk | hk
    · exact .inl (.inl hk)
    · exact .inl (.inr (.inl hk))
    · rcases hat with e | e
      · rw [show (RParts.mk q.vs v' q.vt).va = v' from rfl, e] at hk
        exact .inl (.inr (.inr (.inl hk)))
      · rw [show (RParts.mk q.vs v' q.vt).va = v' from rfl, e] at hk
        right
        have := Option.some.inj hk
        simp at this
        omega
    · exact .inl (.inr (.inr (.inr hk)))
  · refine Turns.trans (ht1.mono ?_) (Turns.setCell (fp := fun k => k = p) w1 ⟨p, 1, none⟩ _ rfl) ?_
    · intro k hk; simp [RParts.has, hk]
    · rintro k rfl; left; simp [RParts.has]
theorem push_acts {w w1 : World} {p g : Nat} {R : Ref} {q : RParts} (h : RHolds w p g R q) {a : Int} {v' : Value} {o : Obj} (hown : w1.ownsRow 0 3 1 v' (R.acts.length + 1) (actCells (R.acts ++ [a]))) (hgrow : (w.alloc o).grownBy w1 q.va.ownBlock)
    (hat : v'.ownBlock = q.va.ownBlock ∨ v'.ownBlock = some (w.alloc o).heap.size) : RSteps w (w1.setCell ⟨p, 1, none⟩ v') p (g + 1) { R with acts := R.acts ++ [a] } q :=
  ⟨_, push_acts_at h hown hgrow hat⟩
theorem push_syms_at {w w1 : World} {p g : Nat} {R : Ref} {q : RParts} (h : RHolds w p g R q) {a : ByteArray × Bool} {v' : Value} {o : Obj} (hown : w1.ownsRow 0 101 2 v' (R.syms.length + 1) (symCells (R.syms ++ [a]))) (hgrow : (w.alloc o).grownBy w1 q.vs.ownBlock)
    (hat : v'.ownBlock = q.vs.ownBlock ∨ v'.ownBlock = some (w.alloc o).heap.size) :
    RHolds (w1.setCell ⟨p, 0, none⟩ v') p (g + 1) { R with syms := R.syms ++ [a] } ⟨v', q.va, q.vt⟩ ∧ (∀ k, (RParts.mk v'  q.va  q.vt).has p k → q.has p k ∨ w.heap.size ≤ k) ∧ Turns (q.has p) w (w1.setCell ⟨p, 0, none⟩ v') := by
  have hlt := h.lt
  have ht1 : Turns (fun k => q.vs.ownBlock = some k) w w1 := (Turns.alloc _ w _).trans (Turns.of_grown (fp := fun k => q.vs.ownBlock = some k) hgrow (fun k hk => hk)) (fun k hk => .inl hk)
  have hb1 : ∀ k, k < w.heap.size → tyOf w k ≠ some 101 → w1.heap[k]? = w.heap[k]? := fun k hk hty => ht1.block k hk (fun e => hty (tyOf_row h.syms e))
  have hp1 : w1.heap[p]? = some (.cells #[q.vs, q.va, q.vt] 99 (0, 0)) := (hb1 p (hlt p (.inl rfl)) (by rw [h.tp]; decide)).trans h.cells
  have hpt : tyOf w1 p = some 99 := tyOf_cells hp1
  have step : ∀ k, k ≠ p → (w1.setCell ⟨p, 0, none⟩ v').heap[k]? = w1.heap[k]? := fun k h1 => Below.heap_setCell w1 ⟨p, 0, none⟩ _ k h1
  have row : ∀ k t, k < w.heap.size → tyOf w k = t → t ≠ some 101 → t ≠ some 99 → (w1.setCell ⟨p, 0, none⟩ v').heap[k]? = w.heap[k]? := fun k t hk ht h1 h2 =>
    (step k (ne_ty ht h.tp h2)).trans (hb1 k hk (by rw [ht]; exact h1))
  refine ⟨⟨?_, ?_, own_move h.acts (fun k hk => row k _ (h.acts.lt k hk).2 (tyOf_row h.acts hk) (by decide) (by decide)), own_move h.taken (fun k hk => row k _ (h.taken.lt k hk).2 (tyOf_row h.taken hk) (by decide) (by decide)), by have := h.few; show R.acts.length ≤ g + 1; omega⟩, ?_, ?_⟩
  · rw [set_block hp1]
    rfl
  · show World.ownsRow _ _ _ _ _ (R.syms ++ [a]).length _
    rw [List.length_append, List.length_singleton]
    exact own_move hown (fun k hk => step k (ne_ty (tyOf_row hown hk) hpt (by decide)))
  · intro k hk
    rcases hk with hk | hk | hk | hk
    · exact .inl (.inl hk)
    · rcases hat with e | e
      · rw [show (RParts.mk v' q.va q.vt).vs = v' from rfl, e] at hk
        exact .inl (.inr (.inl hk))
      · rw [show (RParts.mk v' q.va q.vt).vs = v' from rfl, e] at hk
        right
        have := Option.some.inj hk
        simp at this
        omega
    · exact .inl (.inr (.inr (.inl hk)))
    · exact .inl (.inr (.inr (.inr hk)))
  · refine Turns.trans (ht1.mono ?_) (Turns.setCell (fp := fun k => k = p) w1 ⟨p, 0, none⟩ _ rfl) ?_
    · intro k hk; simp [RParts.has, hk]
    · rintro k rfl; left; simp [RParts.has]
theorem push_syms {w w1 : World} {p g : Nat} {R : Ref} {q : RParts} (h : RHolds w p g R q) {a : ByteArray × Bool} {v' : Value} {o : Obj} (hown : w1.ownsRow 0 101 2 v' (R.syms.length + 1) (symCells (R.syms ++ [a]))) (hgrow : (w.alloc o).grownBy w1 q.vs.ownBlock)
    (hat : v'.ownBlock = q.vs.ownBlock ∨ v'.ownBlock = some (w.alloc o).heap.size) : RSteps w (w1.setCell ⟨p, 0, none⟩ v') p (g + 1) { R with syms := R.syms ++ [a] } q :=
  ⟨_, push_syms_at h hown hgrow hat⟩
theorem push_taken_at {w w1 : World} {p g : Nat} {R : Ref} {q : RParts} (h : RHolds w p g R q) {a : ByteArray} {v' : Value} {o : Obj} (hown : w1.ownsRow 0 9 1 v' (R.taken.length + 1) ((R.taken ++ [a]).map Value.string)) (hgrow : (w.alloc o).grownBy w1 q.vt.ownBlock)
    (hat : v'.ownBlock = q.vt.ownBlock ∨ v'.ownBlock = some (w.alloc o).heap.size) :
    RHolds (w1.setCell ⟨p, 2, none⟩ v') p (g + 1) { R with taken := R.taken ++ [a] } ⟨q.vs, q.va, v'⟩ ∧ (∀ k, (RParts.mk q.vs  q.va  v').has p k → q.has p k ∨ w.heap.size ≤ k) ∧ Turns (q.has p) w (w1.setCell ⟨p, 2, none⟩ v') := by
  have hlt := h.lt
  have ht1 : Turns (fun k => q.vt.ownBlock = some k) w w1 := (Turns.alloc _ w _).trans (Turns.of_grown (fp := fun k => q.vt.ownBlock = some k) hgrow (fun k hk => hk)) (fun k hk => .inl hk)
  have hb1 : ∀ k, k < w.heap.size → tyOf w k ≠ some 9 → w1.heap[k]? = w.heap[k]? := fun k hk hty => ht1.block k hk (fun e => hty (tyOf_row h.taken e))
  have hp1 : w1.heap[p]? = some (.cells #[q.vs, q.va, q.vt] 99 (0, 0)) := (hb1 p (hlt p (.inl rfl)) (by rw [h.tp]; decide)).trans h.cells
  have hpt : tyOf w1 p = some 99 := tyOf_cells hp1
  have step : ∀ k, k ≠ p → (w1.setCell ⟨p, 2, none⟩ v').heap[k]? = w1.heap[k]? := fun k h1 => Below.heap_setCell w1 ⟨p, 2, none⟩ _ k h1
  have row : ∀ k t, k < w.heap.size → tyOf w k = t → t ≠ some 9 → t ≠ some 99 → (w1.setCell ⟨p, 2, none⟩ v').heap[k]? = w.heap[k]? := fun k t hk ht h1 h2 =>
    (step k (ne_ty ht h.tp h2)).trans (hb1 k hk (by rw [ht]; exact h1))
  refine ⟨⟨?_, own_move h.syms (fun k hk => row k _ (h.syms.lt k hk).2 (tyOf_row h.syms hk) (by decide) (by decide)), own_move h.acts (fun k hk => row k _ (h.acts.lt k hk).2 (tyOf_row h.acts hk) (by decide) (by decide)), ?_, by have := h.few; show R.acts.length ≤ g + 1; omega⟩, ?_, ?_⟩
  · rw [set_block hp1]
    rfl
  · show World.ownsRow _ _ _ _ _ (R.taken ++ [a]).length _
    rw [List.length_append, List.length_singleton]
    exact own_move hown (fun k hk => step k (ne_ty (tyOf_row hown hk) hpt (by decide)))
  · intro k hk
    rcases hk with hk | hk | hk | hk
    · exact .inl (.inl hk)
    · exact .inl (.inr (.inl hk))
    · exact .inl (.inr (.inr (.inl hk)))
    · rcases hat with e | e
      · rw [show (RParts.mk q.vs q.va v').vt = v' from rfl, e] at hk
        exact .inl (.inr (.inr (.inr hk)))
      · rw [show (RParts.mk q.vs q.va v').vt = v' from rfl, e] at hk
        right
        have := Option.some.inj hk
        simp at this
        omega
  · refine Turns.trans (ht1.mono ?_) (Turns.setCell (fp := fun k => k = p) w1 ⟨p, 2, none⟩ _ rfl) ?_
    · intro k hk; simp [RParts.has, hk]
    · rintro k rfl; left; simp [RParts.has]
theorem push_taken {w w1 : World} {p g : Nat} {R : Ref} {q : RParts} (h : RHolds w p g R q) {a : ByteArray} {v' : Value} {o : Obj} (hown : w1.ownsRow 0 9 1 v' (R.taken.length + 1) ((R.taken ++ [a]).map Value.string)) (hgrow : (w.alloc o).grownBy w1 q.vt.ownBlock)
    (hat : v'.ownBlock = q.vt.ownBlock ∨ v'.ownBlock = some (w.alloc o).heap.size) : RSteps w (w1.setCell ⟨p, 2, none⟩ v') p (g + 1) { R with taken := R.taken ++ [a] } q :=
  ⟨_, push_taken_at h hown hgrow hat⟩

theorem info3 : (Tryd.prog.info? 3).map (fun i => (i.zero, i.size, i.bytes)) = some (some (.int .i64 0), 1, 8) := by kernel_rfl
theorem info101 : (Tryd.prog.info? 101).map (fun i => (i.zero, i.size, i.bytes)) = some (some (.agg #[.string .empty, .bool false]), 2, 24) := by kernel_rfl

theorem cells_after {w w1 : World} {p : Nat} {c : Array Value} {o : Obj} {e size n : Nat} {v : Value} {xs : List Value} (h : w.heap[p]? = some (.cells c 99 (0, 0))) (hr : w.ownsRow 0 e size v n xs) (hg : (w.alloc o).grownBy w1 v.ownBlock) (he : e ≠ 99) :
    w1.heap[p]? = some (.cells c 99 (0, 0)) := by
  have hp := (Array.getElem?_eq_some_iff.1 h).1
  rw [← h]
  refine (hg.block p (by simp; omega) (fun e2 => ?_)).trans (Below.heap_alloc w o p hp)
  have h1 := tyOf_row hr e2.symm
  rw [tyOf_cells h] at h1
  exact he (Option.some.inj h1).symm

/-! ### Open, Close -/
set_option maxHeartbeats 1000000 in
set_option maxRecDepth 100000 in
theorem ropen_full {w : World} {p g : Nat} {R : Ref} {q : RParts} (h : RHolds w p g R q) (hg : g + 2 < 17592186044416) (d : Nat) (hd : depthL R.acts = (d : Int)) (hsc : 16 ≤ d) :
    Calls Tryd.prog 63 #[.pointer (some ⟨p, 0, none⟩)] w fun e w' => e = .returned (.int .i64 23) ∧ RSteps w w' p (g + 1) R q := by
  have hdep := rdepth_calls (fp := fun _ => True) ⟨q, h, fun _ _ => trivial⟩ (by unfold maxLen; omega)
  rw [hd] at hdep
  have H := Aside0.mk h
  clear h
  have d3 : (16 : Int) ≤ (d : Int) := by omega
  go_enter Tryd.func63, Tryd.ntmps63
  go_wp2_with fail
  refine hdep.mono ?_
  rintro e w2 ⟨rfl, hd2⟩
  have Hd := Aside0.mk hd2
  clear hd2
  go_wp2_with fail
  go_ret
  exact ⟨rfl, rsteps_drawn H.out (by omega) Hd.out⟩
set_option maxHeartbeats 1000000 in
set_option maxRecDepth 100000 in
theorem ropen_new {w : World} {p g : Nat} {R : Ref} {q : RParts} (h : RHolds w p g R q) (hg : g + 2 < 17592186044416) (d : Nat) (hd : depthL R.acts = (d : Int)) (hsc : d < 16) :
    Calls Tryd.prog 63 #[.pointer (some ⟨p, 0, none⟩)] w fun e w' => e = .returned (.int .i64 0) ∧ RSteps w w' p (g + 1) { R with acts := R.acts ++ [-1] } q := by
  have hdep := rdepth_calls (fp := fun _ => True) ⟨q, h, fun _ _ => trivial⟩ (by unfold maxLen; omega)
  rw [hd] at hdep
  obtain ⟨vs, va, vt⟩ := q
  have H := Aside0.mk h
  obtain ⟨A, cap, e, _⟩ := row_slice h.acts
  simp only at e
  subst e
  have hlen := h.few
  have d3 : (d : Int) < 16 := by omega
  obtain ⟨i0, hi, hz0, hz1, hz2⟩ := info_parts info3
  have Hi := Aside0.mk hi
  have Hz0 := Aside0.mk hz0
  have Hz1 := Aside0.mk hz1
  have Hz2 := Aside0.mk hz2
  clear h hi hz0 hz1 hz2
  go_enter Tryd.func63, Tryd.ntmps63
  go_wp2_with fail
  refine hdep.mono ?_
  rintro e w2 ⟨rfl, hd2⟩
  have H2 := Aside0.mk (show RHolds w2 p g R ⟨vs, .slice A R.acts.length cap, vt⟩ from by obtain ⟨n, rfl⟩ := hd2; exact H.out.move (fun _ _ => rfl))
  have HS := Aside0.mk H2.out.acts
  have c1 := (cell_at H2.out.cells 1).1
  simp only [List.getElem?_toArray, List.getElem?_cons_zero, List.getElem?_cons_succ] at c1
  have Hd := Aside0.mk hd2
  clear hd2 hdep
  go_wp2_with (at_builtin; refine wpList_append_own_at _ rfl (.tmp 10) (.tmp 11) 57 rfl 0 3 i0 (.int .i64 0) 1 8 Tryd.underlying57 Hi.out Hz0.out Hz1.out Hz2.out rfl (by decide) _ _ _ rfl (HS.out.alloc _) ⟨w2.heap.size, 0, none⟩ 1 1 [.int .i64 (-1)] rfl rfl (cell_one_new _ _ _) ?c2 (by unfold maxLen; omega) (by omega) (Nat.zero_le _) ?_)
  case c2 => intro u hu; simp at hu; subst hu; rfl
  intro v' w1 hown1 hgrow1 hnil1 hat1
  clear hnil1
  obtain ⟨A', cap', e', _⟩ := row_slice hown1
  subst e'
  have hp1 : w1.heap[p]? = some (.cells #[vs, .slice A R.acts.length cap, vt] 99 (0, 0)) := cells_after H2.out.cells HS.out hgrow1 (by decide)
  have f1 := (cell_at hp1 1).2
  have d1 := (cell_at hp1 1).1
  simp only [List.getElem?_toArray, List.getElem?_cons_zero, List.getElem?_cons_succ] at d1
  have X := Aside0.mk (show RSteps w2 (w1.setCell ⟨p, 1, none⟩ (.slice A' (R.acts.length + 1) cap')) p (g + 1) { R with acts := R.acts ++ [-1] } ⟨vs, .slice A R.acts.length cap, vt⟩ from push_acts H2.out (by simpa [actCells] using hown1) hgrow1 (by simpa using hat1))
  clear hown1 hgrow1 hat1 hp1 c1
  go_wp2_with fail
  go_ret
  exact ⟨rfl, X.out.before Hd.out⟩
set_option maxHeartbeats 1000000 in
set_option maxRecDepth 100000 in
theorem rclose_none {w : World} {p g : Nat} {R : Ref} {q : RParts} (h : RHolds w p g R q) (hg : g + 2 < 17592186044416) (d : Nat) (hd : depthL R.acts = (d : Int)) (hsc : d = 0) :
    Calls Tryd.prog 64 #[.pointer (some ⟨p, 0, none⟩)] w fun e w' => e = .returned (.int .i64 23) ∧ RSteps w w' p (g + 1) R q := by
  have hdep := rdepth_calls (fp := fun _ => True) ⟨q, h, fun _ _ => trivial⟩ (by unfold maxLen; omega)
  rw [hd] at hdep
  have H := Aside0.mk h
  clear h
  have d3 : ((d : Int) == 0) = true := by rw [hsc]; rfl
  go_enter Tryd.func64, Tryd.ntmps64
  go_wp2_with fail
  refine hdep.mono ?_
  rintro e w2 ⟨rfl, hd2⟩
  have Hd := Aside0.mk hd2
  clear hd2
  go_wp2_with fail
  go_ret
  exact ⟨rfl, rsteps_drawn H.out (by omega) Hd.out⟩
set_option maxHeartbeats 1000000 in
set_option maxRecDepth 100000 in
theorem rclose_new {w : World} {p g : Nat} {R : Ref} {q : RParts} (h : RHolds w p g R q) (hg : g + 2 < 17592186044416) (d : Nat) (hd : depthL R.acts = (d : Int)) (hsc : d ≠ 0) :
    Calls Tryd.prog 64 #[.pointer (some ⟨p, 0, none⟩)] w fun e w' => e = .returned (.int .i64 0) ∧ RSteps w w' p (g + 1) { R with acts := R.acts ++ [-2] } q := by
  have hdep := rdepth_calls (fp := fun _ => True) ⟨q, h, fun _ _ => trivial⟩ (by unfold maxLen; omega)
  rw [hd] at hdep
  obtain ⟨vs, va, vt⟩ := q
  have H := Aside0.mk h
  obtain ⟨A, cap, e, _⟩ := row_slice h.acts
  simp only at e
  subst e
  have hlen := h.few
  have d3 : ((d : Int) == 0) = false := by rw [beq_eq_false_iff_ne]; omega
  obtain ⟨i0, hi, hz0, hz1, hz2⟩ := info_parts info3
  have Hi := Aside0.mk hi
  have Hz0 := Aside0.mk hz0
  have Hz1 := Aside0.mk hz1
  have Hz2 := Aside0.mk hz2
  clear h hi hz0 hz1 hz2
  go_enter Tryd.func64, Tryd.ntmps64
  go_wp2_with fail
  refine hdep.mono ?_
  rintro e w2 ⟨rfl, hd2⟩
  have H2 := Aside0.mk (show RHolds w2 p g R ⟨vs, .slice A R.acts.length cap, vt⟩ from by obtain ⟨n, rfl⟩ := hd2; exact H.out.move (fun _ _ => rfl))
  have HS := Aside0.mk H2.out.acts
  have c1 := (cell_at H2.out.cells 1).1
  simp only [List.getElem?_toArray, List.getElem?_cons_zero, List.getElem?_cons_succ] at c1
  have Hd := Aside0.mk hd2
  clear hd2 hdep
  go_wp2_with (at_builtin; refine wpList_append_own_at _ rfl (.tmp 10) (.tmp 11) 57 rfl 0 3 i0 (.int .i64 0) 1 8 Tryd.underlying57 Hi.out Hz0.out Hz1.out Hz2.out rfl (by decide) _ _ _ rfl (HS.out.alloc _) ⟨w2.heap.size, 0, none⟩ 1 1 [.int .i64 (-2)] rfl rfl (cell_one_new _ _ _) ?c2 (by unfold maxLen; omega) (by omega) (Nat.zero_le _) ?_)
  case c2 => intro u hu; simp at hu; subst hu; rfl
  intro v' w1 hown1 hgrow1 hnil1 hat1
  clear hnil1
  obtain ⟨A', cap', e', _⟩ := row_slice hown1
  subst e'
  have hp1 : w1.heap[p]? = some (.cells #[vs, .slice A R.acts.length cap, vt] 99 (0, 0)) := cells_after H2.out.cells HS.out hgrow1 (by decide)
  have f1 := (cell_at hp1 1).2
  have d1 := (cell_at hp1 1).1
  simp only [List.getElem?_toArray, List.getElem?_cons_zero, List.getElem?_cons_succ] at d1
  have X := Aside0.mk (show RSteps w2 (w1.setCell ⟨p, 1, none⟩ (.slice A' (R.acts.length + 1) cap')) p (g + 1) { R with acts := R.acts ++ [-2] } ⟨vs, .slice A R.acts.length cap, vt⟩ from push_acts H2.out (by simpa [actCells] using hown1) hgrow1 (by simpa using hat1))
  clear hown1 hgrow1 hat1 hp1 c1
  go_wp2_with fail
  go_ret
  exact ⟨rfl, X.out.before Hd.out⟩
end Go.Proofs.YtpoojimmponklaaDoor.SymRefDoes

namespace Go.Proofs.YtpoojimmponklaaDoor.SymRefNames
open Go.RowKit Go.Proofs.YtpoojimmponklaaDoor.SymTab Go.Proofs.YtpoojimmponklaaDoor.SymScan Go.Proofs.YtpoojimmponklaaDoor.SymName Go.Proofs.YtpoojimmponklaaDoor.PSymPlays Go.Proofs.YtpoojimmponklaaDoorW.PrintWords
set_option linter.unusedVariables false

theorem lab_round (k : Nat) (s : ByteArray) (i : Nat) (hi : i < s.size) :
    lemmaref02_LabelName.l0 (k + 1) s (i : Int) = if labN (bt s i) = true then lemmaref02_LabelName.l0 k s (wrap64 ((i : Int) + 1)) else some false := by
  simp only [lemmaref02_LabelName.l0]
  rw [if_pos (by omega), if_pos (by omega)]
  generalize lemmaref02_LabelName.l0 k s (wrap64 ((i : Int) + 1)) = R
  generalize bt s i = b
  unfold labN
  by_cases h : ((decide (97 ≤ b) && decide (b ≤ 122)) || (decide (65 ≤ b) && decide (b ≤ 90)) || (decide (48 ≤ b) && decide (b ≤ 57)) || decide (b = 46) || decide (b = 45) || decide (b = 95)) = true
  · rw [if_pos h]
    simp only [Bool.or_eq_true, Bool.and_eq_true, decide_eq_true_eq] at h
    repeat' split
    all_goals first | rfl | omega
  · rw [if_neg h]
    simp only [Bool.or_eq_true, Bool.and_eq_true, decide_eq_true_eq] at h
    repeat' split
    all_goals first | rfl | omega
theorem lab_l0 (s : ByteArray) (h1 : 1 ≤ s.size) (hs : s.size ≤ 32) (d : Nat) : ∀ (k i : Nat), i ≤ s.size → s.size - i = d → d < k → (s.data.toList.take i).all labByte = true →
    lemmaref02_LabelName.l0 k s (i : Int) = some (nameOk s) := by
  induction d with
  | zero =>
    intro k i hi hd hk ha
    obtain ⟨k, rfl⟩ : ∃ m, k = m + 1 := ⟨k - 1, by omega⟩
    rw [List.take_of_length_le (by simp; omega)] at ha
    simp only [lemmaref02_LabelName.l0]
    rw [if_neg (by omega)]
    unfold nameOk
    rw [ha]
    simp [h1, hs]
  | succ d ih =>
    intro k i hi hd hk ha
    obtain ⟨k, rfl⟩ : ∃ m, k = m + 1 := ⟨k - 1, by omega⟩
    have hlt : i < s.size := by omega
    rw [lab_round k s i hlt, bt_lab hlt]
    have ht := take_all hlt labByte
    rw [ha, Bool.true_and] at ht
    cases hb : labByte s[i] with
    | false =>
      rw [if_neg (by simp)]
      unfold nameOk
      rw [all_false hlt labByte hb]
      rfl
    | true =>
      rw [if_pos rfl, show wrap64 ((i : Int) + 1) = ((i + 1 : Nat) : Int) from by unfold wrap64; omega]
      exact ih k (i + 1) (by omega) (by omega) (by omega) (by rw [ht, hb])
theorem labName_calls {w : World} (s : ByteArray) : Calls Tryd.prog 79 #[.string s] w fun e w' => e = .returned (.bool (nameOk s)) ∧ Drawn0 w w' := by
  refine lemmaref02_LabelName.calls (s.size + 2) s (nameOk s) w ?_
  unfold lemmaref02_LabelName.f
  by_cases h1 : 1 ≤ s.size
  · rw [if_neg (by omega)]
    simp only [lemmaref02_LabelName.j0]
    by_cases h2 : s.size ≤ 32
    · rw [if_neg (by simp; omega)]
      exact lab_l0 s h1 h2 s.size (s.size + 1) 0 (by omega) (by omega) (by omega) (by simp)
    · rw [if_pos (by simp; omega)]
      unfold nameOk
      rw [decide_eq_false h2, Bool.and_false]
  · rw [if_pos (by omega)]
    simp only [lemmaref02_LabelName.j0]
    rw [if_pos trivial]
    unfold nameOk
    rw [decide_eq_false h1, Bool.and_false, Bool.false_and]

theorem bt_nat {s : ByteArray} {i : Nat} (hi : i < s.size) : bt s (i : Int) = (s[i].toNat : Int) := by
  have := bt_at s (i : Int) (by simpa using hi)
  simpa using this.symm
theorem sym_round (k : Nat) (s : ByteArray) (i : Nat) (hi : i < s.size) :
    lemmaref02_SymbolName.l0 (k + 1) s (i : Int) = if byteOk s[i] = true then lemmaref02_SymbolName.l0 k s (wrap64 ((i : Int) + 1)) else some false := by
  simp only [lemmaref02_SymbolName.l0]
  rw [if_pos (by omega), if_pos (by omega), bt_nat hi]
  generalize lemmaref02_SymbolName.l0 k s (wrap64 ((i : Int) + 1)) = R
  generalize s[i] = b
  by_cases h : byteOk b = true
  · rw [if_pos h]
    unfold byteOk at h
    simp only [Bool.and_eq_true, decide_eq_true_eq, UInt8.le_iff_toNat_le, bne_iff_ne, ne_eq, ← UInt8.toNat_inj] at h
    obtain ⟨⟨h1, h2⟩, h3⟩ := h
    have h1' : 33 ≤ b.toNat := h1
    have h2' : b.toNat ≤ 126 := h2
    have h3' : b.toNat ≠ 36 := h3
    rw [if_neg (by omega), if_neg (by omega), if_neg (by omega)]
  · rw [if_neg h]
    unfold byteOk at h
    simp only [Bool.and_eq_true, decide_eq_true_eq, UInt8.le_iff_toNat_le, bne_iff_ne, ne_eq, ← UInt8.toNat_inj] at h
    by_cases h1 : b.toNat < 33
    · rw [if_pos (by omega)]
    · rw [if_neg (by omega)]
      by_cases h2 : b.toNat > 126
      · rw [if_pos (by omega)]
      · rw [if_neg (by omega)]
        by_cases h3 : b.toNat = 36
        · rw [if_pos (by omega)]
        · exact absurd ⟨⟨(by show 33 ≤ b.toNat; omega), (by show b.toNat ≤ 126; omega)⟩, h3⟩ h
theorem sym_l0 (s : ByteArray) (h1 : 1 ≤ s.size) (hs : s.size ≤ 32) (d : Nat) : ∀ (k i : Nat), i ≤ s.size → s.size - i = d → d < k → (s.data.toList.take i).all byteOk = true →
    lemmaref02_SymbolName.l0 k s (i : Int) = some (symOk s) := by
  induction d with
  | zero =>
    intro k i hi hd hk ha
    obtain ⟨k, rfl⟩ : ∃ m, k = m + 1 := ⟨k - 1, by omega⟩
    rw [List.take_of_length_le (by simp; omega)] at ha
    simp only [lemmaref02_SymbolName.l0]
    rw [if_neg (by omega)]
    unfold symOk
    rw [ha]
    simp [h1, hs]
  | succ d ih =>
    intro k i hi hd hk ha
    obtain ⟨k, rfl⟩ : ∃ m, k = m + 1 := ⟨k - 1, by omega⟩
    have hlt : i < s.size := by omega
    rw [sym_round k s i hlt]
    have ht := take_all hlt byteOk
    rw [ha, Bool.true_and] at ht
    cases hb : byteOk s[i] with
    | false =>
      rw [if_neg (by simp)]
      unfold symOk
      rw [all_false hlt byteOk hb]
      rfl
    | true =>
      rw [if_pos rfl, show wrap64 ((i : Int) + 1) = ((i + 1 : Nat) : Int) from by unfold wrap64; omega]
      exact ih k (i + 1) (by omega) (by omega) (by omega) (by rw [ht, hb])
theorem symName_calls {w : World} (s : ByteArray) : Calls Tryd.prog 77 #[.string s] w fun e w' => e = .returned (.bool (symOk s)) ∧ Drawn0 w w' := by
  refine lemmaref02_SymbolName.calls (s.size + 2) s (symOk s) w ?_
  unfold lemmaref02_SymbolName.f
  by_cases h1 : 1 ≤ s.size
  · rw [if_neg (by omega)]
    simp only [lemmaref02_SymbolName.j0]
    by_cases h2 : s.size ≤ 32
    · rw [if_neg (by simp; omega)]
      exact sym_l0 s h1 h2 s.size (s.size + 1) 0 (by omega) (by omega) (by omega) (by simp)
    · rw [if_pos (by simp; omega)]
      unfold symOk
      rw [decide_eq_false h2, Bool.and_false]
  · rw [if_pos (by omega)]
    simp only [lemmaref02_SymbolName.j0]
    rw [if_pos trivial]
    unfold symOk
    rw [decide_eq_false h1, Bool.and_false, Bool.false_and]
end Go.Proofs.YtpoojimmponklaaDoor.SymRefNames
