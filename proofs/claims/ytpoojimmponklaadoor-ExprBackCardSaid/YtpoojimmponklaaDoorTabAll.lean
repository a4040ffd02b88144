/- Tab, Keep, Heap, Reads, Add, Scan, Const, Put, Var, Close, New, Open, Name, Label, Api, Begun, Script, Beside, Lists, LabelsPure, Sep: in one text. -/
import Derived.Test.YtpoojimmponklaaDoorWN
import Derived.Test.YtpoojimmponklaaDoorProg
import Derived.WalkKit
import Derived.Maps.Own
import Derived.Maps.OwnSet
import Derived.Maps.OwnOps
import Derived.Maps.AppendAt
import Derived.Maps.Views
import Derived.Deep.QuietTactic
import Derived.BigQuiet
import Derived.WalkLawsBesides
import Derived.WalkSpells
import Derived.Lib.Hide
import Derived.OwnWalk
import Derived.Deep.AppendLies
import Derived.IntWalk
import Derived.Test.YtpoojimmponklaaDoorWTab
import Derived.StillTailTactics
import Derived.Test.YtpoojimmponklaaDoorPSymLabelsx1
import Derived.Lib.OwnKind
import Derived.Test.YtpoojimmponklaaDoorPSymLabelsx2
import Derived.Test.YtpoojimmponklaaDoorPSymLabelsx3
namespace Go.Proofs.YtpoojimmponklaaDoor.SymTab

structure Tab where
  syms : List (ByteArray × Bool)
  act : ByteArray → Option Nat
  scopes : List (List Nat)
  labels : List ByteArray

def idx : List (ByteArray × Bool) → ByteArray → Option Nat
  | [], _ => none
  | x :: l, s => if x.1 = s then some 0 else (idx l s).map (· + 1)
def labIdx : List ByteArray → ByteArray → Option Nat
  | [], _ => none
  | x :: l, s => if x = s then some 0 else (labIdx l s).map (· + 1)
def upd (f : ByteArray → Option Nat) (s : ByteArray) (n : Nat) : ByteArray → Option Nat := fun t => if t = s then some n else f t
def del (f : ByteArray → Option Nat) (s : ByteArray) : ByteArray → Option Nat := fun t => if t = s then none else f t

def byteOk (c : UInt8) : Bool := 33 ≤ c && c ≤ 126 && c != 36
def symOk (s : ByteArray) : Bool := s.data.toList.all byteOk && decide (1 ≤ s.size) && decide (s.size ≤ 32)
def labByte (c : UInt8) : Bool := (97 ≤ c && c ≤ 122) || (65 ≤ c && c ≤ 90) || (48 ≤ c && c ≤ 57) || c == 46 || c == 45 || c == 95
def nameOk (s : ByteArray) : Bool := s.data.toList.all labByte && decide (1 ≤ s.size) && decide (s.size ≤ 32)

def empty : Tab := ⟨[], fun _ => none, [], []⟩
def addLast (l : List (List Nat)) (n : Nat) : List (List Nat) :=
  match l with
  | [] => []
  | [x] => [x ++ [n]]
  | x :: y :: r => x :: addLast (y :: r) n
def added (T : Tab) (s : ByteArray) (b : Bool) : Tab := { T with syms := T.syms ++ [(s, b)] }
def activate (T : Tab) (s : ByteArray) (n : Nat) : Tab := { T with act := upd T.act s n, scopes := addLast T.scopes n }

def openS (T : Tab) : Tab × Nat := if 16 ≤ T.scopes.length then (T, 23) else ({ T with scopes := T.scopes ++ [[]] }, 0)
def nameOf (T : Tab) (v : Nat) : ByteArray := (T.syms.getD v (ByteArray.empty, false)).1
def dels (T : Tab) (f : ByteArray → Option Nat) (l : List Nat) : ByteArray → Option Nat := l.foldl (fun f v => del f (nameOf T v)) f
def closeS (T : Tab) : Tab × Nat :=
  if T.scopes = [] then (T, 23) else ({ T with act := dels T T.act (T.scopes.getLastD []), scopes := T.scopes.dropLast }, 0)
def constT (T : Tab) (s : ByteArray) : Tab × Nat × Nat :=
  if 0 < T.scopes.length then (T, 0, 23) else
  if symOk s = false then (T, 0, 21) else
  if (idx T.syms s).isSome then (T, 0, 20) else
  if 512 ≤ T.syms.length then (T, 0, 22) else
  ({ added T s false with act := upd T.act s T.syms.length }, T.syms.length, 0)
def varT (T : Tab) (s : ByteArray) : Tab × Nat × Nat :=
  if symOk s = false then (T, 0, 21) else
  if (T.act s).isSome then (T, 0, 20) else
  match idx T.syms s with
  | some n => (activate T s n, n, 0)
  | none => if 512 ≤ T.syms.length then (T, 0, 22) else (activate (added T s true) s T.syms.length, T.syms.length, 0)
def labelT (T : Tab) (s : ByteArray) : Tab × Nat :=
  if nameOk s = false then (T, 21) else
  if (labIdx T.labels s).isSome then (T, 20) else
  if 1024 ≤ T.labels.length then (T, 22) else
  ({ T with labels := T.labels ++ [s] }, 0)
def there (T : Tab) (n : Int) : Bool := decide (0 ≤ n) && decide (n < T.syms.length)
def isVarT (T : Tab) (n : Int) : Bool := there T n && (T.syms.getD n.toNat (ByteArray.empty, false)).2
def nameT (T : Tab) (n : Int) : ByteArray := if there T n then nameOf T n.toNat else ByteArray.empty
def activeT (T : Tab) (n : Int) : Bool := there T n && (T.act (nameOf T n.toNat)).isSome
def findT (T : Tab) (s : ByteArray) : Nat × Bool := match T.act s with | some n => (n, true) | none => (0, false)

/-! ### idx -/
theorem idx_lt {l : List (ByteArray × Bool)} {s : ByteArray} {n : Nat} (h : idx l s = some n) : n < l.length ∧ (l.getD n (ByteArray.empty, false)).1 = s := by
  induction l generalizing n with
  | nil => simp [idx] at h
  | cons x l ih =>
    unfold idx at h
    split at h
    · rename_i he
      cases h
      exact ⟨by simp, by simpa using he⟩
    · obtain ⟨m, hm, rfl⟩ := Option.map_eq_some_iff.1 h
      obtain ⟨h1, h2⟩ := ih hm
      exact ⟨by simp only [List.length_cons]; omega, by simpa using h2⟩
theorem idx_snoc {l : List (ByteArray × Bool)} {s : ByteArray} {b : Bool} (h : idx l s = none) : idx (l ++ [(s, b)]) = upd (idx l) s l.length := by
  funext t
  unfold upd
  induction l with
  | nil =>
    simp only [List.nil_append, idx, List.length_nil, Option.map_none]
    by_cases e : s = t
    · simp [e]
    · have e' : ¬ t = s := fun h => e h.symm
      simp [e, e']
  | cons x l ih =>
    unfold idx at h
    split at h
    · cases h
    · rename_i hx
      have h' := Option.map_eq_none_iff.1 h
      have := ih h'
      simp only [List.cons_append, idx, this, List.length_cons]
      by_cases e : t = s
      · subst e
        simp [hx]
      · simp [e]
theorem idx_some_iff {l : List (ByteArray × Bool)} {s : ByteArray} : (idx l s).isSome = true ↔ s ∈ l.map (·.1) := by
  induction l with
  | nil => simp [idx]
  | cons x l ih =>
    unfold idx
    split
    · rename_i he
      simp [he]
    · rename_i he
      have he' : ¬ s = x.1 := fun h => he h.symm
      simp only [Option.isSome_map, ih, List.map_cons, List.mem_cons, he', false_or]
theorem addLast_length (l : List (List Nat)) (n : Nat) : (addLast l n).length = l.length := by
  induction l with
  | nil => rfl
  | cons x l ih =>
    cases l with
    | nil => rfl
    | cons y r => simp only [addLast, List.length_cons] at ih ⊢; omega
theorem addLast_snoc (l : List (List Nat)) (x : List Nat) (n : Nat) : addLast (l ++ [x]) n = l ++ [x ++ [n]] := by
  induction l with
  | nil => rfl
  | cons y l ih =>
    cases l with
    | nil => rfl
    | cons z r => simp only [List.cons_append, addLast] at ih ⊢; rw [ih]

/-! ### what holds of every table -/
structure WF (T : Tab) : Prop where
  few : T.syms.length ≤ 512
  ok : ∀ x ∈ T.syms, symOk x.1 = true
  apart : (T.syms.map (·.1)).Nodup
  act : ∀ s n, T.act s = some n → idx T.syms s = some n
  consts : ∀ n, n < T.syms.length → (T.syms.getD n (ByteArray.empty, false)).2 = false → T.act (nameOf T n) = some n
  deep : T.scopes.length ≤ 16
  vars : ∀ l ∈ T.scopes, ∀ v ∈ l, v < T.syms.length ∧ (T.syms.getD v (ByteArray.empty, false)).2 = true ∧ T.act (nameOf T v) = some v
  once : T.scopes.flatten.Nodup
  labels : T.labels.length ≤ 1024
  labOk : ∀ s ∈ T.labels, nameOk s = true
  labApart : T.labels.Nodup

theorem WF.empty : WF empty := by
  refine ⟨by simp [SymTab.empty], by simp [SymTab.empty], by simp [SymTab.empty], ?_, ?_, by simp [SymTab.empty], ?_, by simp [SymTab.empty], by simp [SymTab.empty], by simp [SymTab.empty], by simp [SymTab.empty]⟩
  · intro s n h; simp [SymTab.empty] at h
  · intro n h; simp [SymTab.empty] at h
  · intro l h; simp [SymTab.empty] at h

theorem nameOf_inj {T : Tab} (h : WF T) {a b : Nat} (ha : a < T.syms.length) (hb : b < T.syms.length) (e : nameOf T a = nameOf T b) : a = b := by
  have hn := h.apart
  unfold nameOf at e
  have h1 : (T.syms.map (·.1))[a]'(by simpa using ha) = (T.syms.map (·.1))[b]'(by simpa using hb) := by
    simpa [ha, hb] using e
  exact (List.getElem_inj hn).1 h1
theorem idx_nameOf {T : Tab} (h : WF T) {n : Nat} (hn : n < T.syms.length) : idx T.syms (nameOf T n) = some n := by
  have hm : nameOf T n ∈ T.syms.map (·.1) := by
    unfold nameOf
    rw [List.getD_eq_getElem?_getD, List.getElem?_eq_getElem hn]
    exact List.mem_map.2 ⟨_, List.getElem_mem hn, rfl⟩
  obtain ⟨m, hm⟩ := Option.isSome_iff_exists.1 (idx_some_iff.2 hm)
  obtain ⟨h1, h2⟩ := idx_lt hm
  have : m = n := nameOf_inj h h1 hn h2
  rw [hm, this]

theorem nameOf_added {T : Tab} {s : ByteArray} {b : Bool} {n : Nat} (hn : n < T.syms.length) : nameOf (added T s b) n = nameOf T n := by
  unfold nameOf added
  simp only [List.getD_eq_getElem?_getD, List.getElem?_append_left hn]
theorem nameOf_new {T : Tab} {s : ByteArray} {b : Bool} : nameOf (added T s b) T.syms.length = s := by
  unfold nameOf added
  simp
end Go.Proofs.YtpoojimmponklaaDoor.SymTab

namespace Go.Proofs.YtpoojimmponklaaDoor.SymTab

theorem getD_snoc_lt {α : Type} {l : List α} {x d : α} {n : Nat} (h : n < l.length) : (l ++ [x]).getD n d = l.getD n d := by
  simp [List.getD_eq_getElem?_getD, List.getElem?_append_left h]
theorem getD_snoc_eq {α : Type} {l : List α} {x d : α} : (l ++ [x]).getD l.length d = x := by
  simp [List.getD_eq_getElem?_getD]
theorem wf_open {T : Tab} (h : WF T) : WF (openS T).1 := by
  unfold openS
  split
  · exact h
  · rename_i hd
    refine ⟨h.few, h.ok, h.apart, h.act, h.consts, ?_, ?_, ?_, h.labels, h.labOk, h.labApart⟩
    · simp; omega
    · intro l hl v hv
      rcases List.mem_append.1 hl with hl | hl
      · exact h.vars l hl v hv
      · simp only [List.mem_singleton] at hl
        subst hl
        simp at hv
    · simpa using h.once

theorem wf_const {T : Tab} (h : WF T) (s : ByteArray) : WF (constT T s).1 := by
  unfold constT
  split
  · exact h
  · rename_i hsc
    split
    · exact h
    · rename_i hok
      have hok' : symOk s = true := by simpa using hok
      split
      · exact h
      · rename_i hi
        have hi' : idx T.syms s = none := by simpa using hi
        split
        · exact h
        · rename_i hf
          have hsc0 : T.scopes = [] := by cases hs : T.scopes with | nil => rfl | cons x l => rw [hs] at hsc; simp at hsc
          have hni : s ∉ T.syms.map (·.1) := fun hm => hi (idx_some_iff.2 hm)
          refine ⟨by simp [added]; omega, ?_, ?_, ?_, ?_, h.deep, ?_, h.once, h.labels, h.labOk, h.labApart⟩
          · intro x hx
            rcases List.mem_append.1 hx with hx | hx
            · exact h.ok x hx
            · simp only [List.mem_singleton] at hx
              subst hx
              exact hok'
          · show ((T.syms ++ [(s, false)]).map (·.1)).Nodup
            rw [List.map_append, List.nodup_append]
            exact ⟨h.apart, by simp, fun a ha b hb => by simp only [List.map_cons, List.map_nil, List.mem_singleton] at hb; subst hb; intro e; subst e; exact hni ha⟩
          · intro t n ht
            show idx (T.syms ++ [(s, false)]) t = some n
            rw [idx_snoc hi']
            have ht' : upd T.act s T.syms.length t = some n := ht
            unfold upd at ht' ⊢
            split at ht'
            · rename_i e
              rw [if_pos e]
              exact ht'
            · rename_i e
              rw [if_neg e]
              exact h.act t n ht'
          · intro n hn hv
            show upd T.act s T.syms.length (nameOf (added T s false) n) = some n
            have hn' : n < (T.syms ++ [(s, false)]).length := hn
            rw [List.length_append, List.length_singleton] at hn'
            by_cases e : n = T.syms.length
            · subst e
              rw [nameOf_new]
              simp [upd]
            · have hlt : n < T.syms.length := by omega
              rw [nameOf_added hlt]
              have hne : nameOf T n ≠ s := fun e2 => by
                apply hni
                rw [← e2]
                unfold nameOf
                rw [List.getD_eq_getElem?_getD, List.getElem?_eq_getElem hlt]
                exact List.mem_map.2 ⟨_, List.getElem_mem hlt, rfl⟩
              unfold upd
              rw [if_neg hne]
              refine h.consts n hlt ?_
              have hv' : ((T.syms ++ [(s, false)]).getD n (ByteArray.empty, false)).2 = false := hv
              rwa [getD_snoc_lt hlt] at hv'
          · intro l hl
            have : l ∈ T.scopes := hl
            rw [hsc0] at this
            simp at this

theorem idx_var {T : Tab} (h : WF T) {s : ByteArray} {n : Nat} (hn : idx T.syms s = some n) (hact : T.act s = none) : (T.syms.getD n (ByteArray.empty, false)).2 = true := by
  obtain ⟨h1, h2⟩ := idx_lt hn
  cases hb : (T.syms.getD n (ByteArray.empty, false)).2 with
  | true => rfl
  | false =>
    have := h.consts n h1 hb
    unfold nameOf at this
    rw [h2, hact] at this
    cases this

theorem mem_addLast {l : List (List Nat)} {n : Nat} {x : List Nat} (h : x ∈ addLast l n) : ∀ v ∈ x, v = n ∨ ∃ y ∈ l, v ∈ y := by
  rcases List.eq_nil_or_concat l with e | ⟨a, b, e⟩
  · subst e
    simp [addLast] at h
  · subst e
    rw [List.concat_eq_append] at h ⊢
    rw [addLast_snoc] at h
    intro v hv
    rcases List.mem_append.1 h with h | h
    · exact .inr ⟨x, by simp [h], hv⟩
    · simp only [List.mem_singleton] at h
      subst h
      rcases List.mem_append.1 hv with hv | hv
      · exact .inr ⟨b, by simp, hv⟩
      · simp only [List.mem_singleton] at hv
        exact .inl hv
theorem flatten_addLast {l : List (List Nat)} {n : Nat} (h : l ≠ []) : (addLast l n).flatten = l.flatten ++ [n] := by
  rcases List.eq_nil_or_concat l with e | ⟨a, b, e⟩
  · exact absurd e h
  · subst e
    rw [List.concat_eq_append, addLast_snoc]
    simp

theorem wf_activate {T : Tab} (h : WF T) {s : ByteArray} {n : Nat} (hn : idx T.syms s = some n) (hact : T.act s = none) (hv : (T.syms.getD n (ByteArray.empty, false)).2 = true) : WF (activate T s n) := by
  obtain ⟨hlt, hnm⟩ := idx_lt hn
  have hnm' : nameOf T n = s := hnm
  refine ⟨h.few, h.ok, h.apart, ?_, ?_, ?_, ?_, ?_, h.labels, h.labOk, h.labApart⟩
  · intro t m ht
    have ht' : upd T.act s n t = some m := ht
    unfold upd at ht'
    split at ht'
    · rename_i e
      subst e
      rw [← ht']
      exact hn
    · exact h.act t m ht'
  · intro m hm hb
    show upd T.act s n (nameOf T m) = some m
    unfold upd
    split
    · rename_i e
      rw [← hnm'] at e
      rw [nameOf_inj h hm hlt e]
    · exact h.consts m hm hb
  · show (addLast T.scopes n).length ≤ 16
    rw [addLast_length]
    exact h.deep
  · intro l hl v hv2
    rcases mem_addLast hl v hv2 with e | ⟨y, hy, hvy⟩
    · subst e
      refine ⟨hlt, hv, ?_⟩
      show upd T.act s v (nameOf T v) = some v
      rw [hnm']
      simp [upd]
    · obtain ⟨a, b, c⟩ := h.vars y hy v hvy
      refine ⟨a, b, ?_⟩
      show upd T.act s n (nameOf T v) = some v
      unfold upd
      split
      · rename_i e
        rw [← hnm'] at e
        rw [nameOf_inj h a hlt e]
      · exact c
  · show (addLast T.scopes n).flatten.Nodup
    by_cases hs : T.scopes = []
    · rw [hs]
      simp [addLast]
    · rw [flatten_addLast hs, List.nodup_append]
      refine ⟨h.once, by simp, fun a ha b hb => ?_⟩
      simp only [List.mem_singleton] at hb
      subst hb
      intro e
      subst e
      obtain ⟨l, hl, hal⟩ := List.mem_flatten.1 ha
      have := (h.vars l hl a hal).2.2
      rw [hnm', hact] at this
      cases this

theorem wf_added {T : Tab} (h : WF T) {s : ByteArray} (hok : symOk s = true) (hi : idx T.syms s = none) (hf : T.syms.length < 512) : WF (added T s true) := by
  have hni : s ∉ T.syms.map (·.1) := fun hm => by have := idx_some_iff.2 hm; rw [hi] at this; cases this
  refine ⟨by simp [added]; omega, ?_, ?_, ?_, ?_, h.deep, ?_, h.once, h.labels, h.labOk, h.labApart⟩
  · intro x hx
    rcases List.mem_append.1 hx with hx | hx
    · exact h.ok x hx
    · simp only [List.mem_singleton] at hx
      subst hx
      exact hok
  · show ((T.syms ++ [(s, true)]).map (·.1)).Nodup
    rw [List.map_append, List.nodup_append]
    exact ⟨h.apart, by simp, fun a ha b hb => by simp only [List.map_cons, List.map_nil, List.mem_singleton] at hb; subst hb; intro e; subst e; exact hni ha⟩
  · intro t n ht
    show idx (T.syms ++ [(s, true)]) t = some n
    have h1 := h.act t n ht
    rw [idx_snoc hi]
    unfold upd
    split
    · rename_i e
      subst e
      rw [hi] at h1
      cases h1
    · exact h1
  · intro n hn hv
    have hn' : n < (T.syms ++ [(s, true)]).length := hn
    rw [List.length_append, List.length_singleton] at hn'
    have hv' : ((T.syms ++ [(s, true)]).getD n (ByteArray.empty, false)).2 = false := hv
    by_cases e : n = T.syms.length
    · subst e
      rw [getD_snoc_eq] at hv'
      cases hv'
    · have hlt : n < T.syms.length := by omega
      rw [getD_snoc_lt hlt] at hv'
      rw [nameOf_added hlt]
      exact h.consts n hlt hv'
  · intro l hl v hv
    obtain ⟨a, b, c⟩ := h.vars l hl v hv
    refine ⟨by simp [added]; omega, ?_, ?_⟩
    · show ((T.syms ++ [(s, true)]).getD v (ByteArray.empty, false)).2 = true
      rw [getD_snoc_lt a]
      exact b
    · rw [nameOf_added a]
      exact c

theorem wf_var {T : Tab} (h : WF T) (s : ByteArray) : WF (varT T s).1 := by
  unfold varT
  split
  · exact h
  · rename_i hok
    have hok' : symOk s = true := by simpa using hok
    split
    · exact h
    · rename_i ha
      have ha' : T.act s = none := by simpa using ha
      cases hi : idx T.syms s with
      | some n => exact wf_activate h hi ha' (idx_var h hi ha')
      | none =>
        simp only
        split
        · exact h
        · rename_i hf
          refine wf_activate (wf_added h hok' hi (by omega)) ?_ ha' ?_
          · show idx (T.syms ++ [(s, true)]) s = some T.syms.length
            rw [idx_snoc hi]
            simp [upd]
          · show ((T.syms ++ [(s, true)]).getD T.syms.length (ByteArray.empty, false)).2 = true
            rw [getD_snoc_eq]

theorem dels_out (T : Tab) (f : ByteArray → Option Nat) (l : List Nat) (t : ByteArray) (h : t ∉ l.map (nameOf T)) : dels T f l t = f t := by
  unfold dels
  induction l generalizing f with
  | nil => rfl
  | cons v l ih =>
    simp only [List.map_cons, List.mem_cons, not_or] at h
    simp only [List.foldl_cons]
    rw [ih _ h.2]
    unfold del
    rw [if_neg h.1]
theorem dels_in (T : Tab) (f : ByteArray → Option Nat) (l : List Nat) (t : ByteArray) (h : t ∈ l.map (nameOf T)) : dels T f l t = none := by
  induction l generalizing f with
  | nil => simp at h
  | cons v l ih =>
    show dels T (del f (nameOf T v)) l t = none
    by_cases h1 : t ∈ l.map (nameOf T)
    · exact ih _ h1
    · rw [dels_out _ _ _ _ h1]
      simp only [List.map_cons, List.mem_cons, h1, or_false] at h
      unfold del
      rw [if_pos h]

theorem wf_close {T : Tab} (h : WF T) : WF (closeS T).1 := by
  unfold closeS
  split
  · exact h
  · rename_i hs
    rcases List.eq_nil_or_concat T.scopes with e | ⟨a, b, e⟩
    · exact absurd e hs
    · have el : T.scopes.getLastD [] = b := by rw [e]; simp
      have ed : T.scopes.dropLast = a := by rw [e]; simp
      rw [el, ed]
      have hb : ∀ v ∈ b, v < T.syms.length ∧ (T.syms.getD v (ByteArray.empty, false)).2 = true ∧ T.act (nameOf T v) = some v := fun v hv => h.vars b (by rw [e]; simp) v hv
      have ho := h.once
      rw [e] at ho
      simp only [List.concat_eq_append, List.flatten_append, List.flatten_cons, List.flatten_nil, List.append_nil] at ho
      rw [List.nodup_append] at ho
      refine ⟨h.few, h.ok, h.apart, ?_, ?_, ?_, ?_, ho.1, h.labels, h.labOk, h.labApart⟩
      · intro t n ht
        have ht' : dels T T.act b t = some n := ht
        by_cases hm : t ∈ b.map (nameOf T)
        · rw [dels_in _ _ _ _ hm] at ht'
          cases ht'
        · rw [dels_out _ _ _ _ hm] at ht'
          exact h.act t n ht'
      · intro n hn hv
        show dels T T.act b (nameOf T n) = some n
        rw [dels_out]
        · exact h.consts n hn hv
        · intro hm
          obtain ⟨v, hvb, hve⟩ := List.mem_map.1 hm
          have := nameOf_inj h (hb v hvb).1 hn hve
          subst this
          have hv' : (T.syms.getD v (ByteArray.empty, false)).2 = false := hv
          rw [(hb v hvb).2.1] at hv'
          cases hv'
      · have := h.deep
        rw [e] at this
        simp at this
        show a.length ≤ 16
        omega
      · intro l hl v hv
        obtain ⟨x, y, z⟩ := h.vars l (by rw [e]; simp only [List.concat_eq_append, List.mem_append]; exact .inl hl) v hv
        refine ⟨x, y, ?_⟩
        show dels T T.act b (nameOf T v) = some v
        rw [dels_out]
        · exact z
        · intro hm
          obtain ⟨u, hub, hue⟩ := List.mem_map.1 hm
          have := nameOf_inj h (hb u hub).1 x hue
          subst this
          exact ho.2.2 u (List.mem_flatten.2 ⟨l, hl, hv⟩) u hub rfl
end Go.Proofs.YtpoojimmponklaaDoor.SymTab

namespace Go.Proofs.YtpoojimmponklaaDoor.SymHeap
open Go.RowKit Go.Maps Go.Proofs.YtpoojimmponklaaDoor.SymTab
open Go.Proofs.YtpoojimmponklaaDoorW.PrintWords (own_move own_typed)

/-! ### maps from names to numbers -/
def keyL (s : ByteArray) : Lit := .string s.data.toList
theorem keyL_key (s : ByteArray) : WideAt.IsKeyLit (keyL s) := trivial
theorem keyL_inj {s t : ByteArray} (h : keyL s = keyL t) : s = t := by
  cases s; cases t
  simp [keyL] at h
  rw [h]
abbrev litI (n : Int) : DataW Unit := .lit (.int .i64 n)
theorem litI_inj {a b : Int} (h : litI a = litI b) : a = b := by
  injection h with h
  injection h
def num (o : Option Nat) : Int := match o with | some n => (n : Int) | none => 0
def MapIs (w : World) (b g : Nat) (f : ByteArray → Option Nat) : Prop :=
  ∃ D : DataW Unit, w.ownsMap Tryd.prog 9 (plainElem Tryd.prog 3) b g D ∧ ∀ s, Maps.has D (keyL s) = (f s).isSome ∧ D.atKey (keyL s) (litI 0) = litI (num (f s))

theorem law9 : Keyed Tryd.prog 9 := string_keyed Tryd.underlying9
theorem zero3 (w : World) : (zeroValue 3).run Tryd.prog w = .ok (.int .i64 0) w := by kernel_rfl
theorem key9 {s : ByteArray} (h : s.size ≤ maxLen) : keyOf Tryd.prog 9 (.string s) = some (keyL s) := Go.WideMaps.keyOf_string_mk Tryd.underlying9 h

theorem MapIs.lt {w : World} {b g : Nat} {f : ByteArray → Option Nat} (h : MapIs w b g f) : b < w.heap.size := by
  obtain ⟨D, h, _⟩ := h
  exact h.lt
theorem MapIs.block {w : World} {b g : Nat} {f : ByteArray → Option Nat} (h : MapIs w b g f) : ∃ es clock, w.heap[b]? = some (.map es clock) := by
  obtain ⟨D, ⟨es, clock, hb, _⟩, _⟩ := h
  exact ⟨es, clock, hb⟩
theorem MapIs.move {w w' : World} {b g : Nat} {f : ByteArray → Option Nat} (h : MapIs w b g f) (hm : w'.heap[b]? = w.heap[b]?) : MapIs w' b g f := by
  obtain ⟨D, ⟨es, clock, hb, r⟩, hf⟩ := h
  exact ⟨D, ⟨es, clock, hm.trans hb, r⟩, hf⟩
theorem MapIs.more {w : World} {b g g' : Nat} {f : ByteArray → Option Nat} (h : MapIs w b g f) (hg : g ≤ g') : MapIs w b g' f := by
  obtain ⟨D, h, hf⟩ := h
  exact ⟨D, h.mono hg, hf⟩
theorem MapIs.made (w : World) : MapIs (w.alloc (.map #[] 0)) w.heap.size 0 (fun _ => none) :=
  ⟨.map [], World.ownsMap_made _ _ _ _, fun _ => ⟨rfl, rfl⟩⟩
theorem put_is {D : DataW Unit} {f : ByteArray → Option Nat} (hm : IsMap D) (hf : ∀ s, Maps.has D (keyL s) = (f s).isSome ∧ D.atKey (keyL s) (litI 0) = litI (num (f s))) (s : ByteArray) (n : Nat) :
    ∀ t, Maps.has (D.put (keyL s) (litI (n : Int))) (keyL t) = (upd f s n t).isSome ∧ (D.put (keyL s) (litI (n : Int))).atKey (keyL t) (litI 0) = litI (num (upd f s n t)) := by
  intro t
  unfold upd
  by_cases e : t = s
  · subst e
    rw [if_pos rfl]
    exact ⟨has_put_same hm (keyL_key _) _, atKey_put_same hm (keyL_key _) _ _⟩
  · rw [if_neg e]
    have hne : keyL t ≠ keyL s := fun h => e (keyL_inj h)
    rw [has_put_other hne, atKey_put_other hne]
    exact hf t
theorem del_is {D : DataW Unit} {f : ByteArray → Option Nat} (hf : ∀ s, Maps.has D (keyL s) = (f s).isSome ∧ D.atKey (keyL s) (litI 0) = litI (num (f s))) (s : ByteArray) :
    ∀ t, Maps.has (D.del (keyL s)) (keyL t) = (del f s t).isSome ∧ (D.del (keyL s)).atKey (keyL t) (litI 0) = litI (num (del f s t)) := by
  intro t
  unfold del
  by_cases e : t = s
  · subst e
    rw [if_pos rfl]
    exact ⟨has_del_same, atKey_del_same _⟩
  · rw [if_neg e]
    have hne : keyL t ≠ keyL s := fun h => e (keyL_inj h)
    rw [has_del_other hne, atKey_del_other hne]
    exact hf t

/-- What 'v, ok := m[s]' gives. -/
theorem MapIs.look {w : World} {b g : Nat} {f : ByteArray → Option Nat} (h : MapIs w b g f) {s : ByteArray} (hs : s.size ≤ maxLen) :
    (Instr.lookup 85 (.map (some b)) (.string s) true).run Tryd.prog w = .ok (.tuple #[.int .i64 (num (f s)), .bool (f s).isSome]) w := by
  obtain ⟨D, hown, hD⟩ := h
  obtain ⟨v, ps, hrun, hv⟩ := hown.look_ok law9 Tryd.underlying85 (zero3 _) (plainElem_int (H := Unit) Tryd.underlying3 (a := 0) (q := .i64) (WalkArith.wf_i64 (by omega))) (key9 hs)
  obtain ⟨h1, h2⟩ := hD s
  rw [h2] at hv
  obtain ⟨c, rfl, hc, _⟩ := plainElem_int_inv Tryd.underlying3 hv
  have h3 : litI (num (f s)) = litI c := congrArg Prod.fst hc
  rw [hrun, h1, litI_inj h3]
theorem wf_small {n : Nat} (h : n ≤ 1048576) : (Lit.int .i64 (n : Int)).wf = true := WalkArith.wf_i64 (by omega)
section
variable {ops : Array Oper} {rest : List Oper} {o : Oper} {a : Act} {Q : Exit → Act → World → Prop}
/-- 'm[s] = n' at the operation. -/
theorem wp_store {w : World} (hgd : o.guard = none) (m x v : Operand) (hop : o.op = Op.mapUpdate 85 m x v) {b g : Nat} {f : ByteArray → Option Nat} {s : ByteArray} {n : Nat}
    (hm : a.eval m = .map (some b)) (hx : a.eval x = .string s) (hv : a.eval v = .int .i64 (n : Int)) (h : MapIs w b g f) (hs : s.size ≤ maxLen) (hg : g < maxLen) (hn : n ≤ 1048576)
    (hK : ∀ w', MapIs w' b (g + 1) (upd f s n) → w.grownBy w' (some b) → wpList Tryd.prog ops Q rest (a.put o.dst undef) w') : wpList Tryd.prog ops Q (o :: rest) a w := by
  obtain ⟨D, hown, hD⟩ := h
  refine wpList_mapUpdate_own w hgd m x v 85 hop 9 3 law9 Tryd.underlying85 (plainElem Tryd.prog 3) b g D hm hown hg _ _ _ hx hv (key9 hs) (litI n) [] (plainElem_int Tryd.underlying3 (wf_small hn)) ?_
  intro w' h1 h2
  exact hK w' ⟨_, h1, put_is hown.isMap hD s n⟩ h2
/-- 'delete(m, s)' at the operation. -/
theorem wp_delete {w : World} (hgd : o.guard = none) (m x : Operand) (hop : o.op = Op.call { callee := Callee.builtin Builtin.delete, args := #[m, x], argTypes := #[85, 9] }) {b g : Nat} {f : ByteArray → Option Nat} {s : ByteArray}
    (hm : a.eval m = .map (some b)) (hx : a.eval x = .string s) (h : MapIs w b g f) (hs : s.size ≤ maxLen)
    (hK : ∀ w', MapIs w' b g (del f s) → w.grownBy w' (some b) → wpList Tryd.prog ops Q rest (a.put o.dst (.tuple #[])) w') : wpList Tryd.prog ops Q (o :: rest) a w := by
  obtain ⟨D, hown, hD⟩ := h
  refine wpList_delete_own w hgd m x 85 9 hop 3 law9 Tryd.underlying85 (plainElem Tryd.prog 3) b g D hm hown _ _ hx (key9 hs) ?_
  intro w' h1 h2
  exact hK w' ⟨_, h1, del_is hD s⟩ h2.grown
end

/-! ### what turns: the blocks of one footprint, and new ones -/
structure Turns (fp : Nat → Prop) (w w' : World) : Prop where
  os : w'.os = w.os
  tape : w'.tape = w.tape
  output : w'.output = w.output
  size : w.heap.size ≤ w'.heap.size
  block : ∀ k, k < w.heap.size → ¬ fp k → w'.heap[k]? = w.heap[k]?
theorem Turns.refl (fp : Nat → Prop) (w : World) : Turns fp w w := ⟨rfl, rfl, rfl, Nat.le_refl _, fun _ _ _ => rfl⟩
theorem Turns.trans {fp fp' : Nat → Prop} {a b c : World} (h : Turns fp a b) (k : Turns fp' b c) (hf : ∀ k, fp' k → fp k ∨ a.heap.size ≤ k) : Turns fp a c :=
  ⟨k.os.trans h.os, k.tape.trans h.tape, k.output.trans h.output, Nat.le_trans h.size k.size, fun i hi hn =>
    (k.block i (Nat.lt_of_lt_of_le hi h.size) (fun e => by rcases hf i e with h | h; exact hn h; omega)).trans (h.block i hi hn)⟩
theorem Turns.mono {fp fp' : Nat → Prop} {a b : World} (h : Turns fp a b) (hf : ∀ k, fp k → fp' k) : Turns fp' a b :=
  ⟨h.os, h.tape, h.output, h.size, fun i hi hn => h.block i hi (fun e => hn (hf i e))⟩
theorem Turns.of_grown {fp : Nat → Prop} {a b : World} {row : Option Nat} (h : a.grownBy b row) (hf : ∀ k, row = some k → fp k) : Turns fp a b :=
  ⟨h.os, h.tape, h.output, h.size, fun i hi hn => h.block i hi (fun e => hn (hf i e.symm))⟩
theorem Turns.alloc (fp : Nat → Prop) (w : World) (o : Obj) : Turns fp w (w.alloc o) := Turns.of_grown (World.grownBy_alloc w o none) (fun _ h => by cases h)
theorem Turns.setCell {fp : Nat → Prop} (w : World) (a : Addr) (u : Value) (h : fp a.block) : Turns fp w (w.setCell a u) :=
  ⟨rfl, rfl, rfl, by simp [World.setCell], fun k _ hn => Below.heap_setCell w a u k (fun e => hn (e ▸ h))⟩
theorem Turns.drewN {fp : Nat → Prop} (w : World) (n : Nat) : Turns fp w (w.drewN n) := ⟨rfl, rfl, rfl, Nat.le_refl _, fun _ _ _ => rfl⟩
theorem Turns.below {fp : Nat → Prop} {a b : World} (h : Turns fp a b) {B : Nat} (hB : B ≤ a.heap.size) (hf : ∀ k, fp k → B ≤ k) : Below B a b :=
  ⟨h.os, h.tape, h.output, h.size, fun k hk => h.block k (by omega) (fun e => by have := hf k e; omega)⟩

/-! ### the table -/
def symCells (l : List (ByteArray × Bool)) : List Value := l.flatMap fun x => [.string x.1, .bool x.2]
theorem symCells_snoc (l : List (ByteArray × Bool)) (x : ByteArray × Bool) : symCells (l ++ [x]) = symCells l ++ [.string x.1, .bool x.2] := by simp [symCells]
theorem symCells_name {l : List (ByteArray × Bool)} {n : Nat} (h : n < l.length) : (symCells l)[2 * n]? = some (.string (l.getD n (ByteArray.empty, false)).1) ∧ (symCells l)[2 * n + 1]? = some (.bool (l.getD n (ByteArray.empty, false)).2) := by
  induction l generalizing n with
  | nil => simp at h
  | cons x l ih =>
    cases n with
    | zero => simp [symCells]
    | succ n =>
      have h' : n < l.length := by simpa using h
      obtain ⟨h1, h2⟩ := ih h'
      have e1 : 2 * (n + 1) = 2 * n + 2 := by omega
      have e2 : 2 * (n + 1) + 1 = (2 * n + 1) + 2 := by omega
      simp only [symCells, List.flatMap_cons] at h1 h2 ⊢
      rw [e2, e1]
      constructor
      · rw [show ([Value.string x.1, Value.bool x.2] ++ List.flatMap (fun x => [Value.string x.1, Value.bool x.2]) l)[2 * n + 2]? = (List.flatMap (fun x => [Value.string x.1, Value.bool x.2]) l)[2 * n]? from by simp]
        rw [h1]; simp
      · rw [show ([Value.string x.1, Value.bool x.2] ++ List.flatMap (fun x => [Value.string x.1, Value.bool x.2]) l)[(2 * n + 1) + 2]? = (List.flatMap (fun x => [Value.string x.1, Value.bool x.2]) l)[2 * n + 1]? from by simp]
        rw [h2]; simp

/-- The rows of numbers that the scopes hold: each its own. -/
def Vars (w : World) (vals : List Value) (l : List (List Nat)) : Prop :=
  vals.length = l.length ∧ (∀ (j : Nat) (v : Value) (xs : List Nat), vals[j]? = some v → l[j]? = some xs → w.ownsRow 0 3 1 v xs.length (xs.map fun (n : Nat) => Value.int .i64 (n : Int))) ∧
    vals.Pairwise fun u v => ∀ k, u.ownBlock = some k → v.ownBlock ≠ some k

structure Parts where
  vs : Value
  bn : Nat
  ba : Nat
  vc : Value
  bt : Nat
  vl : Value
  vals : List Value

structure Holds (w : World) (p g : Nat) (T : Tab) (q : Parts) : Prop where
  cells : w.heap[p]? = some (.cells #[q.vs, .map (some q.bn), .map (some q.ba), q.vc, .map (some q.bt), q.vl] 88 (0, 0))
  syms : w.ownsRow 0 93 2 q.vs T.syms.length (symCells T.syms)
  numbers : MapIs w q.bn g (idx T.syms)
  active : MapIs w q.ba g T.act
  taken : MapIs w q.bt g (labIdx T.labels)
  na : q.bn ≠ q.ba
  nt : q.bn ≠ q.bt
  at_ : q.ba ≠ q.bt
  scopes : w.ownsRow 0 90 1 q.vc T.scopes.length q.vals
  vars : Vars w q.vals T.scopes
  labels : w.ownsRow 0 9 1 q.vl T.labels.length (T.labels.map Value.string)

/-- The blocks that a table takes. -/
def Parts.has (q : Parts) (p : Nat) (k : Nat) : Prop :=
  k = p ∨ k = q.bn ∨ k = q.ba ∨ k = q.bt ∨ q.vs.ownBlock = some k ∨ q.vc.ownBlock = some k ∨ q.vl.ownBlock = some k ∨ ∃ v, v ∈ q.vals ∧ v.ownBlock = some k

def TabIs (w : World) (p g : Nat) (T : Tab) (fp : Nat → Prop) : Prop := WF T ∧ ∃ q, Holds w p g T q ∧ ∀ k, q.has p k → fp k

theorem Holds.move {w w' : World} {p g : Nat} {T : Tab} {q : Parts} (h : Holds w p g T q) (hm : ∀ k, q.has p k → w'.heap[k]? = w.heap[k]?) : Holds w' p g T q := by
  refine ⟨(hm p (.inl rfl)).trans h.cells, own_move h.syms (fun k hk => hm k (by simp [Parts.has, hk])), h.numbers.move (hm _ (by simp [Parts.has])), h.active.move (hm _ (by simp [Parts.has])), h.taken.move (hm _ (by simp [Parts.has])), h.na, h.nt, h.at_,
    own_move h.scopes (fun k hk => hm k (by simp [Parts.has, hk])), ⟨h.vars.1, fun j v xs hv hx => own_move (h.vars.2.1 j v xs hv hx) (fun k hk => hm k ?_), h.vars.2.2⟩, own_move h.labels (fun k hk => hm k (by simp [Parts.has, hk]))⟩
  exact .inr (.inr (.inr (.inr (.inr (.inr (.inr ⟨v, List.mem_of_getElem? hv, hk⟩))))))
theorem TabIs.move {w w' : World} {p g : Nat} {T : Tab} {fp : Nat → Prop} (h : TabIs w p g T fp) (hm : ∀ k, fp k → w'.heap[k]? = w.heap[k]?) : TabIs w' p g T fp := by
  obtain ⟨hw, q, hq, hf⟩ := h
  exact ⟨hw, q, hq.move (fun k hk => hm k (hf k hk)), hf⟩
theorem TabIs.mono {w : World} {p g : Nat} {T : Tab} {fp fp' : Nat → Prop} (h : TabIs w p g T fp) (hf : ∀ k, fp k → fp' k) : TabIs w p g T fp' := by
  obtain ⟨hw, q, hq, hf'⟩ := h
  exact ⟨hw, q, hq, fun k hk => hf k (hf' k hk)⟩
theorem Holds.lt {w : World} {p g : Nat} {T : Tab} {q : Parts} (h : Holds w p g T q) : ∀ k, q.has p k → k < w.heap.size := by
  intro k hk
  rcases hk with rfl | rfl | rfl | rfl | hk | hk | hk | ⟨v, hv, hk⟩
  · exact (Array.getElem?_eq_some_iff.1 h.cells).1
  · exact h.numbers.lt
  · exact h.active.lt
  · exact h.taken.lt
  · exact (h.syms.lt k hk).2
  · exact (h.scopes.lt k hk).2
  · exact (h.labels.lt k hk).2
  · obtain ⟨j, hj⟩ := List.mem_iff_getElem?.1 hv
    have hjl : j < T.scopes.length := by rw [← h.vars.1]; exact (List.getElem?_eq_some_iff.1 hj).1
    exact ((h.vars.2.1 j v _ hj (List.getElem?_eq_getElem hjl)).lt k hk).2
/-- A table's footprint, cut down to blocks that are there. -/
theorem TabIs.bound {w : World} {p g : Nat} {T : Tab} {fp : Nat → Prop} (h : TabIs w p g T fp) : TabIs w p g T (fun k => fp k ∧ k < w.heap.size) := by
  obtain ⟨hw, q, hq, hf⟩ := h
  exact ⟨hw, q, hq, fun k hk => ⟨hf k hk, hq.lt k hk⟩⟩
theorem TabIs.kept {w w' : World} {p g : Nat} {T : Tab} {fp fp' : Nat → Prop} (h : TabIs w p g T fp) (ht : Turns fp' w w') (hd : ∀ k, fp k → ¬ fp' k) : TabIs w' p g T fp := by
  have hb := h.bound
  exact (hb.move (fun k hk => ht.block k hk.2 (hd k hk.1))).mono (fun _ hk => hk.1)
theorem Holds.more {w : World} {p g g' : Nat} {T : Tab} {q : Parts} (h : Holds w p g T q) (hg : g ≤ g') : Holds w p g' T q :=
  ⟨h.cells, h.syms, h.numbers.more hg, h.active.more hg, h.taken.more hg, h.na, h.nt, h.at_, h.scopes, h.vars, h.labels⟩
theorem TabIs.more {w : World} {p g g' : Nat} {T : Tab} {fp : Nat → Prop} (h : TabIs w p g T fp) (hg : g ≤ g') : TabIs w p g' T fp := by
  obtain ⟨hw, q, hq, hf⟩ := h
  exact ⟨hw, q, hq.more hg, hf⟩

/-! ### what kind of block each part is -/
def tyOf (w : World) (k : Nat) : Option TypeId := match w.heap[k]? with | some (.cells _ t _) => some t | _ => none
theorem tyOf_cells {w : World} {k : Nat} {c : Array Value} {t : TypeId} {f : Nat × Nat} (h : w.heap[k]? = some (.cells c t f)) : tyOf w k = some t := by simp [tyOf, h]
theorem tyOf_map {w : World} {b g : Nat} {f : ByteArray → Option Nat} (h : MapIs w b g f) : tyOf w b = none := by
  obtain ⟨es, c, hb⟩ := h.block
  simp [tyOf, hb]
theorem tyOf_row {w : World} {base e size n : Nat} {v : Value} {xs : List Value} (h : w.ownsRow base e size v n xs) {k : Nat} (hk : v.ownBlock = some k) : tyOf w k = some e := by
  obtain ⟨c, hc⟩ := own_typed h k hk
  exact tyOf_cells hc
theorem ne_ty {w : World} {a b : Nat} {x y : Option TypeId} (ha : tyOf w a = x) (hb : tyOf w b = y) (h : x ≠ y) : a ≠ b := by
  rintro rfl
  exact h (ha.symm.trans hb)
theorem Holds.tp {w : World} {p g : Nat} {T : Tab} {q : Parts} (h : Holds w p g T q) : tyOf w p = some 88 := tyOf_cells h.cells
theorem Holds.tvars {w : World} {p g : Nat} {T : Tab} {q : Parts} (h : Holds w p g T q) {v : Value} (hv : v ∈ q.vals) {k : Nat} (hk : v.ownBlock = some k) : tyOf w k = some 3 := by
  obtain ⟨j, hj⟩ := List.mem_iff_getElem?.1 hv
  have hjl : j < T.scopes.length := by rw [← h.vars.1]; exact (List.getElem?_eq_some_iff.1 hj).1
  exact tyOf_row (h.vars.2.1 j v _ hj (List.getElem?_eq_getElem hjl)) hk
theorem Vars.move {w w' : World} {vals : List Value} {l : List (List Nat)} (h : Vars w vals l) (hm : ∀ v, v ∈ vals → ∀ k, v.ownBlock = some k → w'.heap[k]? = w.heap[k]?) : Vars w' vals l :=
  ⟨h.1, fun j v xs hv hx => own_move (h.2.1 j v xs hv hx) (fun k hk => hm v (List.mem_of_getElem? hv) k hk), h.2.2⟩
theorem set_block {w : World} {p : Nat} {c : Array Value} {t : TypeId} {f : Nat × Nat} (h : w.heap[p]? = some (.cells c t f)) (i : Nat) (u : Value) : (w.setCell ⟨p, i, none⟩ u).heap[p]? = some (.cells (c.setIfInBounds i u) t f) := by
  simp [World.setCell, Array.getElem?_modify, h]
theorem tyOf_same {w w' : World} {k : Nat} (h : w'.heap[k]? = w.heap[k]?) : tyOf w' k = tyOf w k := by simp [tyOf, h]
/-- What a call has made of a table: parts that are its old ones or new, and nothing else has turned. -/
def TabSteps (w w' : World) (p g : Nat) (T : Tab) (q : Parts) : Prop := ∃ q', Holds w' p g T q' ∧ (∀ k, q'.has p k → q.has p k ∨ w.heap.size ≤ k) ∧ Turns (q.has p) w w'

/-! ### two blocks of different types are two blocks -/
end Go.Proofs.YtpoojimmponklaaDoor.SymHeap

namespace Go.Proofs.YtpoojimmponklaaDoor.SymReads
open Go.RowKit Go.Maps Go.Proofs.YtpoojimmponklaaDoor.SymTab Go.Proofs.YtpoojimmponklaaDoor.SymHeap
open Go.Proofs.YtpoojimmponklaaDoorW.PrintWords (Aside0 Drawn0)

theorem row_slice {w : World} {base e size n : Nat} {v : Value} {xs : List Value} (h : w.ownsRow base e size v n xs) : ∃ A cap, v = .slice A n cap ∧ n ≤ cap := by
  rcases h.2 with ⟨rfl, rfl⟩ | ⟨g, cap, cur, rfl, _, _, hn, _⟩
  · exact ⟨_, _, rfl, Nat.le_refl _⟩
  · exact ⟨_, _, rfl, hn⟩
theorem row_some {w : World} {base e size n : Nat} {v : Value} {xs : List Value} (h : w.ownsRow base e size v n xs) (hn : 0 < n) :
    ∃ g cap, v = .slice (some ⟨g, 0, none⟩) n cap ∧ n ≤ cap ∧ (∀ j u, xs[j]? = some u → w.cell? ⟨g, j, none⟩ = some u) ∧ (∀ j, w.frozen? ⟨g, j, none⟩ = false) ∧ ∃ cur, w.heap[g]? = some (.cells cur e (0, 0)) := by
  have hc := fun (k : Nat) (hk : v.ownBlock = some k) => h.cells hk
  rcases h.2 with ⟨rfl, rfl⟩ | ⟨g, cap, cur, rfl, _, hg, hnc, _⟩
  · omega
  · refine ⟨g, cap, rfl, hnc, fun j u hu => ?_, fun j => ?_, cur, hg⟩
    · have := hc g rfl j u hu
      rw [show (⟨g, 0, none⟩ : Addr).add j = ⟨g, j, none⟩ from by unfold Addr.add; split <;> simp_all] at this
      exact this
    · simp [World.frozen?, hg]
theorem cell_at {w : World} {p : Nat} {cs : Array Value} {t : TypeId} (h : w.heap[p]? = some (.cells cs t (0, 0))) (i : Nat) : w.cell? ⟨p, i, none⟩ = cs[i]? ∧ w.frozen? ⟨p, i, none⟩ = false := by
  constructor
  · simp [World.cell?, h]
  · simp [World.frozen?, h]

def varOf (T : Tab) (k : Nat) : Bool := (T.syms.getD k (ByteArray.empty, false)).2
/-- The row of symbols: where it lies, and its cells by number. -/
theorem syms_at {w : World} {p g : Nat} {T : Tab} {q : Parts} (h : Holds w p g T q) {k : Nat} (hk : k < T.syms.length) :
    ∃ b cap, q.vs = .slice (some ⟨b, 0, none⟩) T.syms.length cap ∧ w.cell? ⟨b, k * 2, none⟩ = some (.string (nameOf T k)) ∧ w.cell? ⟨b, k * 2 + 1, none⟩ = some (.bool (varOf T k)) := by
  obtain ⟨b, cap, e, _, hcell, _⟩ := row_some h.syms (by omega)
  obtain ⟨h1, h2⟩ := symCells_name hk
  rw [Nat.mul_comm] at h1 h2
  exact ⟨b, cap, e, hcell _ _ h1, hcell _ _ h2⟩
theorem count_calls {w : World} {p g : Nat} {T : Tab} {fp : Nat → Prop} (h : TabIs w p g T fp) :
    Calls Tryd.prog 20 #[.pointer (some ⟨p, 0, none⟩)] w fun e w' => e = .returned (.int .i64 (T.syms.length : Int)) ∧ Drawn0 w w' := by
  obtain ⟨hw, ⟨vs, bn, ba, vc, bt, vl, vals⟩, h, _⟩ := h
  obtain ⟨A, cap, e, _⟩ := row_slice h.syms
  simp only at e
  subst e
  have c0 := (cell_at h.cells 0).1
  simp only [List.getElem?_toArray, List.getElem?_cons_zero] at c0
  clear h
  go_enter Tryd.func20, Tryd.ntmps20
  go_wp2
  go_ret
  exact ⟨rfl, Drawn0.refl _⟩

theorem there_calls {w : World} {p g : Nat} {T : Tab} {fp : Nat → Prop} (h : TabIs w p g T fp) (n : Int) :
    Calls Tryd.prog 60 #[.pointer (some ⟨p, 0, none⟩), .int .i64 n] w fun e w' => e = .returned (.bool (there T n)) ∧ w' = w := by
  obtain ⟨hw, ⟨vs, bn, ba, vc, bt, vl, vals⟩, h, _⟩ := h
  obtain ⟨A, cap, e, _⟩ := row_slice h.syms
  simp only at e
  subst e
  have c0 := (cell_at h.cells 0).1
  simp only [List.getElem?_toArray, List.getElem?_cons_zero] at c0
  clear h
  by_cases h0 : 0 ≤ n
  · have d0 : decide (0 ≤ n) = true := decide_eq_true h0
    by_cases h1 : n < T.syms.length
    · have d1 : decide (n < (T.syms.length : Int)) = true := decide_eq_true h1
      go_enter Tryd.func60, Tryd.ntmps60
      go_wp2
      go_ret
      exact ⟨by unfold there; rw [d0, d1]; rfl, rfl⟩
    · have d1 : decide (n < (T.syms.length : Int)) = false := decide_eq_false h1
      go_enter Tryd.func60, Tryd.ntmps60
      go_wp2
      go_ret
      exact ⟨by unfold there; rw [d0, d1]; rfl, rfl⟩
  · have d0 : decide (0 ≤ n) = false := decide_eq_false h0
    go_enter Tryd.func60, Tryd.ntmps60
    go_wp2
    go_ret
    exact ⟨by unfold there; rw [d0]; rfl, rfl⟩

theorem there_split {T : Tab} {n : Int} : there T n = true ↔ ∃ k : Nat, n = (k : Int) ∧ k < T.syms.length := by
  unfold there
  simp only [Bool.and_eq_true, decide_eq_true_eq]
  constructor
  · rintro ⟨h0, h1⟩
    exact ⟨n.toNat, by omega, by omega⟩
  · rintro ⟨k, rfl, hk⟩
    omega

theorem name_calls {w : World} {p g : Nat} {T : Tab} {fp : Nat → Prop} (h : TabIs w p g T fp) (n : Int) :
    Calls Tryd.prog 23 #[.pointer (some ⟨p, 0, none⟩), .int .i64 n] w fun e w' => e = .returned (.string (nameT T n)) ∧ w' = w := by
  have ht := there_calls h n
  obtain ⟨hw, ⟨vs, bn, ba, vc, bt, vl, vals⟩, h, _⟩ := h
  cases hth : there T n with
  | false =>
    rw [hth] at ht
    have Hn := Lib.hid (show nameT T n = ByteArray.empty by unfold nameT; rw [hth]; rfl)
    clear hth
    go_enter Tryd.func23, Tryd.ntmps23
    go_wp2_with (go_at_call 60; refine ht.mono ?_; rintro e w' ⟨rfl, rfl⟩)
    go_ret
    exact ⟨by rw [Hn.out]; rfl, rfl⟩
  | true =>
    rw [hth] at ht
    obtain ⟨k, rfl, hk⟩ := there_split.1 hth
    have Hn := Lib.hid (show nameT T k = nameOf T k by unfold nameT; rw [hth]; rfl)
    clear hth
    obtain ⟨b, cap, e, cn, _⟩ := syms_at h hk
    simp only at e
    subst e
    have c0 := (cell_at h.cells 0).1
    simp only [List.getElem?_toArray, List.getElem?_cons_zero] at c0
    clear h
    go_enter Tryd.func23, Tryd.ntmps23
    go_wp2_with (go_at_call 60; refine ht.mono ?_; rintro e w' ⟨rfl, rfl⟩)
    go_ret
    exact ⟨by rw [Hn.out]; rfl, rfl⟩

theorem isVar_calls {w : World} {p g : Nat} {T : Tab} {fp : Nat → Prop} (h : TabIs w p g T fp) (n : Int) :
    Calls Tryd.prog 24 #[.pointer (some ⟨p, 0, none⟩), .int .i64 n] w fun e w' => e = .returned (.bool (isVarT T n)) ∧ Drawn0 w w' := by
  have ht := there_calls h n
  obtain ⟨hw, ⟨vs, bn, ba, vc, bt, vl, vals⟩, h, _⟩ := h
  cases hth : there T n with
  | false =>
    rw [hth] at ht
    have Hn := Lib.hid (show isVarT T n = false by unfold isVarT; rw [hth]; rfl)
    clear hth
    go_enter Tryd.func24, Tryd.ntmps24
    go_wp2_with (go_at_call 60; refine ht.mono ?_; rintro e w' ⟨rfl, rfl⟩)
    go_ret
    exact ⟨by rw [Hn.out]; rfl, Drawn0.refl _⟩
  | true =>
    rw [hth] at ht
    obtain ⟨k, rfl, hk⟩ := there_split.1 hth
    have Hn := Lib.hid (show isVarT T k = varOf T k by unfold isVarT varOf; rw [hth, Int.toNat_natCast, Bool.true_and])
    clear hth
    obtain ⟨b, cap, e, _, cn⟩ := syms_at h hk
    simp only at e
    subst e
    have c0 := (cell_at h.cells 0).1
    simp only [List.getElem?_toArray, List.getElem?_cons_zero] at c0
    clear h
    go_enter Tryd.func24, Tryd.ntmps24
    go_wp2_with (go_at_call 60; refine ht.mono ?_; rintro e w' ⟨rfl, rfl⟩)
    go_ret
    exact ⟨by rw [Hn.out]; rfl, Drawn0.refl _⟩

/-- What is asked of a map of names: a number (0 if it is not there), and whether it is there. -/
theorem find_calls {w : World} {p g : Nat} {T : Tab} {fp : Nat → Prop} (h : TabIs w p g T fp) (s : ByteArray) (hs : s.size ≤ maxLen) :
    Calls Tryd.prog 31 #[.pointer (some ⟨p, 0, none⟩), .string s] w fun e w' => e = .returned (.tuple #[.int .i64 (num (T.act s)), .bool (T.act s).isSome]) ∧ w' = w := by
  obtain ⟨hw, ⟨vs, bn, ba, vc, bt, vl, vals⟩, h, _⟩ := h
  have c2 := (cell_at h.cells 2).1
  simp only [List.getElem?_toArray, List.getElem?_cons_zero, List.getElem?_cons_succ] at c2
  have hl := h.active.look hs
  clear h
  go_enter Tryd.func31, Tryd.ntmps31
  go_wp2
  go_ret2
  exact ⟨rfl, rfl⟩
theorem size_name {T : Tab} (h : WF T) {k : Nat} (hk : k < T.syms.length) : (nameOf T k).size ≤ 32 := by
  have hm : T.syms[k] ∈ T.syms := List.getElem_mem hk
  have := h.ok _ hm
  unfold symOk at this
  simp only [Bool.and_eq_true, decide_eq_true_eq] at this
  unfold nameOf
  rw [List.getD_eq_getElem?_getD, List.getElem?_eq_getElem hk]
  exact this.2
theorem active_calls {w : World} {p g : Nat} {T : Tab} {fp : Nat → Prop} (h : TabIs w p g T fp) (n : Int) :
    Calls Tryd.prog 21 #[.pointer (some ⟨p, 0, none⟩), .int .i64 n] w fun e w' => e = .returned (.bool (activeT T n)) ∧ Drawn0 w w' := by
  have ht := there_calls h n
  obtain ⟨hw, ⟨vs, bn, ba, vc, bt, vl, vals⟩, h, _⟩ := h
  cases hth : there T n with
  | false =>
    rw [hth] at ht
    have Hn := Lib.hid (show activeT T n = false by unfold activeT; rw [hth]; rfl)
    clear hth
    go_enter Tryd.func21, Tryd.ntmps21
    go_wp2_with (go_at_call 60; refine ht.mono ?_; rintro e w' ⟨rfl, rfl⟩)
    go_ret
    exact ⟨by rw [Hn.out]; rfl, Drawn0.refl _⟩
  | true =>
    rw [hth] at ht
    obtain ⟨k, rfl, hk⟩ := there_split.1 hth
    have Hn := Lib.hid (show activeT T k = (T.act (nameOf T k)).isSome by unfold activeT; rw [hth, Int.toNat_natCast, Bool.true_and])
    clear hth
    obtain ⟨b, cap, e, cn, _⟩ := syms_at h hk
    simp only at e
    subst e
    have c0 := (cell_at h.cells 0).1
    have c2 := (cell_at h.cells 2).1
    simp only [List.getElem?_toArray, List.getElem?_cons_zero, List.getElem?_cons_succ] at c0 c2
    have hl : ∀ nq, (Instr.lookup 85 (.map (some ba)) (.string (nameOf T k)) true).run Tryd.prog (w.drewN nq) = .ok (.tuple #[.int .i64 (num (T.act (nameOf T k))), .bool (T.act (nameOf T k)).isSome]) (w.drewN nq) := fun nq =>
      (h.active.move (w' := w.drewN nq) rfl).look (by have := size_name hw hk; unfold maxLen; omega)
    have hk' : (k : Int) < (T.syms.length : Int) := by omega
    clear h
    go_enter Tryd.func21, Tryd.ntmps21
    go_wp2_with (go_at_call 60; refine ht.mono ?_; rintro e w' ⟨rfl, rfl⟩)
    go_quiet (fail)
    go_wp2
    go_ret
    exact ⟨by rw [Hn.out]; rfl, Drawn0.step (Drawn0.refl _) _⟩
end Go.Proofs.YtpoojimmponklaaDoor.SymReads

namespace Go.Proofs.YtpoojimmponklaaDoor.SymAdd
open Go.RowKit Go.Maps Go.Proofs.YtpoojimmponklaaDoor.SymTab Go.Proofs.YtpoojimmponklaaDoor.SymHeap Go.Proofs.YtpoojimmponklaaDoor.SymReads
open Go.Proofs.YtpoojimmponklaaDoorW.PrintWords (Aside0 Drawn0 own_move)

theorem info93 : (Tryd.prog.info? 93).map (fun i => (i.zero, i.size, i.bytes)) = some (some (.agg #[.string .empty, .bool false]), 2, 24) := by kernel_rfl

theorem cells_two_new (w : World) (x y : Value) (t : TypeId) : ∀ j u, [x, y][j]? = some u → (w.alloc (.cells #[x, y] t)).cell? ((⟨w.heap.size, 0, none⟩ : Addr).add j) = some u := by
  intro j u hu
  match j, hu with
  | 0, hu => simp at hu; subst hu; simp [Addr.add]
  | 1, hu => simp at hu; subst hu; simp [Addr.add]

set_option maxHeartbeats 1000000 in
set_option maxRecDepth 100000 in
theorem add_calls {w : World} {p g : Nat} {T : Tab} {q : Parts} (h : Holds w p g T q) (s : ByteArray) (b : Bool) (hs : s.size ≤ 32) (hnew : idx T.syms s = none) (hfew : T.syms.length < 512) (hg : g < maxLen) :
    Calls Tryd.prog 59 #[.pointer (some ⟨p, 0, none⟩), .string s, .bool b] w fun e w' => e = .returned (.tuple #[.int .i64 (T.syms.length : Int), .int .i64 0]) ∧ TabSteps w w' p (g + 1) (added T s b) q := by
  obtain ⟨vs, bn, ba, vc, bt, vl, vals⟩ := q
  have H := Aside0.mk h
  obtain ⟨A, cap, e, _⟩ := row_slice h.syms
  simp only at e
  subst e
  have c0 := (cell_at h.cells 0).1
  simp only [List.getElem?_toArray, List.getElem?_cons_zero] at c0
  have hlen : ((T.syms.length : Int)) < 512 := by omega
  obtain ⟨i0, hi, hz0, hz1, hz2⟩ := info_parts info93
  have HS := Aside0.mk h.syms
  have Hi := Aside0.mk hi
  have Hz0 := Aside0.mk hz0
  have Hz1 := Aside0.mk hz1
  have Hz2 := Aside0.mk hz2
  clear h hi hz0 hz1 hz2
  go_enter Tryd.func59, Tryd.ntmps59
  go_wp2_with (at_builtin; refine wpList_append_own_at _ rfl (.tmp 19) (.tmp 23) 84 rfl 0 93 i0 (.agg #[.string .empty, .bool false]) 2 24 Tryd.underlying84 Hi.out Hz0.out Hz1.out Hz2.out rfl (by decide) _ _ _ rfl (HS.out.alloc _) ⟨w.heap.size, 0, none⟩ 1 1 [.string s, .bool b] rfl rfl (cells_two_new _ _ _ _) ?c2 (by unfold maxLen; omega) (by omega) (Nat.zero_le _) ?_)
  case c2 => exact ⟨rfl, rfl⟩
  intro v' w1 hown1 hgrow1 hnil1 hat1
  clear hnil1
  have ht1 : Turns (fun k => (Value.slice A T.syms.length cap).ownBlock = some k) w w1 := (Turns.alloc _ w _).trans (Turns.of_grown (fp := fun k => (Value.slice A T.syms.length cap).ownBlock = some k) hgrow1 (fun k hk => hk)) (fun k hk => .inl hk)
  have hlt := H.out.lt
  have hb1 : ∀ k, k < w.heap.size → tyOf w k ≠ some 93 → w1.heap[k]? = w.heap[k]? := fun k hk hty => ht1.block k hk (fun e => hty (tyOf_row HS.out e))
  have hp1 : w1.heap[p]? = some (.cells #[.slice A T.syms.length cap, .map (some bn), .map (some ba), vc, .map (some bt), vl] 88 (0, 0)) := (hb1 p (hlt p (.inl rfl)) (by rw [H.out.tp]; decide)).trans H.out.cells
  have d0 := cell_at hp1 0
  have d1 := cell_at hp1 1
  simp only [List.getElem?_toArray, List.getElem?_cons_zero, List.getElem?_cons_succ] at d0 d1
  have hmap : MapIs (w1.setCell ⟨p, 0, none⟩ v') bn g (idx T.syms) := by
    refine H.out.numbers.move ?_
    have hbn : bn < w.heap.size := hlt bn (.inr (.inl rfl))
    have hne : bn ≠ p := ne_ty (tyOf_map H.out.numbers) H.out.tp (by decide)
    exact (Below.heap_setCell w1 ⟨p, 0, none⟩ v' bn hne).trans (hb1 bn hbn (by rw [tyOf_map H.out.numbers]; decide))
  obtain ⟨A', cap', e', _⟩ := row_slice hown1
  subst e'
  obtain ⟨d0, f0⟩ := d0
  obtain ⟨d1, _⟩ := d1
  have Hb1 := Aside0.mk hb1
  have Hp1 := Aside0.mk hp1
  have Ht1 := Aside0.mk ht1
  have Hown1 := Aside0.mk hown1
  have Hlt := Aside0.mk hlt
  have Hat1 := Aside0.mk hat1
  clear c0 hb1 hp1 ht1 hown1 hlt hat1 hgrow1
  go_wp2_with (at_mapUpdate; refine wp_store rfl _ _ _ rfl rfl rfl rfl hmap (by unfold maxLen; omega) hg (by omega) ?_; intro w2 hm2 hg2)
  go_ret2
  refine ⟨rfl, ?_⟩
  have h := H.out
  have hb1 := Hb1.out
  have hlt := Hlt.out
  have hat := Hat1.out
  have hpt : tyOf w1 p = some 88 := tyOf_cells Hp1.out
  have hbn : tyOf w bn = none := tyOf_map h.numbers
  have hbn1 : tyOf w1 bn = none := (tyOf_same (hb1 bn (hlt bn (.inr (.inl rfl))) (by rw [hbn]; decide))).trans hbn
  -- what is neither the table's own block, nor the numbers' map: as it was behind the append
  have step : ∀ k, k < w1.heap.size → k ≠ p → k ≠ bn → w2.heap[k]? = w1.heap[k]? := fun k hk h1 h2 =>
    (hg2.block k (by simp [World.setCell]; exact hk) (by simpa using h2)).trans (Below.heap_setCell w1 ⟨p, 0, none⟩ _ k h1)
  have hsz := Ht1.out.size
  have all : ∀ k, k < w.heap.size → tyOf w k ≠ some 93 → k ≠ p → k ≠ bn → w2.heap[k]? = w.heap[k]? := fun k hk h1 h2 h3 =>
    (step k (by omega) h2 h3).trans (hb1 k hk h1)
  have row : ∀ k t, k < w.heap.size → tyOf w k = some t → t ≠ 93 → t ≠ 88 → w2.heap[k]? = w.heap[k]? := fun k t hk ht h1 h2 =>
    all k hk (by rw [ht]; simpa using h1) (ne_ty ht h.tp (by simpa using h2)) (ne_ty ht hbn (by simp))
  refine ⟨⟨.slice A' (T.syms.length + 1) cap', bn, ba, vc, bt, vl, vals⟩, ⟨?_, ?_, ?_, ?_, ?_, h.na, h.nt, h.at_, ?_, ?_, ?_⟩, ?_, ?_⟩
  · rw [hg2.block p (by simp [World.setCell]; have := hlt p (.inl rfl); omega) (by have := ne_ty hpt hbn1 (by decide); simpa using this), set_block Hp1.out]
    rfl
  · have hl : (added T s b).syms = T.syms ++ [(s, b)] := rfl
    rw [hl, List.length_append, List.length_singleton, symCells_snoc]
    refine own_move Hown1.out (fun k hk => ?_)
    have ht := tyOf_row Hown1.out hk
    exact step k (Hown1.out.lt k hk).2 (ne_ty ht hpt (by decide)) (ne_ty ht hbn1 (by decide))
  · have := hm2
    rw [← idx_snoc (b := b) hnew] at this
    exact this
  · have hba := tyOf_map h.active
    exact (h.active.move (all ba (hlt ba (by simp [Parts.has])) (by rw [hba]; decide) (ne_ty hba h.tp (by decide)) (Ne.symm h.na))).more (by omega)
  · have hbt := tyOf_map h.taken
    exact (h.taken.move (all bt (hlt bt (by simp [Parts.has])) (by rw [hbt]; decide) (ne_ty hbt h.tp (by decide)) (Ne.symm h.nt))).more (by omega)
  · exact own_move h.scopes (fun k hk => row k 90 (h.scopes.lt k hk).2 (tyOf_row h.scopes hk) (by decide) (by decide))
  · exact h.vars.move (fun v hv k hk => row k 3 (hlt k (.inr (.inr (.inr (.inr (.inr (.inr (.inr ⟨v, hv, hk⟩)))))))) (h.tvars hv hk) (by decide) (by decide))
  · exact own_move h.labels (fun k hk => row k 9 (h.labels.lt k hk).2 (tyOf_row h.labels hk) (by decide) (by decide))
  · intro k hk
    simp only [Parts.has] at hk ⊢
    rcases hk with hk | hk | hk | hk | hk | hk
    · exact .inl (.inl hk)
    · exact .inl (.inr (.inl hk))
    · exact .inl (.inr (.inr (.inl hk)))
    · exact .inl (.inr (.inr (.inr (.inl hk))))
    · rcases hat with e | e
      · rw [e] at hk
        exact .inl (.inr (.inr (.inr (.inr (.inl hk)))))
      · rw [e] at hk
        right
        have := Option.some.inj hk
        omega
    · exact .inl (.inr (.inr (.inr (.inr (.inr hk)))))
  · refine Turns.trans (Turns.trans (Ht1.out.mono ?_) (Turns.setCell (fp := fun k => k = p) w1 ⟨p, 0, none⟩ _ rfl) ?_) (Turns.of_grown (fp := fun k => k = bn) hg2 (fun k hk => (Option.some.inj hk).symm)) ?_
    · intro k hk; simp [Parts.has, hk]
    · rintro k rfl; left; simp [Parts.has]
    · rintro k rfl; left; simp [Parts.has]
end Go.Proofs.YtpoojimmponklaaDoor.SymAdd

namespace Go.Proofs.YtpoojimmponklaaDoor.SymScan
open Go.RowKit Go.Proofs.YtpoojimmponklaaDoor.SymTab Go.Proofs.YtpoojimmponklaaDoor.SymHeap

/-- The table of blanks can be read: each of its cells holds a truth. -/
def Blanks (w : World) : Prop := ∀ i, i < 33 → ∃ b : Bool, w.cell? ⟨0, i, none⟩ = some (.bool b)
theorem Blanks.move {w w' : World} (h : Blanks w) (hm : w'.heap[0]? = w.heap[0]?) : Blanks w' := fun i hi => by
  obtain ⟨b, hb⟩ := h i hi
  exact ⟨b, by rw [← hb]; simp [World.cell?, hm]⟩
theorem Blanks.lt {w : World} (h : Blanks w) : 0 < w.heap.size := by
  obtain ⟨b, hb⟩ := h 0 (by omega)
  exact World.block_lt_of_cell? w _ hb

theorem kind_in {w : World} (n : Nat) (h1 : 33 ≤ n) (h2 : n ≤ 126) : Calls Tryd.prog 76 #[.int .u8 (n : Int)] w fun e w' => e = .returned (.int .i64 2) ∧ w' = w := by
  have d1 : decide ((33 : Int) ≤ (n : Int)) = true := decide_eq_true (by omega)
  have d2 : decide ((n : Int) ≤ 126) = true := decide_eq_true (by omega)
  go_enter Tryd.func76, Tryd.ntmps76
  go_wp2
  go_ret
  exact ⟨rfl, rfl⟩
theorem kind_out {w : World} (hb : Blanks w) (n : Nat) (hn : n ≤ 255) (h : ¬ (33 ≤ n ∧ n ≤ 126)) : Calls Tryd.prog 76 #[.int .u8 (n : Int)] w fun e w' => ∃ k : Int, e = .returned (.int .i64 k) ∧ (k = 0 ∨ k = 1) ∧ w' = w := by
  by_cases h1 : 33 ≤ n
  · have h2 : 126 < n := by omega
    have d1 : decide ((33 : Int) ≤ (n : Int)) = true := decide_eq_true (by omega)
    have d2 : decide ((n : Int) ≤ 126) = false := decide_eq_false (by omega)
    have d3 : decide ((n : Int) < 33) = false := decide_eq_false (by omega)
    have hn' : (n : Int) ≤ 255 := by omega
    go_enter Tryd.func76, Tryd.ntmps76
    go_wp2
    go_ret
    exact ⟨0, rfl, .inl rfl, rfl⟩
  · have d1 : decide ((33 : Int) ≤ (n : Int)) = false := decide_eq_false (by omega)
    have d3 : decide ((n : Int) < 33) = true := decide_eq_true (by omega)
    have hn' : (n : Int) < 33 := by omega
    obtain ⟨b, hc⟩ := hb n (by omega)
    cases b
    · go_enter Tryd.func76, Tryd.ntmps76
      go_wp2
      go_ret
      exact ⟨0, rfl, .inl rfl, rfl⟩
    · go_enter Tryd.func76, Tryd.ntmps76
      go_wp2
      go_ret
      exact ⟨1, rfl, .inr rfl, rfl⟩

theorem take_all {s : ByteArray} {k : Nat} (h : k < s.size) (f : UInt8 → Bool) : (s.data.toList.take (k + 1)).all f = ((s.data.toList.take k).all f && f s[k]) := by
  have e : s.data.toList.take (k + 1) = s.data.toList.take k ++ [s[k]] := by
    rw [List.take_succ_eq_append_getElem (by simpa using h)]; rfl
  rw [e]
  simp [List.all_append]
theorem all_false {s : ByteArray} {k : Nat} (h : k < s.size) (f : UInt8 → Bool) (hf : f s[k] = false) : s.data.toList.all f = false := by
  rw [List.all_eq_false]
  exact ⟨s[k], by have : s[k] = s.data.toList[k]'(by simpa using h) := rfl; rw [this]; exact List.getElem_mem _, by simp [hf]⟩

set_option maxHeartbeats 1000000 in
theorem symbol_calls {w : World} (hb : Blanks w) (s : ByteArray) (hs : s.size ≤ maxLen) : Calls Tryd.prog 58 #[.string s] w fun e w' => e = .returned (.bool (symOk s)) ∧ w' = w := by
  unfold maxLen at hs
  have Hb := Lib.hid hb
  clear hb
  go_enter Tryd.func58, Tryd.ntmps58
  go_wp2
  go_loop [6] (fun v => ∃ k : Nat, k ≤ s.size ∧ v = .int .i64 k ∧ Hid ((s.data.toList.take k).all byteOk = true)) (fun v => s.size - (intOf v).toNat)
  case atStart => exact ⟨0, Nat.zero_le _, rfl, rfl⟩
  case round =>
    obtain ⟨k, hk, rfl, HA⟩ := hrel
    by_cases hlt : k < s.size
    · have ht := take_all hlt byteOk
      have hall := all_false hlt byteOk
      have hbl : s[k].toNat ≤ 255 := by have := s[k].toNat_lt; omega
      by_cases hw : 33 ≤ s[k].toNat ∧ s[k].toNat ≤ 126
      · obtain ⟨hw1, hw2⟩ := hw
        by_cases hd : s[k].toNat = 36
        · have Hf := Lib.hid (show symOk s = false by
            unfold symOk
            rw [hall (by
              have : s[k] = 36 := UInt8.toNat_inj.1 hd
              rw [this]; rfl)]
            rfl)
          have d1 : (((s[k].toNat : Int)) == 36) = true := by rw [hd]; rfl
          clear ht hall hd
          go_wp2_with (go_at_call 76; refine (kind_in _ hw1 hw2).mono ?_; rintro e w' ⟨rfl, rfl⟩)
          go_ret
          exact ⟨by rw [Hf.out]; rfl, rfl⟩
        · have Ht := Lib.hid (show (s.data.toList.take (k + 1)).all byteOk = true by
            rw [ht, HA.out]
            have h1 : (33 : UInt8) ≤ s[k] := by rw [UInt8.le_iff_toNat_le]; exact hw1
            have h2 : s[k] ≤ (126 : UInt8) := by rw [UInt8.le_iff_toNat_le]; exact hw2
            have h3 : s[k] ≠ 36 := fun e => hd (by rw [e]; rfl)
            simp [byteOk, h1, h2, h3])
          have d1 : (((s[k].toNat : Int)) == 36) = false := by rw [beq_eq_false_iff_ne]; omega
          clear ht hall hd
          go_wp2_with (go_at_call 76; refine (kind_in _ hw1 hw2).mono ?_; rintro e w' ⟨rfl, rfl⟩)
          go_round
          case rel => exact ⟨k + 1, by omega, by go_num, Ht⟩
          case measure => simp [intOf]; omega
      · have Hf := Lib.hid (show symOk s = false by
          unfold symOk
          rw [hall (by
            unfold byteOk
            by_cases h1 : 33 ≤ s[k].toNat
            · have h2 : ¬ s[k] ≤ (126 : UInt8) := by rw [UInt8.le_iff_toNat_le]; intro h; exact hw ⟨h1, h⟩
              simp [h2]
            · have h2 : ¬ (33 : UInt8) ≤ s[k] := by rw [UInt8.le_iff_toNat_le]; exact h1
              simp [h2])]
          rfl)
        clear ht hall
        go_wp2_with (go_at_call 76; refine (kind_out Hb.out _ hbl hw).mono ?_; rintro e w' ⟨kk, rfl, (rfl | rfl), rfl⟩)
        all_goals go_ret
        all_goals exact ⟨by rw [Hf.out]; rfl, rfl⟩
    · have HA' := HA.out
      rw [List.take_of_length_le (by simp; omega)] at HA'
      have H1 := Lib.hid (show s.toList = [] → symOk s = false by
        intro h
        rw [ByteArray.toList_eq] at h
        have : s.size = 0 := by rw [← ByteArray.size_data, ← Array.length_toList, h]; rfl
        unfold symOk
        rw [this]
        simp)
      have H2 := Lib.hid (show ¬ s.toList = [] → symOk s = (!s.toList.isEmpty && decide ((s.size : Int) ≤ 32)) by
        intro h
        have he : s.toList.isEmpty = false := by simpa using h
        have : 1 ≤ s.size := by
          rw [ByteArray.toList_eq] at h
          rw [← ByteArray.size_data, ← Array.length_toList]
          cases hl : s.data.toList with
          | nil => exact absurd hl h
          | cons x l => simp
        unfold symOk
        rw [HA', he, decide_eq_true this]
        simp
        omega)
      clear HA'
      go_wp2
      · have h := H1.out (by assumption)
        go_ret
        exact ⟨by rw [h]; rfl, rfl⟩
      · have h := H2.out (by assumption)
        go_ret
        exact ⟨by rw [h]; rfl, rfl⟩
end Go.Proofs.YtpoojimmponklaaDoor.SymScan

namespace Go.Proofs.YtpoojimmponklaaDoor.SymConst
open Go.RowKit Go.Maps Go.Proofs.YtpoojimmponklaaDoor.SymTab Go.Proofs.YtpoojimmponklaaDoor.SymHeap Go.Proofs.YtpoojimmponklaaDoor.SymReads Go.Proofs.YtpoojimmponklaaDoor.SymAdd Go.Proofs.YtpoojimmponklaaDoor.SymScan
open Go.Proofs.YtpoojimmponklaaDoorW.PrintWords (Aside0 Drawn0 own_move)

theorem steps_refl {w : World} {p g : Nat} {T : Tab} {q : Parts} (h : Holds w p g T q) : TabSteps w w p g T q := ⟨q, h, fun _ hk => .inl hk, Turns.refl _ _⟩

/-- add where the table is full. -/
theorem add_full {w : World} {p g : Nat} {T : Tab} {q : Parts} (h : Holds w p g T q) (s : ByteArray) (b : Bool) (hfull : 512 ≤ T.syms.length) :
    Calls Tryd.prog 59 #[.pointer (some ⟨p, 0, none⟩), .string s, .bool b] w fun e w' => e = .returned (.tuple #[.int .i64 0, .int .i64 22]) ∧ w' = w := by
  obtain ⟨vs, bn, ba, vc, bt, vl, vals⟩ := q
  obtain ⟨A, cap, e, _⟩ := row_slice h.syms
  simp only at e
  subst e
  have c0 := (cell_at h.cells 0).1
  simp only [List.getElem?_toArray, List.getElem?_cons_zero] at c0
  have hlen : 512 ≤ ((T.syms.length : Int)) := by omega
  clear h
  go_enter Tryd.func59, Tryd.ntmps59
  go_wp2
  go_ret2
  exact ⟨rfl, rfl⟩

/-- A map's block turned: the rest of the table stays. -/
theorem holds_act {w w2 : World} {p g g' : Nat} {T : Tab} {q : Parts} (h : Holds w p g T q) (hg2 : w.grownBy w2 (some q.ba)) {f : ByteArray → Option Nat} (hm : MapIs w2 q.ba g' f) (hg : g ≤ g') : Holds w2 p g' { T with act := f } q := by
  have hlt := h.lt
  have hty := tyOf_map h.active
  have all : ∀ k, k < w.heap.size → k ≠ q.ba → w2.heap[k]? = w.heap[k]? := fun k hk h1 => hg2.block k hk (by simpa using h1)
  have row : ∀ k t, k < w.heap.size → tyOf w k = some t → w2.heap[k]? = w.heap[k]? := fun k t hk ht => all k hk (ne_ty ht hty (by simp))
  refine ⟨(row p 88 (hlt p (.inl rfl)) h.tp).trans h.cells, own_move h.syms (fun k hk => row k 93 (h.syms.lt k hk).2 (tyOf_row h.syms hk)), ?_, hm, ?_, h.na, h.nt, h.at_,
    own_move h.scopes (fun k hk => row k 90 (h.scopes.lt k hk).2 (tyOf_row h.scopes hk)), h.vars.move (fun v hv k hk => row k 3 (hlt k (.inr (.inr (.inr (.inr (.inr (.inr (.inr ⟨v, hv, hk⟩)))))))) (h.tvars hv hk)), own_move h.labels (fun k hk => row k 9 (h.labels.lt k hk).2 (tyOf_row h.labels hk))⟩
  · exact (h.numbers.move (all q.bn (hlt q.bn (.inr (.inl rfl))) h.na)).more hg
  · exact (h.taken.move (all q.bt (hlt q.bt (by simp [Parts.has])) (Ne.symm h.at_))).more hg
theorem steps_act {w w1 w2 : World} {p g g' : Nat} {T T1 : Tab} {q : Parts} {q1 : Parts} (h1 : Holds w1 p g T1 q1) (hh : ∀ k, q1.has p k → q.has p k ∨ w.heap.size ≤ k) (ht : Turns (q.has p) w w1)
    (hg2 : w1.grownBy w2 (some q1.ba)) {f : ByteArray → Option Nat} (hm : MapIs w2 q1.ba g' f) (hg : g ≤ g') (hT : T = { T1 with act := f }) : TabSteps w w2 p g' T q := by
  subst hT
  refine ⟨q1, holds_act h1 hg2 hm hg, hh, ht.trans (Turns.of_grown (fp := q1.has p) hg2 (fun k hk => ?_)) hh⟩
  have := Option.some.inj hk
  subst this
  exact .inr (.inr (.inl rfl))

set_option maxHeartbeats 1000000 in
set_option maxRecDepth 100000 in
theorem const_calls {w : World} (hb : Blanks w) {p g : Nat} {T : Tab} {q : Parts} (h : Holds w p g T q) (s : ByteArray) (hs : s.size ≤ maxLen) (hg : g + 2 < maxLen) :
    Calls Tryd.prog 18 #[.pointer (some ⟨p, 0, none⟩), .string s] w fun e w' => e = .returned (.tuple #[.int .i64 ((constT T s).2.1 : Int), .int .i64 ((constT T s).2.2 : Int)]) ∧ TabSteps w w' p (g + 2) (constT T s).1 q := by
  have hsame : TabSteps w w p (g + 2) T q := steps_refl (h.more (by omega))
  have H := Aside0.mk h
  obtain ⟨vs, bn, ba, vc, bt, vl, vals⟩ := q
  obtain ⟨A, cap, e, _⟩ := row_slice h.scopes
  simp only at e
  subst e
  have c1 := (cell_at h.cells 1).1
  have c2 := (cell_at h.cells 2).1
  have c3 := (cell_at h.cells 3).1
  simp only [List.getElem?_toArray, List.getElem?_cons_zero, List.getElem?_cons_succ] at c1 c2 c3
  have hsame' := Lib.hid hsame
  have hl := h.numbers.look hs
  have Hb := Lib.hid hb
  clear h hsame hb
  by_cases hsc : 0 < T.scopes.length
  · have Hc := Lib.hid (show constT T s = (T, 0, 23) by unfold constT; rw [if_pos hsc])
    have d3 : decide ((0 : Int) < (T.scopes.length : Int)) = true := decide_eq_true (by omega)
    go_enter Tryd.func18, Tryd.ntmps18
    go_wp2_with fail
    go_ret2
    rw [Hc.out]
    exact ⟨rfl, hsame'.out⟩
  · have d3 : decide ((0 : Int) < (T.scopes.length : Int)) = false := decide_eq_false (by omega)
    have hsym := symbol_calls Hb.out s hs
    cases hok : symOk s with
    | false =>
      have Hc := Lib.hid (show constT T s = (T, 0, 21) by unfold constT; rw [if_neg hsc, if_pos hok])
      rw [hok] at hsym
      clear hok
      go_enter Tryd.func18, Tryd.ntmps18
      go_wp2_with (go_at_call 58; refine hsym.mono ?_; rintro e w' ⟨rfl, rfl⟩)
      go_ret2
      rw [Hc.out]
      exact ⟨rfl, hsame'.out⟩
    | true =>
      rw [hok] at hsym
      have Hok := Lib.hid hok
      clear hok
      cases hi : idx T.syms s with
      | some n =>
        have Hc := Lib.hid (show constT T s = (T, 0, 20) by unfold constT; rw [if_neg hsc, Hok.out, hi]; rfl)
        rw [hi] at hl
        clear hi
        go_enter Tryd.func18, Tryd.ntmps18
        go_wp2_with (go_at_call 58; refine hsym.mono ?_; rintro e w' ⟨rfl, rfl⟩)
        go_ret2
        rw [Hc.out]
        exact ⟨rfl, hsame'.out⟩
      | none =>
        have Hi := Lib.hid hi
        rw [hi] at hl
        clear hi
        by_cases hf : 512 ≤ T.syms.length
        · have Hc := Lib.hid (show constT T s = (T, 0, 22) by unfold constT; rw [if_neg hsc, Hok.out, Hi.out]; simp [hf])
          go_enter Tryd.func18, Tryd.ntmps18
          go_wp2_with (first | (go_at_call 58; refine hsym.mono ?_; rintro e w' ⟨rfl, rfl⟩) | (go_at_call 59; refine (add_full H.out s false hf).mono ?_; rintro e w' ⟨rfl, rfl⟩))
          go_ret2
          rw [Hc.out]
          exact ⟨rfl, hsame'.out⟩
        · have hs32 : s.size ≤ 32 := by
            have := Hok.out
            unfold symOk at this
            simp only [Bool.and_eq_true, decide_eq_true_eq] at this
            exact this.2
          have Hc := Lib.hid (show constT T s = ({ added T s false with act := upd T.act s T.syms.length }, T.syms.length, 0) by unfold constT; rw [if_neg hsc, Hok.out, Hi.out]; simp [hf])
          go_enter Tryd.func18, Tryd.ntmps18
          go_wp2_with (go_at_call 58; refine hsym.mono ?_; rintro e w' ⟨rfl, rfl⟩)
          refine (add_calls H.out s false hs32 Hi.out (by omega) (by omega)).mono ?_
          rintro e w1 ⟨rfl, ⟨q1, hq1, hh1, ht1⟩⟩
          have e2 := (cell_at hq1.cells 2).1
          simp only [List.getElem?_toArray, List.getElem?_cons_zero, List.getElem?_cons_succ] at e2
          have Hq1 := Aside0.mk hq1
          have Hh1 := Aside0.mk hh1
          have Ht1 := Aside0.mk ht1
          clear hq1 hh1 ht1 c1 c2 c3 hl
          go_wp2_with (at_mapUpdate; refine wp_store rfl _ _ _ rfl rfl rfl rfl Hq1.out.active hs (by omega) (by omega) ?_; intro w2 hm2 hg2)
          go_ret2
          rw [Hc.out]
          exact ⟨rfl, steps_act Hq1.out Hh1.out Ht1.out hg2 hm2 (by omega) rfl⟩
end Go.Proofs.YtpoojimmponklaaDoor.SymConst

namespace Go.Proofs.YtpoojimmponklaaDoor.SymPut
open Go.RowKit Go.Maps Go.Proofs.YtpoojimmponklaaDoor.SymTab Go.Proofs.YtpoojimmponklaaDoor.SymHeap Go.Proofs.YtpoojimmponklaaDoor.SymReads
open Go.Proofs.YtpoojimmponklaaDoorW.PrintWords (own_move)

def numRow (xs : List Nat) : List Value := xs.map fun (k : Nat) => Value.int .i64 (k : Int)
theorem vars_split {w : World} {us : List Value} {v : Value} {ls : List (List Nat)} {xs : List Nat} (h : Vars w (us ++ [v]) (ls ++ [xs])) :
    Vars w us ls ∧ w.ownsRow 0 3 1 v xs.length (numRow xs) ∧ ∀ u, u ∈ us → ∀ k, u.ownBlock = some k → v.ownBlock ≠ some k := by
  obtain ⟨h1, h2, h3⟩ := h
  have hl : us.length = ls.length := by simpa using h1
  rw [List.pairwise_append] at h3
  refine ⟨⟨hl, fun j u ys hu hy => ?_, h3.1⟩, ?_, fun u hu k hk => h3.2.2 u hu v (by simp) k hk⟩
  · have hj := (List.getElem?_eq_some_iff.1 hu).1
    exact h2 j u ys (by rw [List.getElem?_append_left hj]; exact hu) (by rw [List.getElem?_append_left (by omega)]; exact hy)
  · exact h2 us.length v xs (by simp) (by rw [hl]; simp)
theorem vars_join {w : World} {us : List Value} {v : Value} {ls : List (List Nat)} {xs : List Nat} (h : Vars w us ls) (hv : w.ownsRow 0 3 1 v xs.length (numRow xs)) (hd : ∀ u, u ∈ us → ∀ k, u.ownBlock = some k → v.ownBlock ≠ some k) : Vars w (us ++ [v]) (ls ++ [xs]) := by
  obtain ⟨h1, h2, h3⟩ := h
  refine ⟨by simp [h1], fun j u ys hu hy => ?_, ?_⟩
  · rw [List.getElem?_append] at hu hy
    split at hu
    · rename_i hj
      rw [if_pos (by omega)] at hy
      exact h2 j u ys hu hy
    · rename_i hj
      rw [if_neg (by omega)] at hy
      have e0 : j - us.length = 0 := by
        have := (List.getElem?_eq_some_iff.1 hu).1
        simpa using this
      have e1 : j - ls.length = 0 := by omega
      rw [e0] at hu
      rw [e1] at hy
      have hu' : u = v := by simpa using hu.symm
      have hy' : ys = xs := by simpa using hy.symm
      subst hu' hy'
      exact hv
  · rw [List.pairwise_append]
    refine ⟨h3, by simp, fun u hu x hx k hk => ?_⟩
    simp only [List.mem_singleton] at hx
    subst hx
    exact hd u hu k hk

theorem put_steps {w2 w3 : World} {p g : Nat} {T : Tab} {q : Parts} (h : Holds w2 p g T q) {ls : List (List Nat)} {xs : List Nat} (hT : T.scopes = ls ++ [xs]) {us : List Value} {v : Value} (hq : q.vals = us ++ [v])
    {sb cap gg cap4 : Nat} (hvc : q.vc = .slice (some ⟨sb, 0, none⟩) T.scopes.length cap) {n : Nat} {o : Obj}
    (hown : w3.ownsRow 0 3 1 (.slice (some ⟨gg, 0, none⟩) (xs.length + 1) cap4) (xs.length + 1) (numRow xs ++ [.int .i64 (n : Int)])) (hgrow : (w2.alloc o).drew.grownBy w3 v.ownBlock) (hat : v.ownBlock = some gg ∨ gg = w2.heap.size + 1) :
    TabSteps w2 (w3.setCell ⟨sb, T.scopes.length - 1, none⟩ (.slice (some ⟨gg, 0, none⟩) (xs.length + 1) cap4)) p g { T with scopes := addLast T.scopes n } q := by
  obtain ⟨vs, bn, ba, vc, bt, vl, vals⟩ := q
  simp only at hq hvc
  subst hq hvc
  have hv := h.vars
  rw [hT] at hv
  obtain ⟨hv1, hv2, hv3⟩ := vars_split hv
  have hlt := h.lt
  have hll : us.length = ls.length := hv1.1
  have hm : T.scopes.length - 1 = ls.length := by rw [hT]; simp
  have htsb : tyOf w2 sb = some 90 := tyOf_row h.scopes rfl
  have hsl : sb < w2.heap.size := (h.scopes.lt sb rfl).2
  have hg3 : ∀ k, k < w2.heap.size → v.ownBlock ≠ some k → w3.heap[k]? = w2.heap[k]? := fun k hk hn =>
    (hgrow.block k (by simp; omega) (Ne.symm hn)).trans ((World.grownBy_alloc w2 o none).block k hk (by simp))
  have hvt : ∀ k, v.ownBlock = some k → tyOf w2 k = some 3 := fun k hk => tyOf_row hv2 hk
  have hg3' : ∀ k, k < w2.heap.size → tyOf w2 k ≠ some 3 → w3.heap[k]? = w2.heap[k]? := fun k hk hn => hg3 k hk (fun e => hn (hvt k e))
  obtain ⟨nv, hnv⟩ : ∃ nv, nv = Value.slice (some ⟨gg, 0, none⟩) (xs.length + 1) cap4 := ⟨_, rfl⟩
  rw [← hnv] at hown ⊢
  have hnb : nv.ownBlock = some gg := by rw [hnv]; rfl
  have step : ∀ k, k ≠ sb → (w3.setCell ⟨sb, T.scopes.length - 1, none⟩ nv).heap[k]? = w3.heap[k]? := fun k h1 => Below.heap_setCell w3 ⟨sb, T.scopes.length - 1, none⟩ _ k h1
  have row : ∀ k t, k < w2.heap.size → tyOf w2 k = t → t ≠ some 3 → t ≠ some 90 → (w3.setCell ⟨sb, T.scopes.length - 1, none⟩ nv).heap[k]? = w2.heap[k]? := fun k t hk ht h1 h2 =>
    (step k (ne_ty ht htsb h2)).trans (hg3' k hk (by rw [ht]; exact h1))
  have hsb3 : w3.heap[sb]? = w2.heap[sb]? := hg3' sb hsl (by rw [htsb]; decide)
  have hgt : tyOf w3 gg = some 3 := tyOf_row hown hnb
  have hgsb : gg ≠ sb := ne_ty hgt ((tyOf_same hsb3).trans htsb) (by decide)
  refine ⟨⟨vs, bn, ba, .slice (some ⟨sb, 0, none⟩) T.scopes.length cap, bt, vl, us ++ [nv]⟩, ⟨?_, ?_, ?_, ?_, ?_, h.na, h.nt, h.at_, ?_, ?_, ?_⟩, ?_, ?_⟩
  · exact (row p _ (hlt p (.inl rfl)) h.tp (by decide) (by decide)).trans h.cells
  · exact own_move h.syms (fun k hk => row k _ (h.syms.lt k hk).2 (tyOf_row h.syms hk) (by decide) (by decide))
  · exact h.numbers.move (row bn _ (hlt bn (by simp [Parts.has])) (tyOf_map h.numbers) (by decide) (by decide))
  · exact h.active.move (row ba _ (hlt ba (by simp [Parts.has])) (tyOf_map h.active) (by decide) (by decide))
  · exact h.taken.move (row bt _ (hlt bt (by simp [Parts.has])) (tyOf_map h.taken) (by decide) (by decide))
  · show World.ownsRow _ _ _ _ _ (addLast T.scopes n).length _
    rw [addLast_length]
    have hs := h.scopes
    refine ⟨by have := hs.1; simp at this ⊢; omega, .inr ?_⟩
    rcases hs.2 with ⟨e, _⟩ | ⟨g', cap', cur, e, hb, hgg, hn, hc, hsz, htk⟩
    · cases e
    · simp only [Value.slice.injEq, Option.some.injEq, Addr.mk.injEq, and_true, true_and] at e
      obtain ⟨rfl, rfl⟩ := e
      refine ⟨sb, cap, cur.setIfInBounds (T.scopes.length - 1) nv, rfl, hb, set_block (hsb3.trans hgg) _ _, hn, hc, by simpa using hsz, ?_⟩
      rw [Array.toList_setIfInBounds, List.take_set, htk, hm]
      have : ls.length = us.length := hll.symm
      rw [this]
      simp
  · show Vars _ _ (addLast T.scopes n)
    have ea : addLast T.scopes n = ls ++ [xs ++ [n]] := by rw [hT, addLast_snoc]
    rw [ea]
    refine vars_join (hv1.move (fun u hu k hk => ?_)) ?_ ?_
    · have hkt := (h.tvars (v := u) (by simp [hu]) hk)
      have hkl : k < w2.heap.size := hlt k (.inr (.inr (.inr (.inr (.inr (.inr (.inr ⟨u, by simp [hu], hk⟩)))))))
      exact (step k (ne_ty hkt htsb (by decide))).trans (hg3 k hkl (hv3 u hu k hk))
    · have e : numRow (xs ++ [n]) = numRow xs ++ [.int .i64 (n : Int)] := by simp [numRow]
      have e2 : (xs ++ [n]).length = xs.length + 1 := by simp
      rw [e2, e]
      exact own_move hown (fun k hk => step k (by rw [hnb] at hk; cases hk; exact hgsb))
    · intro u hu k hk e
      rw [hnb] at e
      cases e
      have hkl : gg < w2.heap.size := hlt gg (.inr (.inr (.inr (.inr (.inr (.inr (.inr ⟨u, by simp [hu], hk⟩)))))))
      rcases hat with e | e
      · exact hv3 u hu gg hk e
      · omega
  · exact own_move h.labels (fun k hk => row k _ (h.labels.lt k hk).2 (tyOf_row h.labels hk) (by decide) (by decide))
  · intro k hk
    rcases hk with hk | hk | hk | hk | hk | hk | hk | ⟨u, hu, hk⟩
    · exact .inl (.inl hk)
    · exact .inl (.inr (.inl hk))
    · exact .inl (.inr (.inr (.inl hk)))
    · exact .inl (.inr (.inr (.inr (.inl hk))))
    · exact .inl (.inr (.inr (.inr (.inr (.inl hk)))))
    · exact .inl (.inr (.inr (.inr (.inr (.inr (.inl hk))))))
    · exact .inl (.inr (.inr (.inr (.inr (.inr (.inr (.inl hk)))))))
    · rcases List.mem_append.1 hu with hu | hu
      · exact .inl (.inr (.inr (.inr (.inr (.inr (.inr (.inr ⟨u, by simp [hu], hk⟩)))))))
      · simp only [List.mem_singleton] at hu
        subst hu
        rw [hnb] at hk
        cases hk
        rcases hat with e | e
        · exact .inl (.inr (.inr (.inr (.inr (.inr (.inr (.inr ⟨v, by simp, e⟩)))))))
        · right; omega
  · refine Turns.trans (Turns.trans (Turns.alloc _ w2 o) (Turns.trans (Turns.drewN (fp := fun k => v.ownBlock = some k) (w2.alloc o) 1) (Turns.of_grown (fp := fun k => v.ownBlock = some k) hgrow (fun k hk => hk)) (fun _ hk => .inl hk)) ?_) (Turns.setCell (fp := fun k => k = sb) w3 ⟨sb, T.scopes.length - 1, none⟩ _ rfl) ?_
    · intro k hk
      exact .inl (.inr (.inr (.inr (.inr (.inr (.inr (.inr ⟨v, by simp, hk⟩)))))))
    · rintro k rfl
      exact .inl (.inr (.inr (.inr (.inr (.inr (.inl rfl))))))
end Go.Proofs.YtpoojimmponklaaDoor.SymPut

namespace Go.Proofs.YtpoojimmponklaaDoor.SymVar
open Go.RowKit Go.Maps Go.Proofs.YtpoojimmponklaaDoor.SymTab Go.Proofs.YtpoojimmponklaaDoor.SymHeap Go.Proofs.YtpoojimmponklaaDoor.SymReads Go.Proofs.YtpoojimmponklaaDoor.SymAdd Go.Proofs.YtpoojimmponklaaDoor.SymConst Go.Proofs.YtpoojimmponklaaDoor.SymScan Go.Proofs.YtpoojimmponklaaDoor.SymPut
open Go.Proofs.YtpoojimmponklaaDoorW.PrintWords (Aside0 Drawn0 own_move)
open Go.Proofs.YtpoojimmponklaaDoorW.PrintLast
set_option linter.unusedSimpArgs false
set_option linter.unusedVariables false

theorem info3 : (Tryd.prog.info? 3).map (fun i => (i.zero, i.size, i.bytes)) = some (some (.int .i64 0), 1, 8) := by kernel_rfl
theorem cell_far {w w3 : World} {a : Addr} (h : w3.heap[a.block]? = w.heap[a.block]?) : w3.cell? a = w.cell? a ∧ w3.frozen? a = w.frozen? a := by
  constructor
  · simp [World.cell?, h]
  · simp [World.frozen?, h]

theorem last_split {α : Type} {l : List α} (h : 0 < l.length) : ∃ a x, l = a ++ [x] := ⟨l.dropLast, l.getLast (by intro e; rw [e] at h; simp at h), (List.dropLast_concat_getLast _).symm⟩
/-- The innermost scope in memory. -/
theorem last_facts {w : World} {p g : Nat} {T : Tab} {q : Parts} (h : Holds w p g T q) (hs : 0 < T.scopes.length) :
    ∃ ls xs us v sb cap A3 cap3, T.scopes = ls ++ [xs] ∧ q.vals = us ++ [v] ∧ q.vc = .slice (some ⟨sb, 0, none⟩) T.scopes.length cap ∧ v = .slice A3 xs.length cap3 ∧
      w.cell? ⟨p, 3, none⟩ = some (.slice (some ⟨sb, 0, none⟩) T.scopes.length cap) ∧ w.cell? ⟨sb, T.scopes.length - 1, none⟩ = some (.slice A3 xs.length cap3) ∧ w.frozen? ⟨sb, T.scopes.length - 1, none⟩ = false ∧
      p < w.heap.size ∧ sb < w.heap.size ∧ v.ownBlock ≠ some p ∧ v.ownBlock ≠ some sb ∧ w.ownsRow 0 3 1 v xs.length (numRow xs) := by
  obtain ⟨ls, xs, hT⟩ := last_split hs
  have hvl := h.vars.1
  obtain ⟨us, v, hq⟩ := last_split (l := q.vals) (by rw [hvl]; exact hs)
  have hv := h.vars
  rw [hT, hq] at hv
  obtain ⟨hv1, hv2, hv3⟩ := vars_split hv
  obtain ⟨A3, cap3, e3, _⟩ := row_slice hv2
  obtain ⟨sb, cap, ec, _, hcell, hfz, cur, hcur⟩ := row_some h.scopes hs
  have htsb : tyOf w sb = some 90 := tyOf_cells hcur
  have hm : T.scopes.length - 1 = us.length := by rw [hT]; simp; exact hv1.1.symm
  refine ⟨ls, xs, us, v, sb, cap, A3, cap3, hT, hq, ec, e3, ?_, ?_, hfz _, h.lt p (.inl rfl), (Array.getElem?_eq_some_iff.1 hcur).1, fun e => ne_ty (tyOf_row hv2 e) h.tp (by decide) rfl, fun e => ne_ty (tyOf_row hv2 e) htsb (by decide) rfl, hv2⟩
  · rw [(cell_at h.cells 3).1, ← ec]
    rfl
  · rw [← e3]
    refine hcell _ _ ?_
    rw [hq, hm]
    simp

theorem nodup_le {l : List Nat} {n : Nat} (hd : l.Nodup) (h : ∀ x ∈ l, x < n) : l.length ≤ n := by
  induction n generalizing l with
  | zero =>
    cases l with
    | nil => simp
    | cons x l => exact absurd (h x (by simp)) (by omega)
  | succ n ih =>
    have h1 : (l.filter (fun x => decide (x < n))).length ≤ n := ih (hd.filter _) (fun x hx => by simpa using (List.mem_filter.1 hx).2)
    have h2 : l.length = (l.filter (fun x => decide (x < n))).length + (l.filter (fun x => !decide (x < n))).length := by
      rw [← List.length_append]
      exact (List.filter_append_perm _ l).length_eq.symm
    have h3 : (l.filter (fun x => !decide (x < n))).length ≤ 1 := by
      have hn : (l.filter (fun x => !decide (x < n))).Nodup := hd.filter _
      have ha : ∀ x ∈ l.filter (fun x => !decide (x < n)), x = n := fun x hx => by
        have h4 := List.mem_filter.1 hx
        have h5 := h x h4.1
        have h6 : ¬ x < n := by simpa using h4.2
        omega
      cases hl : l.filter (fun x => !decide (x < n)) with
      | nil => simp
      | cons a r =>
        cases r with
        | nil => simp
        | cons b r =>
          rw [hl] at hn ha
          have e1 := ha a (by simp)
          have e2 := ha b (by simp)
          subst e1
          simp [e2] at hn
    omega

set_option maxHeartbeats 4000000 in
set_option maxRecDepth 100000 in
theorem var_old_out {w : World} (hb : Blanks w) {p g : Nat} {T : Tab} {q : Parts} (h : Holds w p g T q) (s : ByteArray) (hs : s.size ≤ maxLen) (hg : g + 2 < maxLen) (hsym : symOk s = true) (hact : T.act s = none) (n : Nat) (hn : idx T.syms s = some n) (hn2 : n < 512) (hdeep : T.scopes.length ≤ 16) (hsc : T.scopes.length = 0) :
    Calls Tryd.prog 22 #[.pointer (some ⟨p, 0, none⟩), .string s] w fun e w' => e = .returned (.tuple #[.int .i64 (n : Int), .int .i64 0]) ∧ TabSteps w w' p (g + 2) (activate T s n) q := by
  have H := Aside0.mk h
  have c1 := (cell_at h.cells 1).1
  have c2 := (cell_at h.cells 2).1
  simp only [List.getElem?_toArray, List.getElem?_cons_zero, List.getElem?_cons_succ] at c1 c2
  have hl1 := h.numbers.look hs
  have hl2 := h.active.look hs
  rw [hn] at hl1
  rw [hact] at hl2
  simp only [num, Option.isSome_some, Option.isSome_none] at hl1 hl2
  have Hb := Lib.hid hb
  have hsy := symbol_calls Hb.out s hs
  rw [hsym] at hsy
  have Hn := Lib.hid hn
  have Hsym := Lib.hid hsym
  clear h hb hsym hact hn
  have Hsc := Lib.hid hsc
  clear hsc
  go_enter Tryd.func22, Tryd.ntmps22
  go_wp2_with (first
    | (go_at_call 58; refine hsy.mono ?_; rintro e w' ⟨rfl, hw'⟩; obtain rfl := hw'.symm)
    | (at_mapUpdate; refine wp_store (n := n) rfl _ _ _ rfl rfl rfl rfl H.out.active hs (by omega) (by omega) ?_; intro w2 hm2 hg2
       have h2 := holds_act H.out hg2 hm2 (by omega)
       have Ht2 := Aside0.mk (Turns.of_grown (fp := q.has p) hg2 (fun k hk => by have := Option.some.inj hk; subst this; exact .inr (.inr (.inl rfl))))
       obtain ⟨A3, cap3, e3', _⟩ := row_slice h2.scopes
       have e3 := (cell_at h2.cells 3).1
       simp only [List.getElem?_toArray, List.getElem?_cons_zero, List.getElem?_cons_succ, e3'] at e3
       replace e3 : w2.cell? ⟨p, 3, none⟩ = some (.slice A3 0 cap3) := by rw [e3]; exact congrArg (fun z => some (Value.slice A3 z cap3)) Hsc.out
       have H2 := Aside0.mk h2
       clear h2 hm2 hg2 e3' c1 c2 hl1 hl2))
  go_ret2
  refine ⟨rfl, ?_⟩
  have h2 := H2.out
  obtain ⟨q', a, b, c⟩ := steps_refl h2
  have ha : addLast T.scopes n = T.scopes := by have := Hsc.out; cases hl : T.scopes with | nil => rfl | cons x l => rw [hl] at this; simp at this
  have ht : activate T s n = { T with act := upd T.act s n } := by unfold activate; rw [show T.scopes = T.scopes from rfl, ha]
  rw [ht]
  refine ⟨q', a.more (by omega), fun k hk => ?_, ?_⟩
  · rcases b k hk with hk | hk
    · exact .inl hk
    · exact .inr (Nat.le_trans Ht2.out.size hk)
  · exact Turns.trans (Turns.refl (q.has p) w) (Turns.trans Ht2.out c (fun _ hk => .inl hk)) (fun k hk => .inl hk)

set_option maxHeartbeats 4000000 in
set_option maxRecDepth 100000 in
theorem var_old_in {w : World} (hb : Blanks w) {p g : Nat} {T : Tab} {q : Parts} (h : Holds w p g T q) (s : ByteArray) (hs : s.size ≤ maxLen) (hg : g + 2 < maxLen) (hsym : symOk s = true) (hact : T.act s = none) (n : Nat) (hn : idx T.syms s = some n) (hn2 : n < 512) (hdeep : T.scopes.length ≤ 16) (hsc : 0 < T.scopes.length) (hx : ∀ l ∈ T.scopes, l.length ≤ 512) :
    Calls Tryd.prog 22 #[.pointer (some ⟨p, 0, none⟩), .string s] w fun e w' => e = .returned (.tuple #[.int .i64 (n : Int), .int .i64 0]) ∧ TabSteps w w' p (g + 2) (activate T s n) q := by
  have H := Aside0.mk h
  have c1 := (cell_at h.cells 1).1
  have c2 := (cell_at h.cells 2).1
  simp only [List.getElem?_toArray, List.getElem?_cons_zero, List.getElem?_cons_succ] at c1 c2
  have hl1 := h.numbers.look hs
  have hl2 := h.active.look hs
  rw [hn] at hl1
  rw [hact] at hl2
  simp only [num, Option.isSome_some, Option.isSome_none] at hl1 hl2
  have Hb := Lib.hid hb
  have hsy := symbol_calls Hb.out s hs
  rw [hsym] at hsy
  have Hn := Lib.hid hn
  have Hsym := Lib.hid hsym
  clear h hb hsym hact hn
  have hsc' : (0 : Int) < (T.scopes.length : Int) := by omega
  have hd' : (T.scopes.length : Int) ≤ 16 := by omega
  go_enter Tryd.func22, Tryd.ntmps22
  go_wp2_with (first
    | (go_at_call 58; refine hsy.mono ?_; rintro e w' ⟨rfl, hw'⟩; obtain rfl := hw'.symm)
    | (at_mapUpdate; refine wp_store (n := n) rfl _ _ _ rfl rfl rfl rfl H.out.active hs (by omega) (by omega) ?_; intro w2 hm2 hg2
       have h2 := holds_act H.out hg2 hm2 (by omega)
       have Ht2 := Aside0.mk (Turns.of_grown (fp := q.has p) hg2 (fun k hk => by have := Option.some.inj hk; subst this; exact .inr (.inr (.inl rfl))))
       obtain ⟨ls, xs, us, v, sb, cap, A3, cap3, hT, hq, hvc, hv, e3, ev, fv, hpl2, hsl2, hne, hne2, ho2⟩ := last_facts h2 hsc
       subst hv
       have hxs : xs.length ≤ 512 := hx xs (by have hT' : T.scopes = ls ++ [xs] := hT; rw [hT']; simp)
       have HT := Aside0.mk hT
       have Hq := Aside0.mk hq
       have Hvc := Aside0.mk hvc
       have H2 := Aside0.mk h2
       have Ho2 := Aside0.mk ho2
       obtain ⟨i0, hi, hz0, hz1, hz2⟩ := info_parts info3
       have HI := Aside0.mk hi
       have Hz0 := Aside0.mk hz0
       have Hz1 := Aside0.mk hz1
       have Hz2 := Aside0.mk hz2
       have Hne := Aside0.mk hne
       have Hne2 := Aside0.mk hne2
       clear hi hz0 hz1 hz2 hT hq hvc h2 ho2 hne hne2 hm2 hg2 c1 c2 hl1 hl2
       have hk1 : (0 : Int) ≤ (T.scopes.length : Int) - 1 := by omega
       have hk1' : (1 : Int) ≤ (T.scopes.length : Int) := by omega
       have hk2 : (T.scopes.length : Int) - 1 < (T.scopes.length : Int) := by omega
       have hk3 : IntKind.i64.wrap ((T.scopes.length : Int) - 1) = (T.scopes.length : Int) - 1 := IntWalk.i64_in _ (by omega)
       have hk4 : ((T.scopes.length : Int) - 1).toNat = T.scopes.length - 1 := by omega
       replace e3 : w2.cell? ⟨p, 3, none⟩ = some (.slice (some ⟨sb, 0, none⟩) T.scopes.length cap) := e3
       replace ev : w2.cell? ⟨sb, T.scopes.length - 1, none⟩ = some (.slice A3 xs.length cap3) := ev
       replace fv : w2.frozen? ⟨sb, T.scopes.length - 1, none⟩ = false := fv))
  refine start_ (n := 21) (S := fun w' => w'.cell? ⟨p, 3, none⟩ = some (.slice (some ⟨sb, 0, none⟩) T.scopes.length cap) ∧ w'.cell? ⟨sb, T.scopes.length - 1, none⟩ = some (.slice A3 xs.length cap3)) (ds := [20]) #[false, false, false, false, false, false, false, false, false, false, false, false, false, false, false, false, false, false, false, false, false] (by kernel_rfl) rfl rfl ⟨e3, ev⟩ (fun hHeld => ?_)
  refine pure_ (i := 0) (N := some 58) (v := ?_) (a' := ?_) #[true, false, false, false, false, false, false, false, false, false, false, false, false, false, false, false, false, false, false, false, false] rfl rfl (by kernel_rfl) (fun _ _ _ h => h) (Or.inl ⟨by rfl, ?_⟩) ?_ ?_
  rotate_left
  · intro w'
    go_simp
    with_reducible rfl
  rotate_left
  · simp only [Act.put, List.setIfInBounds_toArray, List.set_cons_zero, List.set_cons_succ, i64_w, i32_w]
    rfl
  refine pure_ (i := 1) (N := some 59) (v := ?_) (a' := ?_) #[true, true, false, false, false, false, false, false, false, false, false, false, false, false, false, false, false, false, false, false, false] rfl rfl (by kernel_rfl) (fun _ _ _ h => h) (Or.inl ⟨by rfl, ?_⟩) ?_ ?_
  rotate_left
  · intro w'
    go_simp
    with_reducible rfl
  rotate_left
  · simp only [Act.put, List.setIfInBounds_toArray, List.set_cons_zero, List.set_cons_succ, i64_w, i32_w]
    rfl
  refine pure_ (i := 2) (N := some 60) (v := ?_) (a' := ?_) #[true, true, true, false, false, false, false, false, false, false, false, false, false, false, false, false, false, false, false, false, false] rfl rfl (by kernel_rfl) (fun _ _ _ h => h) (Or.inl ⟨by rfl, ?_⟩) ?_ ?_
  rotate_left
  · intro w'
    go_simp
    with_reducible rfl
  rotate_left
  · simp only [Act.put, List.setIfInBounds_toArray, List.set_cons_zero, List.set_cons_succ, i64_w, i32_w]
    rfl
  refine take_ (i := 3) (N := some 61) (v := ?_) (a' := ?_) #[true, true, true, true, false, false, false, false, false, false, false, false, false, false, false, false, false, false, false, false, false] rfl rfl (by kernel_rfl) (fun _ _ _ h => h) (Or.inl ⟨by rfl, ?_⟩) hHeld ?_ ?_
  rotate_left
  · rintro w' ⟨s0, s1⟩
    go_simp
    with_reducible rfl
  rotate_left
  · simp only [Act.put, List.setIfInBounds_toArray, List.set_cons_zero, List.set_cons_succ, i64_w, i32_w]
    rfl
  refine pure_ (i := 4) (N := some 62) (v := ?_) (a' := ?_) #[true, true, true, true, true, false, false, false, false, false, false, false, false, false, false, false, false, false, false, false, false] rfl rfl (by kernel_rfl) (fun _ _ _ h => h) (Or.inl ⟨by rfl, ?_⟩) ?_ ?_
  rotate_left
  · intro w'
    go_simp
    with_reducible rfl
  rotate_left
  · simp only [Act.put, List.setIfInBounds_toArray, List.set_cons_zero, List.set_cons_succ, i64_w, i32_w]
    rfl
  refine pure_ (i := 5) (N := some 63) (v := ?_) (a' := ?_) #[true, true, true, true, true, true, false, false, false, false, false, false, false, false, false, false, false, false, false, false, false] rfl rfl (by kernel_rfl) (fun _ _ _ h => h) (Or.inl ⟨by rfl, ?_⟩) ?_ ?_
  rotate_left
  · intro w'
    go_simp
    with_reducible rfl
  rotate_left
  · simp only [Act.put, List.setIfInBounds_toArray, List.set_cons_zero, List.set_cons_succ, i64_w, i32_w]
    rfl
  refine pure_ (i := 6) (N := some 64) (v := ?_) (a' := ?_) #[true, true, true, true, true, true, true, false, false, false, false, false, false, false, false, false, false, false, false, false, false] rfl rfl (by kernel_rfl) (fun _ _ _ h => h) (Or.inl ⟨by rfl, ?_⟩) ?_ ?_
  rotate_left
  · intro w'
    go_simp
    with_reducible rfl
  rotate_left
  · simp only [Act.put, List.setIfInBounds_toArray, List.set_cons_zero, List.set_cons_succ, i64_w, i32_w]
    rfl
  refine pure_ (i := 7) (N := some 65) (v := ?_) (a' := ?_) #[true, true, true, true, true, true, true, true, false, false, false, false, false, false, false, false, false, false, false, false, false] rfl rfl (by kernel_rfl) (fun _ _ _ h => h) (Or.inl ⟨by rfl, ?_⟩) ?_ ?_
  rotate_left
  · intro w'
    go_simp
    with_reducible rfl
  rotate_left
  · simp only [Act.put, List.setIfInBounds_toArray, List.set_cons_zero, List.set_cons_succ, i64_w, i32_w]
    rfl
  refine pure_ (i := 8) (N := some 66) (v := ?_) (a' := ?_) #[true, true, true, true, true, true, true, true, true, false, false, false, false, false, false, false, false, false, false, false, false] rfl rfl (by kernel_rfl) (fun _ _ _ h => h) (Or.inl ⟨by rfl, ?_⟩) ?_ ?_
  rotate_left
  · intro w'
    go_simp
    with_reducible rfl
  rotate_left
  · simp only [Act.put, List.setIfInBounds_toArray, List.set_cons_zero, List.set_cons_succ, i64_w, i32_w]
    rfl
  refine take_ (i := 9) (N := some 67) (v := ?_) (a' := ?_) #[true, true, true, true, true, true, true, true, true, true, false, false, false, false, false, false, false, false, false, false, false] rfl rfl (by kernel_rfl) (fun _ _ _ h => h) (Or.inl ⟨by rfl, ?_⟩) hHeld ?_ ?_
  rotate_left
  · rintro w' ⟨s0, s1⟩
    go_simp
    with_reducible rfl
  rotate_left
  · simp only [Act.put, List.setIfInBounds_toArray, List.set_cons_zero, List.set_cons_succ, i64_w, i32_w]
    rfl
  refine pure_ (i := 10) (N := some 68) (v := ?_) (a' := ?_) #[true, true, true, true, true, true, true, true, true, true, true, false, false, false, false, false, false, false, false, false, false] rfl rfl (by kernel_rfl) (fun _ _ _ h => h) (Or.inl ⟨by rfl, ?_⟩) ?_ ?_
  rotate_left
  · intro w'
    go_simp
    with_reducible rfl
  rotate_left
  · simp only [Act.put, List.setIfInBounds_toArray, List.set_cons_zero, List.set_cons_succ, i64_w, i32_w]
    rfl
  refine pure_ (i := 11) (N := some 69) (v := ?_) (a' := ?_) #[true, true, true, true, true, true, true, true, true, true, true, true, false, false, false, false, false, false, false, false, false] rfl rfl (by kernel_rfl) (fun _ _ _ h => h) (Or.inl ⟨by rfl, ?_⟩) ?_ ?_
  rotate_left
  · intro w'
    go_simp
    with_reducible rfl
  rotate_left
  · simp only [Act.put, List.setIfInBounds_toArray, List.set_cons_zero, List.set_cons_succ, i64_w, i32_w]
    rfl
  refine pure_ (i := 12) (N := some 70) (v := ?_) (a' := ?_) #[true, true, true, true, true, true, true, true, true, true, true, true, true, false, false, false, false, false, false, false, false] rfl rfl (by kernel_rfl) (fun _ _ _ h => h) (Or.inl ⟨by rfl, ?_⟩) ?_ ?_
  rotate_left
  · intro w'
    go_simp
    with_reducible rfl
  rotate_left
  · simp only [Act.put, List.setIfInBounds_toArray, List.set_cons_zero, List.set_cons_succ, i64_w, i32_w]
    rfl
  refine pure_ (i := 13) (N := some 71) (v := ?_) (a' := ?_) #[true, true, true, true, true, true, true, true, true, true, true, true, true, true, false, false, false, false, false, false, false] rfl rfl (by kernel_rfl) (fun _ _ _ h => h) (Or.inl ⟨by rfl, ?_⟩) ?_ ?_
  rotate_left
  · intro w'
    go_simp
    with_reducible rfl
  rotate_left
  · simp only [Act.put, List.setIfInBounds_toArray, List.set_cons_zero, List.set_cons_succ, i64_w, i32_w]
    rfl
  refine take_ (i := 14) (N := some 72) (v := ?_) (a' := ?_) #[true, true, true, true, true, true, true, true, true, true, true, true, true, true, true, false, false, false, false, false, false] rfl rfl (by kernel_rfl) (fun _ _ _ h => h) (Or.inl ⟨by rfl, ?_⟩) hHeld ?_ ?_
  rotate_left
  · rintro w' ⟨s0, s1⟩
    go_simp
    with_reducible rfl
  rotate_left
  · simp only [Act.put, List.setIfInBounds_toArray, List.set_cons_zero, List.set_cons_succ, i64_w, i32_w]
    rfl
  refine pure_ (i := 15) (N := some 73) (v := ?_) (a' := ?_) #[true, true, true, true, true, true, true, true, true, true, true, true, true, true, true, true, false, false, false, false, false] rfl rfl (by kernel_rfl) (fun _ _ _ h => h) (Or.inl ⟨by rfl, ?_⟩) ?_ ?_
  rotate_left
  · intro w'
    go_simp
    with_reducible rfl
  rotate_left
  · simp only [Act.put, List.setIfInBounds_toArray, List.set_cons_zero, List.set_cons_succ, i64_w, i32_w]
    rfl
  refine one_ (i := 16) (N := some 74) #[true, true, true, true, true, true, true, true, true, true, true, true, true, true, true, true, true, false, false, false, false] rfl rfl (by kernel_rfl) (by decide) (fun K hK => ?_)
  refine value_ (w1 := ?_) (v := ?_) (by rfl) rfl ?_ ?_
  rotate_left
  rotate_left
  · go_simp
    refine ⟨?_, ?_⟩ <;> rfl
  refine hK.out _ _ ⟨?_, ?_⟩ (fun hHeld => ?_)
  · exact (cell_far (a := ⟨p, 3, none⟩) (World.grownBy_alloc w2 (.cells #[.int .i64 n] 3) none |>.block p hpl2 (by simp))).1.trans e3
  · exact (cell_far (a := ⟨sb, T.scopes.length - 1, none⟩) (World.grownBy_alloc w2 (.cells #[.int .i64 n] 3) none |>.block sb hsl2 (by simp))).1.trans ev
  clear hK K
  refine one_ (i := 17) (N := some 75) #[true, true, true, true, true, true, true, true, true, true, true, true, true, true, true, true, true, true, false, false, false] rfl rfl (by kernel_rfl) (by decide) (fun K hK => ?_)
  refine step_append_lies _ rfl _ _ _ rfl 0 3 i0 _ 1 8 Tryd.underlying57 HI.out Hz0.out Hz1.out Hz2.out rfl (by omega) _ xs.length _ rfl ((Ho2.out.alloc _).drew)
    ⟨w2.heap.size, 0, none⟩ 1 1 [.int .i64 n] rfl rfl (World.news_of_block (cs := #[.int .i64 n]) (t := 3) (fr := (0, 0)) (heap_alloc_new w2 _)) (by simp [Value.oneCell'])
    (by omega) (by unfold maxLen; omega) (by omega) (Nat.zero_le _) (w2.heap.size + 1) (by simp) ?_
  intro gg cap4 w3 hown3 hgrow hat hlt
  have hc3 := cell_far (a := ⟨sb, T.scopes.length - 1, none⟩) ((hgrow.block sb (by simp; omega) (Ne.symm Hne2.out)).trans (World.grownBy_alloc w2 (.cells #[.int .i64 n] 3) none |>.block sb hsl2 (by simp)))
  have hcp := cell_far (a := ⟨p, 3, none⟩) ((hgrow.block p (by simp; omega) (Ne.symm Hne.out)).trans (World.grownBy_alloc w2 (.cells #[.int .i64 n] 3) none |>.block p hpl2 (by simp)))
  have f3 := hc3.2.trans fv
  have e3' := hc3.1.trans ev
  have Hown3 := Aside0.mk hown3
  have Hgrow := Aside0.mk hgrow
  have Hat := Aside0.mk hat
  clear hown3 hgrow hat
  refine hK.out _ _ ⟨hcp.1.trans e3, e3'⟩ (fun hHeld => ?_)
  clear hK K hc3 hcp
  refine pure_ (i := 18) (N := some 76) (v := ?_) (a' := ?_) #[true, true, true, true, true, true, true, true, true, true, true, true, true, true, true, true, true, true, true, false, false] rfl rfl (by kernel_rfl) (fun _ _ _ h => h) (Or.inl ⟨by rfl, ?_⟩) ?_ ?_
  rotate_left
  · intro w'
    go_simp
    with_reducible rfl
  rotate_left
  · simp only [Act.put, List.setIfInBounds_toArray, List.set_cons_zero, List.set_cons_succ, i64_w, i32_w]
    rfl
  refine pure_ (i := 19) (N := some 77) (v := ?_) (a' := ?_) #[true, true, true, true, true, true, true, true, true, true, true, true, true, true, true, true, true, true, true, true, false] rfl rfl (by kernel_rfl) (fun _ _ _ h => h) (Or.inl ⟨by rfl, ?_⟩) ?_ ?_
  rotate_left
  · intro w'
    go_simp
    with_reducible rfl
  rotate_left
  · simp only [Act.put, List.setIfInBounds_toArray, List.set_cons_zero, List.set_cons_succ, i64_w, i32_w]
    rfl
  refine last_ (i := 20) (N := none) #[true, true, true, true, true, true, true, true, true, true, true, true, true, true, true, true, true, true, true, true, true] rfl rfl (by kernel_rfl) (by decide) (fun K hK => ?_)
  refine skip_ (w1 := ?_) (by rfl) rfl ?_ ?_
  rotate_left
  · go_simp
    rfl
  refine hK.out _ _ ?_
  clear hK K
  refine done_ (by kernel_rfl) ?_
  go_wp2_with fail
  go_ret2
  refine ⟨rfl, ?_⟩
  have h2 := H2.out
  have hst := put_steps h2 HT.out Hq.out Hvc.out Hown3.out Hgrow.out Hat.out
  obtain ⟨q', a, b, c⟩ := hst
  refine ⟨q', a.more (by omega), fun k hk => ?_, ?_⟩
  · rcases b k hk with hk | hk
    · exact .inl hk
    · exact .inr (Nat.le_trans Ht2.out.size hk)
  · exact Turns.trans (Turns.refl (q.has p) w) (Turns.trans Ht2.out c (fun _ hk => .inl hk)) (fun k hk => .inl hk)

set_option maxHeartbeats 4000000 in
set_option maxRecDepth 100000 in
theorem var_new_out {w : World} (hb : Blanks w) {p g : Nat} {T : Tab} {q : Parts} (h : Holds w p g T q) (s : ByteArray) (hs : s.size ≤ maxLen) (hg : g + 2 < maxLen) (hsym : symOk s = true) (hact : T.act s = none) (hn : idx T.syms s = none) (hfew : T.syms.length < 512) (hdeep : T.scopes.length ≤ 16) (hsc : T.scopes.length = 0) :
    Calls Tryd.prog 22 #[.pointer (some ⟨p, 0, none⟩), .string s] w fun e w' => e = .returned (.tuple #[.int .i64 (T.syms.length : Int), .int .i64 0]) ∧ TabSteps w w' p (g + 2) (activate (added T s true) s T.syms.length) q := by
  have H := Aside0.mk h
  have c1 := (cell_at h.cells 1).1
  have c2 := (cell_at h.cells 2).1
  simp only [List.getElem?_toArray, List.getElem?_cons_zero, List.getElem?_cons_succ] at c1 c2
  have hl1 := h.numbers.look hs
  have hl2 := h.active.look hs
  rw [hn] at hl1
  rw [hact] at hl2
  simp only [num, Option.isSome_some, Option.isSome_none] at hl1 hl2
  have Hb := Lib.hid hb
  have hsy := symbol_calls Hb.out s hs
  rw [hsym] at hsy
  have Hn := Lib.hid hn
  have Hsym := Lib.hid hsym
  clear h hb hsym hact hn
  have Hsc := Lib.hid hsc
  clear hsc
  go_enter Tryd.func22, Tryd.ntmps22
  go_wp2_with (go_at_call 58; refine hsy.mono ?_; rintro e w' ⟨rfl, hw'⟩; obtain rfl := hw'.symm)
  have hs32 : s.size ≤ 32 := by
    have := Hsym.out
    unfold symOk at this
    simp only [Bool.and_eq_true, decide_eq_true_eq] at this
    exact this.2
  refine (add_calls H.out s true hs32 Hn.out hfew (by omega)).mono ?_
  rintro e wz ⟨rfl, ⟨qz, hqz, hhz, htz⟩⟩
  have Hz := Aside0.mk hqz
  have Hhz := Aside0.mk hhz
  have Htz := Aside0.mk htz
  have c2' := (cell_at hqz.cells 2).1
  simp only [List.getElem?_toArray, List.getElem?_cons_zero, List.getElem?_cons_succ] at c2'
  clear hqz hhz htz c1 c2 hl1 hl2
  go_wp2_with (first
    | (at_mapUpdate; refine wp_store (n := T.syms.length) rfl _ _ _ rfl rfl rfl rfl Hz.out.active hs (by omega) (by omega) ?_; intro w2 hm2 hg2
       have h2 := holds_act Hz.out hg2 hm2 (by omega)
       have Ht2 := Aside0.mk (Turns.of_grown (fp := qz.has p) hg2 (fun k hk => by have := Option.some.inj hk; subst this; exact .inr (.inr (.inl rfl))))
       obtain ⟨A3, cap3, e3', _⟩ := row_slice h2.scopes
       have e3 := (cell_at h2.cells 3).1
       simp only [List.getElem?_toArray, List.getElem?_cons_zero, List.getElem?_cons_succ, e3'] at e3
       replace e3 : w2.cell? ⟨p, 3, none⟩ = some (.slice A3 0 cap3) := by rw [e3]; exact congrArg (fun z => some (Value.slice A3 z cap3)) Hsc.out
       have H2 := Aside0.mk h2
       clear h2 hm2 hg2 e3' c2'))
  go_ret2
  refine ⟨rfl, ?_⟩
  have h2 := H2.out
  obtain ⟨q', a, b, c⟩ := steps_refl h2
  have ha : addLast T.scopes T.syms.length = T.scopes := by have := Hsc.out; cases hl : T.scopes with | nil => rfl | cons x l => rw [hl] at this; simp at this
  have ht : activate (added T s true) s T.syms.length = { (added T s true) with act := upd (added T s true).act s T.syms.length } := by unfold activate; rw [show (added T s true).scopes = T.scopes from rfl, ha]; rfl
  rw [ht]
  refine ⟨q', a.more (by omega), fun k hk => ?_, ?_⟩
  · rcases b k hk with hk | hk
    · exact Hhz.out k hk
    · exact .inr (Nat.le_trans (Nat.le_trans Htz.out.size Ht2.out.size) hk)
  · exact Turns.trans Htz.out (Turns.trans Ht2.out c (fun _ hk => .inl hk)) (fun k hk => Hhz.out k hk)

set_option maxHeartbeats 4000000 in
set_option maxRecDepth 100000 in
theorem var_new_in {w : World} (hb : Blanks w) {p g : Nat} {T : Tab} {q : Parts} (h : Holds w p g T q) (s : ByteArray) (hs : s.size ≤ maxLen) (hg : g + 2 < maxLen) (hsym : symOk s = true) (hact : T.act s = none) (hn : idx T.syms s = none) (hfew : T.syms.length < 512) (hdeep : T.scopes.length ≤ 16) (hsc : 0 < T.scopes.length) (hx : ∀ l ∈ T.scopes, l.length ≤ 512) :
    Calls Tryd.prog 22 #[.pointer (some ⟨p, 0, none⟩), .string s] w fun e w' => e = .returned (.tuple #[.int .i64 (T.syms.length : Int), .int .i64 0]) ∧ TabSteps w w' p (g + 2) (activate (added T s true) s T.syms.length) q := by
  have H := Aside0.mk h
  have c1 := (cell_at h.cells 1).1
  have c2 := (cell_at h.cells 2).1
  simp only [List.getElem?_toArray, List.getElem?_cons_zero, List.getElem?_cons_succ] at c1 c2
  have hl1 := h.numbers.look hs
  have hl2 := h.active.look hs
  rw [hn] at hl1
  rw [hact] at hl2
  simp only [num, Option.isSome_some, Option.isSome_none] at hl1 hl2
  have Hb := Lib.hid hb
  have hsy := symbol_calls Hb.out s hs
  rw [hsym] at hsy
  have Hn := Lib.hid hn
  have Hsym := Lib.hid hsym
  clear h hb hsym hact hn
  have hsc' : (0 : Int) < (T.scopes.length : Int) := by omega
  have hd' : (T.scopes.length : Int) ≤ 16 := by omega
  go_enter Tryd.func22, Tryd.ntmps22
  go_wp2_with (go_at_call 58; refine hsy.mono ?_; rintro e w' ⟨rfl, hw'⟩; obtain rfl := hw'.symm)
  have hs32 : s.size ≤ 32 := by
    have := Hsym.out
    unfold symOk at this
    simp only [Bool.and_eq_true, decide_eq_true_eq] at this
    exact this.2
  refine (add_calls H.out s true hs32 Hn.out hfew (by omega)).mono ?_
  rintro e wz ⟨rfl, ⟨qz, hqz, hhz, htz⟩⟩
  have Hz := Aside0.mk hqz
  have Hhz := Aside0.mk hhz
  have Htz := Aside0.mk htz
  have c2' := (cell_at hqz.cells 2).1
  simp only [List.getElem?_toArray, List.getElem?_cons_zero, List.getElem?_cons_succ] at c2'
  clear hqz hhz htz c1 c2 hl1 hl2
  go_wp2_with (first
    | (at_mapUpdate; refine wp_store (n := T.syms.length) rfl _ _ _ rfl rfl rfl rfl Hz.out.active hs (by omega) (by omega) ?_; intro w2 hm2 hg2
       have h2 := holds_act Hz.out hg2 hm2 (by omega)
       have Ht2 := Aside0.mk (Turns.of_grown (fp := qz.has p) hg2 (fun k hk => by have := Option.some.inj hk; subst this; exact .inr (.inr (.inl rfl))))
       obtain ⟨ls, xs, us, v, sb, cap, A3, cap3, hT, hq, hvc, hv, e3, ev, fv, hpl2, hsl2, hne, hne2, ho2⟩ := last_facts h2 hsc
       subst hv
       have hxs : xs.length ≤ 512 := hx xs (by have hT' : T.scopes = ls ++ [xs] := hT; rw [hT']; simp)
       have HT := Aside0.mk hT
       have Hq := Aside0.mk hq
       have Hvc := Aside0.mk hvc
       have H2 := Aside0.mk h2
       have Ho2 := Aside0.mk ho2
       obtain ⟨i0, hi, hz0, hz1, hz2⟩ := info_parts info3
       have HI := Aside0.mk hi
       have Hz0 := Aside0.mk hz0
       have Hz1 := Aside0.mk hz1
       have Hz2 := Aside0.mk hz2
       have Hne := Aside0.mk hne
       have Hne2 := Aside0.mk hne2
       clear hi hz0 hz1 hz2 hT hq hvc h2 ho2 hne hne2 hm2 hg2 c2'
       have hk1 : (0 : Int) ≤ (T.scopes.length : Int) - 1 := by omega
       have hk1' : (1 : Int) ≤ (T.scopes.length : Int) := by omega
       have hk2 : (T.scopes.length : Int) - 1 < (T.scopes.length : Int) := by omega
       have hk3 : IntKind.i64.wrap ((T.scopes.length : Int) - 1) = (T.scopes.length : Int) - 1 := IntWalk.i64_in _ (by omega)
       have hk4 : ((T.scopes.length : Int) - 1).toNat = T.scopes.length - 1 := by omega
       replace e3 : w2.cell? ⟨p, 3, none⟩ = some (.slice (some ⟨sb, 0, none⟩) T.scopes.length cap) := e3
       replace ev : w2.cell? ⟨sb, T.scopes.length - 1, none⟩ = some (.slice A3 xs.length cap3) := ev
       replace fv : w2.frozen? ⟨sb, T.scopes.length - 1, none⟩ = false := fv))
  refine start_ (n := 21) (S := fun w' => w'.cell? ⟨p, 3, none⟩ = some (.slice (some ⟨sb, 0, none⟩) T.scopes.length cap) ∧ w'.cell? ⟨sb, T.scopes.length - 1, none⟩ = some (.slice A3 xs.length cap3)) (ds := [20]) #[false, false, false, false, false, false, false, false, false, false, false, false, false, false, false, false, false, false, false, false, false] (by kernel_rfl) rfl rfl ⟨e3, ev⟩ (fun hHeld => ?_)
  refine pure_ (i := 0) (N := some 58) (v := ?_) (a' := ?_) #[true, false, false, false, false, false, false, false, false, false, false, false, false, false, false, false, false, false, false, false, false] rfl rfl (by kernel_rfl) (fun _ _ _ h => h) (Or.inl ⟨by rfl, ?_⟩) ?_ ?_
  rotate_left
  · intro w'
    go_simp
    with_reducible rfl
  rotate_left
  · simp only [Act.put, List.setIfInBounds_toArray, List.set_cons_zero, List.set_cons_succ, i64_w, i32_w]
    rfl
  refine pure_ (i := 1) (N := some 59) (v := ?_) (a' := ?_) #[true, true, false, false, false, false, false, false, false, false, false, false, false, false, false, false, false, false, false, false, false] rfl rfl (by kernel_rfl) (fun _ _ _ h => h) (Or.inl ⟨by rfl, ?_⟩) ?_ ?_
  rotate_left
  · intro w'
    go_simp
    with_reducible rfl
  rotate_left
  · simp only [Act.put, List.setIfInBounds_toArray, List.set_cons_zero, List.set_cons_succ, i64_w, i32_w]
    rfl
  refine pure_ (i := 2) (N := some 60) (v := ?_) (a' := ?_) #[true, true, true, false, false, false, false, false, false, false, false, false, false, false, false, false, false, false, false, false, false] rfl rfl (by kernel_rfl) (fun _ _ _ h => h) (Or.inl ⟨by rfl, ?_⟩) ?_ ?_
  rotate_left
  · intro w'
    go_simp
    with_reducible rfl
  rotate_left
  · simp only [Act.put, List.setIfInBounds_toArray, List.set_cons_zero, List.set_cons_succ, i64_w, i32_w]
    rfl
  refine take_ (i := 3) (N := some 61) (v := ?_) (a' := ?_) #[true, true, true, true, false, false, false, false, false, false, false, false, false, false, false, false, false, false, false, false, false] rfl rfl (by kernel_rfl) (fun _ _ _ h => h) (Or.inl ⟨by rfl, ?_⟩) hHeld ?_ ?_
  rotate_left
  · rintro w' ⟨s0, s1⟩
    go_simp
    with_reducible rfl
  rotate_left
  · simp only [Act.put, List.setIfInBounds_toArray, List.set_cons_zero, List.set_cons_succ, i64_w, i32_w]
    rfl
  refine pure_ (i := 4) (N := some 62) (v := ?_) (a' := ?_) #[true, true, true, true, true, false, false, false, false, false, false, false, false, false, false, false, false, false, false, false, false] rfl rfl (by kernel_rfl) (fun _ _ _ h => h) (Or.inl ⟨by rfl, ?_⟩) ?_ ?_
  rotate_left
  · intro w'
    go_simp
    with_reducible rfl
  rotate_left
  · simp only [Act.put, List.setIfInBounds_toArray, List.set_cons_zero, List.set_cons_succ, i64_w, i32_w]
    rfl
  refine pure_ (i := 5) (N := some 63) (v := ?_) (a' := ?_) #[true, true, true, true, true, true, false, false, false, false, false, false, false, false, false, false, false, false, false, false, false] rfl rfl (by kernel_rfl) (fun _ _ _ h => h) (Or.inl ⟨by rfl, ?_⟩) ?_ ?_
  rotate_left
  · intro w'
    go_simp
    with_reducible rfl
  rotate_left
  · simp only [Act.put, List.setIfInBounds_toArray, List.set_cons_zero, List.set_cons_succ, i64_w, i32_w]
    rfl
  refine pure_ (i := 6) (N := some 64) (v := ?_) (a' := ?_) #[true, true, true, true, true, true, true, false, false, false, false, false, false, false, false, false, false, false, false, false, false] rfl rfl (by kernel_rfl) (fun _ _ _ h => h) (Or.inl ⟨by rfl, ?_⟩) ?_ ?_
  rotate_left
  · intro w'
    go_simp
    with_reducible rfl
  rotate_left
  · simp only [Act.put, List.setIfInBounds_toArray, List.set_cons_zero, List.set_cons_succ, i64_w, i32_w]
    rfl
  refine pure_ (i := 7) (N := some 65) (v := ?_) (a' := ?_) #[true, true, true, true, true, true, true, true, false, false, false, false, false, false, false, false, false, false, false, false, false] rfl rfl (by kernel_rfl) (fun _ _ _ h => h) (Or.inl ⟨by rfl, ?_⟩) ?_ ?_
  rotate_left
  · intro w'
    go_simp
    with_reducible rfl
  rotate_left
  · simp only [Act.put, List.setIfInBounds_toArray, List.set_cons_zero, List.set_cons_succ, i64_w, i32_w]
    rfl
  refine pure_ (i := 8) (N := some 66) (v := ?_) (a' := ?_) #[true, true, true, true, true, true, true, true, true, false, false, false, false, false, false, false, false, false, false, false, false] rfl rfl (by kernel_rfl) (fun _ _ _ h => h) (Or.inl ⟨by rfl, ?_⟩) ?_ ?_
  rotate_left
  · intro w'
    go_simp
    with_reducible rfl
  rotate_left
  · simp only [Act.put, List.setIfInBounds_toArray, List.set_cons_zero, List.set_cons_succ, i64_w, i32_w]
    rfl
  refine take_ (i := 9) (N := some 67) (v := ?_) (a' := ?_) #[true, true, true, true, true, true, true, true, true, true, false, false, false, false, false, false, false, false, false, false, false] rfl rfl (by kernel_rfl) (fun _ _ _ h => h) (Or.inl ⟨by rfl, ?_⟩) hHeld ?_ ?_
  rotate_left
  · rintro w' ⟨s0, s1⟩
    go_simp
    with_reducible rfl
  rotate_left
  · simp only [Act.put, List.setIfInBounds_toArray, List.set_cons_zero, List.set_cons_succ, i64_w, i32_w]
    rfl
  refine pure_ (i := 10) (N := some 68) (v := ?_) (a' := ?_) #[true, true, true, true, true, true, true, true, true, true, true, false, false, false, false, false, false, false, false, false, false] rfl rfl (by kernel_rfl) (fun _ _ _ h => h) (Or.inl ⟨by rfl, ?_⟩) ?_ ?_
  rotate_left
  · intro w'
    go_simp
    with_reducible rfl
  rotate_left
  · simp only [Act.put, List.setIfInBounds_toArray, List.set_cons_zero, List.set_cons_succ, i64_w, i32_w]
    rfl
  refine pure_ (i := 11) (N := some 69) (v := ?_) (a' := ?_) #[true, true, true, true, true, true, true, true, true, true, true, true, false, false, false, false, false, false, false, false, false] rfl rfl (by kernel_rfl) (fun _ _ _ h => h) (Or.inl ⟨by rfl, ?_⟩) ?_ ?_
  rotate_left
  · intro w'
    go_simp
    with_reducible rfl
  rotate_left
  · simp only [Act.put, List.setIfInBounds_toArray, List.set_cons_zero, List.set_cons_succ, i64_w, i32_w]
    rfl
  refine pure_ (i := 12) (N := some 70) (v := ?_) (a' := ?_) #[true, true, true, true, true, true, true, true, true, true, true, true, true, false, false, false, false, false, false, false, false] rfl rfl (by kernel_rfl) (fun _ _ _ h => h) (Or.inl ⟨by rfl, ?_⟩) ?_ ?_
  rotate_left
  · intro w'
    go_simp
    with_reducible rfl
  rotate_left
  · simp only [Act.put, List.setIfInBounds_toArray, List.set_cons_zero, List.set_cons_succ, i64_w, i32_w]
    rfl
  refine pure_ (i := 13) (N := some 71) (v := ?_) (a' := ?_) #[true, true, true, true, true, true, true, true, true, true, true, true, true, true, false, false, false, false, false, false, false] rfl rfl (by kernel_rfl) (fun _ _ _ h => h) (Or.inl ⟨by rfl, ?_⟩) ?_ ?_
  rotate_left
  · intro w'
    go_simp
    with_reducible rfl
  rotate_left
  · simp only [Act.put, List.setIfInBounds_toArray, List.set_cons_zero, List.set_cons_succ, i64_w, i32_w]
    rfl
  refine take_ (i := 14) (N := some 72) (v := ?_) (a' := ?_) #[true, true, true, true, true, true, true, true, true, true, true, true, true, true, true, false, false, false, false, false, false] rfl rfl (by kernel_rfl) (fun _ _ _ h => h) (Or.inl ⟨by rfl, ?_⟩) hHeld ?_ ?_
  rotate_left
  · rintro w' ⟨s0, s1⟩
    go_simp
    with_reducible rfl
  rotate_left
  · simp only [Act.put, List.setIfInBounds_toArray, List.set_cons_zero, List.set_cons_succ, i64_w, i32_w]
    rfl
  refine pure_ (i := 15) (N := some 73) (v := ?_) (a' := ?_) #[true, true, true, true, true, true, true, true, true, true, true, true, true, true, true, true, false, false, false, false, false] rfl rfl (by kernel_rfl) (fun _ _ _ h => h) (Or.inl ⟨by rfl, ?_⟩) ?_ ?_
  rotate_left
  · intro w'
    go_simp
    with_reducible rfl
  rotate_left
  · simp only [Act.put, List.setIfInBounds_toArray, List.set_cons_zero, List.set_cons_succ, i64_w, i32_w]
    rfl
  refine one_ (i := 16) (N := some 74) #[true, true, true, true, true, true, true, true, true, true, true, true, true, true, true, true, true, false, false, false, false] rfl rfl (by kernel_rfl) (by decide) (fun K hK => ?_)
  refine value_ (w1 := ?_) (v := ?_) (by rfl) rfl ?_ ?_
  rotate_left
  rotate_left
  · go_simp
    refine ⟨?_, ?_⟩ <;> rfl
  refine hK.out _ _ ⟨?_, ?_⟩ (fun hHeld => ?_)
  · exact (cell_far (a := ⟨p, 3, none⟩) (World.grownBy_alloc w2 (.cells #[.int .i64 T.syms.length] 3) none |>.block p hpl2 (by simp))).1.trans e3
  · exact (cell_far (a := ⟨sb, T.scopes.length - 1, none⟩) (World.grownBy_alloc w2 (.cells #[.int .i64 T.syms.length] 3) none |>.block sb hsl2 (by simp))).1.trans ev
  clear hK K
  refine one_ (i := 17) (N := some 75) #[true, true, true, true, true, true, true, true, true, true, true, true, true, true, true, true, true, true, false, false, false] rfl rfl (by kernel_rfl) (by decide) (fun K hK => ?_)
  refine step_append_lies _ rfl _ _ _ rfl 0 3 i0 _ 1 8 Tryd.underlying57 HI.out Hz0.out Hz1.out Hz2.out rfl (by omega) _ xs.length _ rfl ((Ho2.out.alloc _).drew)
    ⟨w2.heap.size, 0, none⟩ 1 1 [.int .i64 T.syms.length] rfl rfl (World.news_of_block (cs := #[.int .i64 T.syms.length]) (t := 3) (fr := (0, 0)) (heap_alloc_new w2 _)) (by simp [Value.oneCell'])
    (by omega) (by unfold maxLen; omega) (by omega) (Nat.zero_le _) (w2.heap.size + 1) (by simp) ?_
  intro gg cap4 w3 hown3 hgrow hat hlt
  have hc3 := cell_far (a := ⟨sb, T.scopes.length - 1, none⟩) ((hgrow.block sb (by simp; omega) (Ne.symm Hne2.out)).trans (World.grownBy_alloc w2 (.cells #[.int .i64 T.syms.length] 3) none |>.block sb hsl2 (by simp)))
  have hcp := cell_far (a := ⟨p, 3, none⟩) ((hgrow.block p (by simp; omega) (Ne.symm Hne.out)).trans (World.grownBy_alloc w2 (.cells #[.int .i64 T.syms.length] 3) none |>.block p hpl2 (by simp)))
  have f3 := hc3.2.trans fv
  have e3' := hc3.1.trans ev
  have Hown3 := Aside0.mk hown3
  have Hgrow := Aside0.mk hgrow
  have Hat := Aside0.mk hat
  clear hown3 hgrow hat
  refine hK.out _ _ ⟨hcp.1.trans e3, e3'⟩ (fun hHeld => ?_)
  clear hK K hc3 hcp
  refine pure_ (i := 18) (N := some 76) (v := ?_) (a' := ?_) #[true, true, true, true, true, true, true, true, true, true, true, true, true, true, true, true, true, true, true, false, false] rfl rfl (by kernel_rfl) (fun _ _ _ h => h) (Or.inl ⟨by rfl, ?_⟩) ?_ ?_
  rotate_left
  · intro w'
    go_simp
    with_reducible rfl
  rotate_left
  · simp only [Act.put, List.setIfInBounds_toArray, List.set_cons_zero, List.set_cons_succ, i64_w, i32_w]
    rfl
  refine pure_ (i := 19) (N := some 77) (v := ?_) (a' := ?_) #[true, true, true, true, true, true, true, true, true, true, true, true, true, true, true, true, true, true, true, true, false] rfl rfl (by kernel_rfl) (fun _ _ _ h => h) (Or.inl ⟨by rfl, ?_⟩) ?_ ?_
  rotate_left
  · intro w'
    go_simp
    with_reducible rfl
  rotate_left
  · simp only [Act.put, List.setIfInBounds_toArray, List.set_cons_zero, List.set_cons_succ, i64_w, i32_w]
    rfl
  refine last_ (i := 20) (N := none) #[true, true, true, true, true, true, true, true, true, true, true, true, true, true, true, true, true, true, true, true, true] rfl rfl (by kernel_rfl) (by decide) (fun K hK => ?_)
  refine skip_ (w1 := ?_) (by rfl) rfl ?_ ?_
  rotate_left
  · go_simp
    rfl
  refine hK.out _ _ ?_
  clear hK K
  refine done_ (by kernel_rfl) ?_
  go_wp2_with fail
  go_ret2
  refine ⟨rfl, ?_⟩
  have h2 := H2.out
  have hst := put_steps h2 HT.out Hq.out Hvc.out Hown3.out Hgrow.out Hat.out
  obtain ⟨q', a, b, c⟩ := hst
  refine ⟨q', a.more (by omega), fun k hk => ?_, ?_⟩
  · rcases b k hk with hk | hk
    · exact Hhz.out k hk
    · exact .inr (Nat.le_trans (Nat.le_trans Htz.out.size Ht2.out.size) hk)
  · exact Turns.trans Htz.out (Turns.trans Ht2.out c (fun _ hk => .inl hk)) (fun k hk => Hhz.out k hk)

theorem var_calls {w : World} (hb : Blanks w) {p g : Nat} {T : Tab} {q : Parts} (hw : WF T) (h : Holds w p g T q) (s : ByteArray) (hs : s.size ≤ maxLen) (hg : g + 2 < maxLen) :
    Calls Tryd.prog 22 #[.pointer (some ⟨p, 0, none⟩), .string s] w fun e w' => e = .returned (.tuple #[.int .i64 ((varT T s).2.1 : Int), .int .i64 ((varT T s).2.2 : Int)]) ∧ TabSteps w w' p (g + 2) (varT T s).1 q := by
  have hsame := Lib.hid (steps_refl (h.more (show g ≤ g + 2 by omega)))
  cases hok : symOk s with
  | false =>
    have Hc := Lib.hid (show varT T s = (T, 0, 21) by unfold varT; rw [if_pos hok])
    have hsy := symbol_calls hb s hs
    rw [hok] at hsy
    clear hok h hb
    go_enter Tryd.func22, Tryd.ntmps22
    go_wp2_with (go_at_call 58; refine hsy.mono ?_; rintro e w' ⟨rfl, rfl⟩)
    go_ret2
    rw [Hc.out]
    exact ⟨rfl, hsame.out⟩
  | true =>
    cases hact : T.act s with
    | some n =>
      have Hc := Lib.hid (show varT T s = (T, 0, 20) by unfold varT; rw [hok, hact]; rfl)
      have hsy := symbol_calls hb s hs
      rw [hok] at hsy
      have c2 := (cell_at h.cells 2).1
      simp only [List.getElem?_toArray, List.getElem?_cons_zero, List.getElem?_cons_succ] at c2
      have hl2 := h.active.look hs
      rw [hact] at hl2
      clear hok h hb hact
      go_enter Tryd.func22, Tryd.ntmps22
      go_wp2_with (go_at_call 58; refine hsy.mono ?_; rintro e w' ⟨rfl, rfl⟩)
      go_ret2
      rw [Hc.out]
      exact ⟨rfl, hsame.out⟩
    | none =>
      have hx : ∀ l ∈ T.scopes, l.length ≤ 512 := fun l hl => by
        have h1 := nodup_le (n := T.syms.length) (List.Sublist.nodup (List.sublist_flatten_of_mem hl) hw.once) (fun v hv => (hw.vars l hl v hv).1)
        have := hw.few
        omega
      cases hn : idx T.syms s with
      | some n =>
        have hlt := (idx_lt hn).1
        have hfew := hw.few
        have hc : varT T s = (activate T s n, n, 0) := by unfold varT; rw [hok, hact, hn]; rfl
        rw [hc]
        by_cases hsc : 0 < T.scopes.length
        · exact var_old_in hb h s hs hg hok hact n hn (by omega) hw.deep hsc hx
        · exact var_old_out hb h s hs hg hok hact n hn (by omega) hw.deep (by omega)
      | none =>
        by_cases hf : 512 ≤ T.syms.length
        · have Hc := Lib.hid (show varT T s = (T, 0, 22) by unfold varT; rw [hok, hact, hn]; simp [hf])
          have H := Aside0.mk h
          have hsy := symbol_calls hb s hs
          rw [hok] at hsy
          have c1 := (cell_at h.cells 1).1
          have c2 := (cell_at h.cells 2).1
          simp only [List.getElem?_toArray, List.getElem?_cons_zero, List.getElem?_cons_succ] at c1 c2
          have hl1 := h.numbers.look hs
          have hl2 := h.active.look hs
          rw [hn] at hl1
          rw [hact] at hl2
          clear hok h hb hact hn
          go_enter Tryd.func22, Tryd.ntmps22
          go_wp2_with (first | (go_at_call 58; refine hsy.mono ?_; rintro e w' ⟨rfl, rfl⟩) | (go_at_call 59; refine (add_full H.out s true hf).mono ?_; rintro e w' ⟨rfl, rfl⟩))
          go_ret2
          rw [Hc.out]
          exact ⟨rfl, hsame.out⟩
        · have hc : varT T s = (activate (added T s true) s T.syms.length, T.syms.length, 0) := by unfold varT; rw [hok, hact, hn]; simp [hf]
          rw [hc]
          by_cases hsc : 0 < T.scopes.length
          · exact var_new_in hb h s hs hg hok hact hn (by omega) hw.deep hsc hx
          · exact var_new_out hb h s hs hg hok hact hn (by omega) hw.deep (by omega)
end Go.Proofs.YtpoojimmponklaaDoor.SymVar

namespace Go.Proofs.YtpoojimmponklaaDoor.SymClose
open Go.RowKit Go.Maps Go.Proofs.YtpoojimmponklaaDoor.SymTab Go.Proofs.YtpoojimmponklaaDoor.SymHeap Go.Proofs.YtpoojimmponklaaDoor.SymReads Go.Proofs.YtpoojimmponklaaDoor.SymAdd Go.Proofs.YtpoojimmponklaaDoor.SymConst Go.Proofs.YtpoojimmponklaaDoor.SymPut Go.Proofs.YtpoojimmponklaaDoor.SymVar
open Go.Proofs.YtpoojimmponklaaDoorW.PrintWords (Aside0 Drawn0 own_move)
set_option linter.unusedVariables false

theorem dels_snoc (T : Tab) (f : ByteArray → Option Nat) (l : List Nat) (v : Nat) : dels T f (l ++ [v]) = del (dels T f l) (nameOf T v) := by simp [dels]

/-- The k-th number of the innermost scope. -/
theorem var_cell {w : World} {p g : Nat} {T : Tab} {q : Parts} (h : Holds w p g T q) {ls : List (List Nat)} {xs : List Nat} (hT : T.scopes = ls ++ [xs]) {us : List Value} {A3 : Option Addr} {cap3 : Nat} (hq : q.vals = us ++ [.slice A3 xs.length cap3]) {k : Nat} (hk : k < xs.length) :
    ∃ gb, A3 = some ⟨gb, 0, none⟩ ∧ w.cell? ⟨gb, k, none⟩ = some (.int .i64 (xs[k] : Int)) := by
  have hv := h.vars
  rw [hT, hq] at hv
  obtain ⟨_, hv2, _⟩ := vars_split hv
  obtain ⟨gb, cap', e, _, hcell, _⟩ := row_some hv2 (by omega)
  simp only [Value.slice.injEq, true_and] at e
  refine ⟨gb, e.1, hcell k _ ?_⟩
  simp [numRow, hk]

theorem pop_row {w : World} {base e m cap : Nat} {A : Option Addr} {vals : List Value} {v : Value} (h : w.ownsRow base e 1 (.slice A (m + 1) cap) (m + 1) (vals ++ [v])) : w.ownsRow base e 1 (.slice A m cap) m vals := by
  have hl : vals.length = m := by have := h.1; simp at this; omega
  refine ⟨by omega, .inr ?_⟩
  rcases h.2 with ⟨e, h0⟩ | ⟨g, cap', cur, e, hb, hg, hn, hc, hs, ht⟩
  · omega
  · simp only [Value.slice.injEq, true_and] at e
    obtain ⟨rfl, rfl⟩ := e
    refine ⟨g, cap, cur, rfl, hb, hg, by omega, hc, hs, ?_⟩
    have h2 : (cur.toList.take ((m + 1) * 1)).take m = (vals ++ [v]).take m := by rw [ht]
    rw [List.take_take] at h2
    rw [show min m ((m + 1) * 1) = m * 1 by omega] at h2
    rw [h2, ← hl]
    simp

theorem pop_steps {w : World} {p g : Nat} {T : Tab} {q : Parts} (h : Holds w p g T q) {ls : List (List Nat)} {xs : List Nat} (hT : T.scopes = ls ++ [xs]) {us : List Value} {v : Value} (hq : q.vals = us ++ [v]) {sb cap : Nat} (hvc : q.vc = .slice (some ⟨sb, 0, none⟩) T.scopes.length cap) :
    TabSteps w (w.setCell ⟨p, 3, none⟩ (.slice (some ⟨sb, 0, none⟩) (T.scopes.length - 1) cap)) p g { T with scopes := ls } q := by
  obtain ⟨vs, bn, ba, vc, bt, vl, vals⟩ := q
  simp only at hq hvc
  subst hq hvc
  have hv := h.vars
  rw [hT] at hv
  obtain ⟨hv1, _, _⟩ := vars_split hv
  have hlt := h.lt
  have hm : T.scopes.length = ls.length + 1 := by rw [hT]; simp
  have hm1 : T.scopes.length - 1 = ls.length := by omega
  rw [hm1]
  obtain ⟨nv, hnv⟩ : ∃ nv, nv = Value.slice (some ⟨sb, 0, none⟩) ls.length cap := ⟨_, rfl⟩
  rw [← hnv]
  have row : ∀ k t, tyOf w k = t → t ≠ some 88 → (w.setCell ⟨p, 3, none⟩ nv).heap[k]? = w.heap[k]? := fun k t ht h1 => Below.heap_setCell w ⟨p, 3, none⟩ nv k (ne_ty ht h.tp h1)
  have hs : w.ownsRow 0 90 1 nv ls.length us := by
    have := h.scopes
    simp only at this
    rw [hm] at this
    rw [hnv]
    exact pop_row this
  refine ⟨⟨vs, bn, ba, nv, bt, vl, us⟩, ⟨?_, ?_, ?_, ?_, ?_, h.na, h.nt, h.at_, ?_, ?_, ?_⟩, ?_, ?_⟩
  · rw [set_block h.cells]
    rfl
  · exact own_move h.syms (fun k hk => row k _ (tyOf_row h.syms hk) (by decide))
  · exact h.numbers.move (row bn _ (tyOf_map h.numbers) (by decide))
  · exact h.active.move (row ba _ (tyOf_map h.active) (by decide))
  · exact h.taken.move (row bt _ (tyOf_map h.taken) (by decide))
  · exact own_move hs (fun k hk => row k _ (tyOf_row hs hk) (by decide))
  · exact hv1.move (fun u hu k hk => row k _ (h.tvars (v := u) (by simp [hu]) hk) (by decide))
  · exact own_move h.labels (fun k hk => row k _ (tyOf_row h.labels hk) (by decide))
  · intro k hk
    left
    rcases hk with hk | hk | hk | hk | hk | hk | hk | ⟨u, hu, hk⟩
    · exact .inl hk
    · exact .inr (.inl hk)
    · exact .inr (.inr (.inl hk))
    · exact .inr (.inr (.inr (.inl hk)))
    · exact .inr (.inr (.inr (.inr (.inl hk))))
    · rw [show (Parts.vc ⟨vs, bn, ba, nv, bt, vl, us⟩) = nv from rfl, hnv] at hk
      exact .inr (.inr (.inr (.inr (.inr (.inl hk)))))
    · exact .inr (.inr (.inr (.inr (.inr (.inr (.inl hk))))))
    · exact .inr (.inr (.inr (.inr (.inr (.inr (.inr ⟨u, by simp [hu], hk⟩))))))
  · exact Turns.setCell w ⟨p, 3, none⟩ nv (.inl rfl)

set_option maxHeartbeats 2000000 in
set_option maxRecDepth 100000 in
theorem close_calls {w : World} {p g : Nat} {T : Tab} {q : Parts} (hw : WF T) (h : Holds w p g T q) :
    Calls Tryd.prog 19 #[.pointer (some ⟨p, 0, none⟩)] w fun e w' => e = .returned (.int .i64 ((closeS T).2 : Int)) ∧ TabSteps w w' p g (closeS T).1 q := by
  by_cases hsc : 0 < T.scopes.length
  · obtain ⟨ls, xs, us, v, sb, cap, A3, cap3, hT, hq, hvc, hv, e3, ev, fv, hpl, hsl, _, _, _⟩ := last_facts h hsc
    subst hv
    have Hc := Lib.hid (show closeS T = ({ T with act := dels T T.act xs, scopes := ls }, 0) by
      unfold closeS
      rw [if_neg (by intro e; rw [e] at hsc; simp at hsc), hT]
      simp)
    have hx : ∀ v ∈ xs, v < T.syms.length := fun v hv => (hw.vars xs (by rw [hT]; simp) v hv).1
    have hxl : xs.length ≤ 512 := by
      have h1 := nodup_le (n := T.syms.length) (List.Sublist.nodup (List.sublist_flatten_of_mem (show xs ∈ T.scopes by rw [hT]; simp)) hw.once) hx
      have := hw.few
      omega
    have Hw := Aside0.mk hw
    have H := Aside0.mk h
    have HT := Aside0.mk hT
    have Hq := Aside0.mk hq
    have Hvc := Aside0.mk hvc
    have Hx := Aside0.mk hx
    have hd := hw.deep
    have hk1 : (0 : Int) ≤ (T.scopes.length : Int) - 1 := by omega
    have hk1' : (1 : Int) ≤ (T.scopes.length : Int) := by omega
    have hk2 : (T.scopes.length : Int) - 1 < (T.scopes.length : Int) := by omega
    have d0 : ((T.scopes.length : Int) == 0) = false := beq_eq_false_iff_ne.2 (by omega)
    clear hw h hT hq hvc hx
    go_enter Tryd.func19, Tryd.ntmps19
    go_wp2_with fail
    go_loopw [23] (fun v23 wr => ∃ k : Nat, k ≤ xs.length ∧ v23 = .int .i64 k ∧ Aside0 (Holds wr p g { T with act := dels T T.act (xs.take k) } q) ∧ Aside0 (Turns (q.has p) w wr)) (fun v23 _ => xs.length - (intOf v23).toNat)
    case atStart => exact ⟨0, by omega, rfl, ⟨by simpa [dels] using H.out⟩, ⟨Turns.refl _ _⟩⟩
    case round =>
      obtain ⟨k, hk, rfl, HR, HB⟩ := hrel
      by_cases hklt : k < xs.length
      · obtain ⟨gb, e, hcell⟩ := var_cell HR.out (T := { T with act := dels T T.act (xs.take k) }) HT.out Hq.out hklt
        subst e
        have hv := Hx.out xs[k] (List.getElem_mem hklt)
        have hts := List.take_succ_eq_append_getElem hklt
        obtain ⟨b, capb, eb, hname, _⟩ := syms_at HR.out (k := xs[k]) hv
        have hs32 := size_name Hw.out hv
        obtain ⟨x, hxx⟩ : ∃ x, x = xs[k] := ⟨_, rfl⟩
        rw [← hxx] at hcell hv hts hname hs32
        clear hxx
        replace hname : wr.cell? ⟨b, x * 2, none⟩ = some (.string (nameOf T x)) := hname
        have c0 := (cell_at HR.out.cells 0).1
        have c2 := (cell_at HR.out.cells 2).1
        simp only [List.getElem?_toArray, List.getElem?_cons_zero, List.getElem?_cons_succ, eb] at c0 c2
        have Hts := Aside0.mk hts
        have hx0 : (0 : Int) ≤ x := by omega
        have hx1 : (x : Int) < (T.syms.length : Int) := by omega
        clear hts eb
        go_wp2_with fail
        go_still_tail 12, (by kernel_rfl)
        refine wp_delete rfl _ _ rfl rfl rfl (HR.out.active.move rfl) (s := nameOf T x) (by unfold maxLen; omega) ?_
        intro w2 hm2 hg2
        have h2 : Holds w2 p g { T with act := dels T T.act (xs.take (k + 1)) } q := by
          have := holds_act (HR.out.move (w' := wr.drew) (fun _ _ => rfl)) hg2 hm2 (Nat.le_refl _)
          rw [Hts.out, dels_snoc]
          exact this
        have t2 : Turns (q.has p) w w2 := Turns.trans (HB.out.trans (Turns.drewN (fp := q.has p) wr 1) (fun _ hk => .inl hk)) (Turns.of_grown (fp := q.has p) hg2 (fun k hk => by have := Option.some.inj hk; subst this; exact .inr (.inr (.inl rfl)))) (fun _ hk => .inl hk)
        have H2 := Aside0.mk h2
        have T2 := Aside0.mk t2
        clear h2 t2 hm2 hg2 c0 c2 hcell hname
        go_wp2_with fail
        go_roundw
        case rel => exact ⟨k + 1, by omega, by go_num, H2, T2⟩
        case measure => simp [intOf]; omega
      · have hk' : k = xs.length := by omega
        have hR := HR.out
        rw [List.take_of_length_le (by omega)] at hR
        have HR' := Aside0.mk hR
        have c3 := cell_at hR.cells 3
        simp only [List.getElem?_toArray, List.getElem?_cons_zero, List.getElem?_cons_succ, Hvc.out] at c3
        obtain ⟨c3, f3⟩ := c3
        have hcap : T.scopes.length ≤ cap := by
          obtain ⟨A', cap', e, hle⟩ := row_slice hR.scopes
          rw [Hvc.out] at e
          simp only [Value.slice.injEq] at e
          have h1 : T.scopes.length ≤ cap' := hle
          omega
        have hcap' : (T.scopes.length : Int) - 1 ≤ (cap : Int) := by omega
        clear hR hk' HR
        go_wp2_with fail
        go_ret
        rw [Hc.out]
        refine ⟨rfl, ?_⟩
        obtain ⟨q', a, b, c⟩ := pop_steps HR'.out (hT := HT.out) (hq := Hq.out) (hvc := Hvc.out)
        exact ⟨q', a, fun k hk => by rcases b k hk with h | h; exact .inl h; exact .inr (Nat.le_trans HB.out.size h), HB.out.trans c (fun _ hk => .inl hk)⟩
  · have h0 : T.scopes = [] := by
      cases hl : T.scopes with
      | nil => rfl
      | cons x l => rw [hl] at hsc; simp at hsc
    have Hc := Lib.hid (show closeS T = (T, 23) by unfold closeS; rw [if_pos h0])
    have hsame := Lib.hid (steps_refl h)
    obtain ⟨A, cap, e, _⟩ := row_slice h.scopes
    have c3 := (cell_at h.cells 3).1
    simp only [List.getElem?_toArray, List.getElem?_cons_zero, List.getElem?_cons_succ, e] at c3
    replace c3 : w.cell? ⟨p, 3, none⟩ = some (.slice A 0 cap) := by rw [c3, h0]; rfl
    clear h0 hsc h e
    go_enter Tryd.func19, Tryd.ntmps19
    go_wp2_with fail
    go_ret
    rw [Hc.out]
    exact ⟨rfl, hsame.out⟩
end Go.Proofs.YtpoojimmponklaaDoor.SymClose

namespace Go.Proofs.YtpoojimmponklaaDoor.SymNew
open Go.RowKit Go.Maps Go.Proofs.YtpoojimmponklaaDoor.SymTab Go.Proofs.YtpoojimmponklaaDoor.SymHeap Go.Proofs.YtpoojimmponklaaDoor.SymReads Go.Proofs.YtpoojimmponklaaDoor.SymAdd Go.Proofs.YtpoojimmponklaaDoor.SymConst
open Go.Proofs.YtpoojimmponklaaDoorW.PrintWords
set_option linter.unusedVariables false

def None : Nat → Prop := fun _ => False

set_option maxHeartbeats 1000000 in
theorem new_calls {w : World} :
    Calls Tryd.prog 33 #[] w fun e w' => ∃ p q, e = .returned (.pointer (some ⟨p, 0, none⟩)) ∧ Holds w' p 0 empty q ∧ (∀ k, q.has p k → w.heap.size ≤ k) ∧ Turns None w w' := by
  have hmm := @run_makeMap Tryd.prog
  go_enter Tryd.func33, Tryd.ntmps33
  go_wp2
  go_ret
  refine ⟨_, ⟨.slice none 0 0, w.heap.size, w.heap.size + 1, .slice none 0 0, w.heap.size + 1 + 1, .slice none 0 0, []⟩, rfl, ?_, ?_, ?_⟩
  · have m1 := MapIs.made w
    have m2 := MapIs.made (w.alloc (Obj.map #[] 0))
    have m3 := MapIs.made ((w.alloc (Obj.map #[] 0)).alloc (Obj.map #[] 0))
    have s1 : (w.alloc (Obj.map #[] 0)).heap.size = w.heap.size + 1 := by simp
    have s2 : ((w.alloc (Obj.map #[] 0)).alloc (Obj.map #[] 0)).heap.size = w.heap.size + 1 + 1 := by simp
    have s3 : (((w.alloc (Obj.map #[] 0)).alloc (Obj.map #[] 0)).alloc (Obj.map #[] 0)).heap.size = w.heap.size + 1 + 1 + 1 := by simp
    rw [s1] at m2
    rw [s2] at m3
    have old : ∀ (W : World) (o : Obj) (k : Nat), k < W.heap.size → (W.alloc o).heap[k]? = W.heap[k]? := fun W o k hk => Below.heap_alloc W o k hk
    refine ⟨?_, World.ownsRow_nil _ _ _ _, ?_, ?_, ?_, by simp, by simp; omega, by simp, World.ownsRow_nil _ _ _ _, ⟨rfl, fun j v xs hv _ => by simp at hv, List.Pairwise.nil⟩, World.ownsRow_nil _ _ _ _⟩
    · have := heap_alloc_new (((w.alloc (Obj.map #[] 0)).alloc (Obj.map #[] 0)).alloc (Obj.map #[] 0)) (Obj.cells #[Value.slice none 0 0, Value.map (some w.heap.size), Value.map (some (w.heap.size + 1)), Value.slice none 0 0, Value.map (some (w.heap.size + 1 + 1)), Value.slice none 0 0] 88)
      rw [s3] at this
      exact this
    · exact m1.move ((old _ _ _ (by rw [s3]; omega)).trans ((old _ _ _ (by rw [s2]; omega)).trans (old _ _ _ (by rw [s1]; omega))))
    · exact m2.move ((old _ _ _ (by rw [s3]; omega)).trans (old _ _ _ (by rw [s2]; omega)))
    · exact m3.move (old _ _ _ (by rw [s3]; omega))
  · intro k hk
    rcases hk with hk | hk | hk | hk | hk | hk | hk | ⟨v, hv, hk⟩
    · omega
    · simp only at hk; omega
    · simp only at hk; omega
    · simp only at hk; omega
    · simp [Value.ownBlock] at hk
    · simp [Value.ownBlock] at hk
    · simp [Value.ownBlock] at hk
    · simp at hv
  · exact Turns.trans (Turns.trans (Turns.trans (Turns.alloc _ _ _) (Turns.alloc None _ _) (fun _ h => h.elim)) (Turns.alloc None _ _) (fun _ h => h.elim)) (Turns.alloc None _ _) (fun _ h => h.elim)

theorem info9 : (Tryd.prog.info? 9).map (fun i => (i.zero, i.size, i.bytes)) = some (some (.string .empty), 1, 16) := by kernel_rfl

end Go.Proofs.YtpoojimmponklaaDoor.SymNew

namespace Go.Proofs.YtpoojimmponklaaDoor.SymOpen
open Go.RowKit Go.Maps Go.Proofs.YtpoojimmponklaaDoor.SymTab Go.Proofs.YtpoojimmponklaaDoor.SymHeap Go.Proofs.YtpoojimmponklaaDoor.SymReads Go.Proofs.YtpoojimmponklaaDoor.SymAdd Go.Proofs.YtpoojimmponklaaDoor.SymConst
open Go.Proofs.YtpoojimmponklaaDoorW.PrintWords (Aside0 Drawn0 own_move)

theorem info90 : (Tryd.prog.info? 90).map (fun i => (i.zero, i.size, i.bytes)) = some (some (.agg #[.slice none 0 0]), 1, 24) := by kernel_rfl

theorem vars_snoc {w : World} {vals : List Value} {l : List (List Nat)} (h : Vars w vals l) : Vars w (vals ++ [.slice none 0 0]) (l ++ [[]]) := by
  obtain ⟨h1, h2, h3⟩ := h
  refine ⟨by simp [h1], fun j v xs hv hx => ?_, ?_⟩
  · rw [List.getElem?_append] at hv hx
    split at hv
    · rename_i hj
      rw [if_pos (by omega)] at hx
      exact h2 j v xs hv hx
    · rename_i hj
      rw [if_neg (by omega)] at hx
      have e1 : v = .slice none 0 0 := by
        cases hjj : j - vals.length with
        | zero => rw [hjj] at hv; simpa using hv.symm
        | succ m => rw [hjj] at hv; simp at hv
      have e2 : xs = [] := by
        cases hjj : j - l.length with
        | zero => rw [hjj] at hx; simpa using hx
        | succ m => rw [hjj] at hx; simp at hx
      subst e1 e2
      exact World.ownsRow_nil _ _ _ _
  · rw [List.pairwise_append]
    refine ⟨h3, by simp, fun u _ v hv k hk => ?_⟩
    simp only [List.mem_singleton] at hv
    subst hv
    simp [Value.ownBlock]

set_option maxHeartbeats 1000000 in
set_option maxRecDepth 100000 in
theorem open_calls {w : World} {p g : Nat} {T : Tab} {q : Parts} (h : Holds w p g T q) (hd : T.scopes.length ≤ 16) :
    Calls Tryd.prog 17 #[.pointer (some ⟨p, 0, none⟩)] w fun e w' => e = .returned (.int .i64 ((openS T).2 : Int)) ∧ TabSteps w w' p g (openS T).1 q := by
  have hsame := Lib.hid (steps_refl h)
  have H := Aside0.mk h
  obtain ⟨vs, bn, ba, vc, bt, vl, vals⟩ := q
  obtain ⟨A, cap, e, _⟩ := row_slice h.scopes
  simp only at e
  subst e
  have c3 := (cell_at h.cells 3).1
  simp only [List.getElem?_toArray, List.getElem?_cons_zero, List.getElem?_cons_succ] at c3
  have HS := Aside0.mk h.scopes
  clear h
  by_cases hsc : 16 ≤ T.scopes.length
  · have Hc := Lib.hid (show openS T = (T, 23) by unfold openS; rw [if_pos hsc])
    have d3 : 16 ≤ (T.scopes.length : Int) := by omega
    go_enter Tryd.func17, Tryd.ntmps17
    go_wp2_with fail
    go_ret
    rw [Hc.out]
    exact ⟨rfl, hsame.out⟩
  · have d3 : (T.scopes.length : Int) < 16 := by omega
    have Hc := Lib.hid (show openS T = ({ T with scopes := T.scopes ++ [[]] }, 0) by unfold openS; rw [if_neg hsc])
    clear hsc
    obtain ⟨i0, hi, hz0, hz1, hz2⟩ := info_parts info90
    have Hi := Aside0.mk hi
    have Hz0 := Aside0.mk hz0
    have Hz1 := Aside0.mk hz1
    have Hz2 := Aside0.mk hz2
    clear hi hz0 hz1 hz2
    go_enter Tryd.func17, Tryd.ntmps17
    go_wp2_with (at_builtin; refine wpList_append_own_at _ rfl (.tmp 13) (.tmp 15) 86 rfl 0 90 i0 (.agg #[.slice none 0 0]) 1 24 Tryd.underlying86 Hi.out Hz0.out Hz1.out Hz2.out rfl (by decide) _ _ _ rfl (HS.out.alloc _) ⟨w.heap.size, 0, none⟩ 1 1 [.slice none 0 0] rfl rfl (cell_one_new _ _ _) ?c2 (by unfold maxLen; omega) (by omega) (Nat.zero_le _) ?_)
    case c2 => rfl
    intro v' w1 hown1 hgrow1 hnil1 hat1
    clear hnil1
    have ht1 : Turns (fun k => (Value.slice A T.scopes.length cap).ownBlock = some k) w w1 := (Turns.alloc _ w _).trans (Turns.of_grown (fp := fun k => (Value.slice A T.scopes.length cap).ownBlock = some k) hgrow1 (fun k hk => hk)) (fun k hk => .inl hk)
    have hlt := H.out.lt
    have hb1 : ∀ k, k < w.heap.size → tyOf w k ≠ some 90 → w1.heap[k]? = w.heap[k]? := fun k hk hty => ht1.block k hk (fun e => hty (tyOf_row HS.out e))
    have hp1 : w1.heap[p]? = some (.cells #[vs, .map (some bn), .map (some ba), .slice A T.scopes.length cap, .map (some bt), vl] 88 (0, 0)) := (hb1 p (hlt p (.inl rfl)) (by rw [H.out.tp]; decide)).trans H.out.cells
    have d0 := cell_at hp1 3
    simp only [List.getElem?_toArray, List.getElem?_cons_zero, List.getElem?_cons_succ] at d0
    obtain ⟨A', cap', e', _⟩ := row_slice hown1
    subst e'
    obtain ⟨d0, f0⟩ := d0
    have Hb1 := Aside0.mk hb1
    have Hp1 := Aside0.mk hp1
    have Ht1 := Aside0.mk ht1
    have Hown1 := Aside0.mk hown1
    have Hlt := Aside0.mk hlt
    have Hat1 := Aside0.mk hat1
    clear c3 hb1 hp1 ht1 hown1 hlt hat1 hgrow1
    go_wp2_with fail
    go_ret
    rw [Hc.out]
    refine ⟨rfl, ?_⟩
    have h := H.out
    have hb1 := Hb1.out
    have hlt := Hlt.out
    have hat := Hat1.out
    have hpt : tyOf w1 p = some 88 := tyOf_cells Hp1.out
    have step : ∀ k, k ≠ p → (w1.setCell ⟨p, 3, none⟩ (.slice A' (T.scopes.length + 1) cap')).heap[k]? = w1.heap[k]? := fun k h1 => Below.heap_setCell w1 ⟨p, 3, none⟩ _ k h1
    have row : ∀ k t, k < w.heap.size → tyOf w k = t → t ≠ some 90 → t ≠ some 88 → (w1.setCell ⟨p, 3, none⟩ (.slice A' (T.scopes.length + 1) cap')).heap[k]? = w.heap[k]? := fun k t hk ht h1 h2 =>
      (step k (ne_ty ht h.tp h2)).trans (hb1 k hk (by rw [ht]; exact h1))
    refine ⟨⟨vs, bn, ba, .slice A' (T.scopes.length + 1) cap', bt, vl, vals ++ [.slice none 0 0]⟩, ⟨?_, ?_, ?_, ?_, ?_, h.na, h.nt, h.at_, ?_, ?_, ?_⟩, ?_, ?_⟩
    · rw [set_block Hp1.out]
      rfl
    · exact own_move h.syms (fun k hk => row k _ (h.syms.lt k hk).2 (tyOf_row h.syms hk) (by decide) (by decide))
    · exact h.numbers.move (row bn _ (hlt bn (by simp [Parts.has])) (tyOf_map h.numbers) (by decide) (by decide))
    · exact h.active.move (row ba _ (hlt ba (by simp [Parts.has])) (tyOf_map h.active) (by decide) (by decide))
    · exact h.taken.move (row bt _ (hlt bt (by simp [Parts.has])) (tyOf_map h.taken) (by decide) (by decide))
    · have hl : ({ T with scopes := T.scopes ++ [[]] } : Tab).scopes.length = T.scopes.length + 1 := by simp
      rw [hl]
      exact own_move Hown1.out (fun k hk => step k (ne_ty (tyOf_row Hown1.out hk) hpt (by decide)))
    · exact vars_snoc (h.vars.move (fun v hv k hk => row k _ (hlt k (.inr (.inr (.inr (.inr (.inr (.inr (.inr ⟨v, hv, hk⟩)))))))) (h.tvars hv hk) (by decide) (by decide)))
    · exact own_move h.labels (fun k hk => row k _ (h.labels.lt k hk).2 (tyOf_row h.labels hk) (by decide) (by decide))
    · intro k hk
      simp only [Parts.has] at hk ⊢
      rcases hk with hk | hk | hk | hk | hk | hk | hk | ⟨v, hv, hk⟩
      · exact .inl (.inl hk)
      · exact .inl (.inr (.inl hk))
      · exact .inl (.inr (.inr (.inl hk)))
      · exact .inl (.inr (.inr (.inr (.inl hk))))
      · exact .inl (.inr (.inr (.inr (.inr (.inl hk)))))
      · rcases hat with e | e
        · rw [e] at hk
          exact .inl (.inr (.inr (.inr (.inr (.inr (.inl hk))))))
        · rw [e] at hk
          right
          have := Option.some.inj hk
          omega
      · exact .inl (.inr (.inr (.inr (.inr (.inr (.inr (.inl hk)))))))
      · rcases List.mem_append.1 hv with hv | hv
        · exact .inl (.inr (.inr (.inr (.inr (.inr (.inr (.inr ⟨v, hv, hk⟩)))))))
        · simp only [List.mem_singleton] at hv
          subst hv
          simp [Value.ownBlock] at hk
    · refine Turns.trans (Ht1.out.mono ?_) (Turns.setCell (fp := fun k => k = p) w1 ⟨p, 3, none⟩ _ rfl) ?_
      · intro k hk; simp [Parts.has, hk]
      · rintro k rfl; left; simp [Parts.has]
end Go.Proofs.YtpoojimmponklaaDoor.SymOpen

namespace Go.Proofs.YtpoojimmponklaaDoor.SymName
open Go.RowKit Go.Proofs.YtpoojimmponklaaDoor.SymTab Go.Proofs.YtpoojimmponklaaDoor.SymScan Go.Proofs.YtpoojimmponklaaDoor.PSymLabels Go.Proofs.YtpoojimmponklaaDoorW.PrintWords

def labN (b : Int) : Bool := (decide (97 ≤ b) && decide (b ≤ 122)) || (decide (65 ≤ b) && decide (b ≤ 90)) || (decide (48 ≤ b) && decide (b ≤ 57)) || decide (b = 46) || decide (b = 45) || decide (b = 95)
theorem labN_byte (c : UInt8) : labN (c.toNat : Int) = labByte c := by
  unfold labN labByte
  rw [Bool.eq_iff_iff]
  simp only [Bool.or_eq_true, Bool.and_eq_true, decide_eq_true_eq, UInt8.le_iff_toNat_le, beq_iff_eq, ← UInt8.toNat_inj]
  simp
  omega
theorem name_round (k : Nat) (s : ByteArray) (i : Nat) (hi : i < s.size) :
    scan_Name.l0 (k + 1) s (s.size : Int) (i : Int) = if labN (bt s i) = true then scan_Name.l0 k s (s.size : Int) (wrap64 ((i : Int) + 1)) else some false := by
  simp only [scan_Name.l0]
  rw [if_pos (by omega), if_pos (by omega), if_pos (by omega)]
  generalize scan_Name.l0 k s (s.size : Int) (wrap64 ((i : Int) + 1)) = R
  generalize bt s i = b
  unfold labN
  by_cases h : ((decide (97 ≤ b) && decide (b ≤ 122)) || (decide (65 ≤ b) && decide (b ≤ 90)) || (decide (48 ≤ b) && decide (b ≤ 57)) || decide (b = 46) || decide (b = 45) || decide (b = 95)) = true
  · rw [if_pos h]
    simp only [Bool.or_eq_true, Bool.and_eq_true, decide_eq_true_eq] at h
    repeat' split
    all_goals first | rfl | omega
  · rw [if_neg h]
    simp only [Bool.or_eq_true, Bool.and_eq_true, decide_eq_true_eq] at h
    repeat' split
    all_goals first | rfl | omega

theorem bt_lab {s : ByteArray} {i : Nat} (hi : i < s.size) : labN (bt s i) = labByte s[i] := by
  have h : bt s (i : Int) = (s[i].toNat : Int) := by
    have := bt_at s (i : Int) (by simpa using hi)
    simpa using this.symm
  rw [h, labN_byte]
theorem name_l0 (s : ByteArray) (hs : s.size ≤ 9223372036854775807) (d : Nat) : ∀ (k i : Nat), i ≤ s.size → s.size - i = d → d < k → (s.data.toList.take i).all labByte = true →
    scan_Name.l0 k s (s.size : Int) (i : Int) = some (nameOk s) := by
  induction d with
  | zero =>
    intro k i h1 hd hk ha
    obtain ⟨k, rfl⟩ : ∃ m, k = m + 1 := ⟨k - 1, by omega⟩
    rw [List.take_of_length_le (by simp; omega)] at ha
    simp only [scan_Name.l0]
    rw [if_neg (by omega)]
    unfold nameOk
    rw [ha]
    by_cases h0 : s.toList = []
    · have hz : s.size = 0 := by rw [← ByteArray.size_data, ← Array.length_toList, ← ByteArray.toList_eq, h0]; rfl
      simp [h0, hz]
    · have hz : 1 ≤ s.size := by
        rw [ByteArray.toList_eq] at h0
        rw [← ByteArray.size_data, ← Array.length_toList]
        cases hl : s.data.toList with
        | nil => exact absurd hl h0
        | cons x l => simp
      by_cases h3 : s.size ≤ 32 <;> simp [h0, hz, h3] <;> omega
  | succ d ih =>
    intro k i h1 hd hk ha
    obtain ⟨k, rfl⟩ : ∃ m, k = m + 1 := ⟨k - 1, by omega⟩
    have hlt : i < s.size := by omega
    rw [name_round k s i hlt, bt_lab hlt]
    have ht := take_all hlt labByte
    rw [ha, Bool.true_and] at ht
    cases hb : labByte s[i] with
    | false =>
      rw [if_neg (by simp)]
      unfold nameOk
      rw [all_false hlt labByte hb]
      rfl
    | true =>
      rw [if_pos rfl, show wrap64 ((i : Int) + 1) = ((i + 1 : Nat) : Int) from by unfold wrap64; omega]
      exact ih k (i + 1) (by omega) (by omega) (by omega) (by rw [ht, hb])
theorem name_calls {w : World} (s : ByteArray) (hs : s.size ≤ maxLen) : Calls Tryd.prog 61 #[.string s] w fun e w' => e = .returned (.bool (nameOk s)) ∧ Drawn0 w w' := by
  unfold maxLen at hs
  refine scan_Name.calls (s.size + 1) s (nameOk s) w ?_
  unfold scan_Name.f
  exact name_l0 s (by omega) s.size (s.size + 1) 0 (by omega) (by omega) (by omega) (by simp)
end Go.Proofs.YtpoojimmponklaaDoor.SymName

namespace Go.Proofs.YtpoojimmponklaaDoor.SymLabel
open Go.RowKit Go.Maps Go.Proofs.YtpoojimmponklaaDoor.SymTab Go.Proofs.YtpoojimmponklaaDoor.SymHeap Go.Proofs.YtpoojimmponklaaDoor.SymReads Go.Proofs.YtpoojimmponklaaDoor.SymAdd Go.Proofs.YtpoojimmponklaaDoor.SymConst Go.Proofs.YtpoojimmponklaaDoor.SymName
open Go.Proofs.YtpoojimmponklaaDoorW.PrintWords (Aside0 Drawn0 own_move)

theorem info9 : (Tryd.prog.info? 9).map (fun i => (i.zero, i.size, i.bytes)) = some (some (.string .empty), 1, 16) := by kernel_rfl

end Go.Proofs.YtpoojimmponklaaDoor.SymLabel

namespace Go.Proofs.YtpoojimmponklaaDoor.SymApi
set_option linter.unusedVariables false
open Go.RowKit Go.Maps Go.Proofs.YtpoojimmponklaaDoor.SymTab Go.Proofs.YtpoojimmponklaaDoor.SymHeap Go.Proofs.YtpoojimmponklaaDoor.SymReads Go.Proofs.YtpoojimmponklaaDoor.SymAdd Go.Proofs.YtpoojimmponklaaDoor.SymConst Go.Proofs.YtpoojimmponklaaDoor.SymScan
open Go.Proofs.YtpoojimmponklaaDoor.SymOpen Go.Proofs.YtpoojimmponklaaDoor.SymLabel Go.Proofs.YtpoojimmponklaaDoor.SymVar Go.Proofs.YtpoojimmponklaaDoor.SymClose Go.Proofs.YtpoojimmponklaaDoor.SymNew
open Go.Proofs.YtpoojimmponklaaDoorW.PrintWords (Aside0 Drawn0)

/-- A footprint, and all that is made from now on. -/
def More (fp : Nat → Prop) (n : Nat) : Nat → Prop := fun k => fp k ∨ n ≤ k
/-- What a call has made of a table. -/
def Does (w w' : World) (p g : Nat) (T : Tab) (fp : Nat → Prop) : Prop := TabIs w' p g T (More fp w.heap.size) ∧ Turns fp w w'

theorem does_of {w w' : World} {p g : Nat} {T : Tab} {q : Parts} {fp : Nat → Prop} (hw : WF T) (hf : ∀ k, q.has p k → fp k) (h : TabSteps w w' p g T q) : Does w w' p g T fp := by
  obtain ⟨q', a, b, c⟩ := h
  exact ⟨⟨hw, q', a, fun k hk => by rcases b k hk with h | h; exact .inl (hf k h); exact .inr h⟩, c.mono hf⟩

section
variable {w : World} {p g : Nat} {T : Tab} {fp : Nat → Prop}
theorem open_api (h : TabIs w p g T fp) : Calls Tryd.prog 17 #[.pointer (some ⟨p, 0, none⟩)] w fun e w' => e = .returned (.int .i64 ((openS T).2 : Int)) ∧ Does w w' p g (openS T).1 fp := by
  obtain ⟨hw, q, hq, hf⟩ := h
  exact (open_calls hq hw.deep).mono fun e w' ⟨he, hs⟩ => ⟨he, does_of (wf_open hw) hf hs⟩
theorem close_api (h : TabIs w p g T fp) : Calls Tryd.prog 19 #[.pointer (some ⟨p, 0, none⟩)] w fun e w' => e = .returned (.int .i64 ((closeS T).2 : Int)) ∧ Does w w' p g (closeS T).1 fp := by
  obtain ⟨hw, q, hq, hf⟩ := h
  exact (close_calls hw hq).mono fun e w' ⟨he, hs⟩ => ⟨he, does_of (wf_close hw) hf hs⟩
theorem const_api (hb : Blanks w) (h : TabIs w p g T fp) (s : ByteArray) (hs : s.size ≤ maxLen) (hg : g + 2 < maxLen) :
    Calls Tryd.prog 18 #[.pointer (some ⟨p, 0, none⟩), .string s] w fun e w' => e = .returned (.tuple #[.int .i64 ((constT T s).2.1 : Int), .int .i64 ((constT T s).2.2 : Int)]) ∧ Does w w' p (g + 2) (constT T s).1 fp := by
  obtain ⟨hw, q, hq, hf⟩ := h
  exact (const_calls hb hq s hs hg).mono fun e w' ⟨he, hs⟩ => ⟨he, does_of (wf_const hw s) hf hs⟩
theorem var_api (hb : Blanks w) (h : TabIs w p g T fp) (s : ByteArray) (hs : s.size ≤ maxLen) (hg : g + 2 < maxLen) :
    Calls Tryd.prog 22 #[.pointer (some ⟨p, 0, none⟩), .string s] w fun e w' => e = .returned (.tuple #[.int .i64 ((varT T s).2.1 : Int), .int .i64 ((varT T s).2.2 : Int)]) ∧ Does w w' p (g + 2) (varT T s).1 fp := by
  obtain ⟨hw, q, hq, hf⟩ := h
  exact (var_calls hb hw hq s hs hg).mono fun e w' ⟨he, hs⟩ => ⟨he, does_of (wf_var hw s) hf hs⟩
theorem find_api (h : TabIs w p g T fp) (s : ByteArray) (hs : s.size ≤ maxLen) :
    Calls Tryd.prog 31 #[.pointer (some ⟨p, 0, none⟩), .string s] w fun e w' => e = .returned (.tuple #[.int .i64 ((findT T s).1 : Int), .bool (findT T s).2]) ∧ Drawn0 w w' := by
  refine (find_calls h s hs).mono fun e w' ⟨he, hw'⟩ => ⟨?_, hw' ▸ Drawn0.refl w⟩
  rw [he]
  unfold findT
  cases T.act s <;> rfl
theorem new_api : Calls Tryd.prog 33 #[] w fun e w' => ∃ p, e = .returned (.pointer (some ⟨p, 0, none⟩)) ∧ TabIs w' p 0 empty (fun k => w.heap.size ≤ k) ∧ Turns None w w' :=
  new_calls.mono fun _ _ ⟨p, q, he, hq, hf, ht⟩ => ⟨p, he, ⟨WF.empty, q, hq, hf⟩, ht⟩
end

theorem blanks_turns {w w' : World} {fp : Nat → Prop} (h : Blanks w) (ht : Turns fp w w') (hn : ¬ fp 0) : Blanks w' := h.move (ht.block 0 h.lt hn)
/-- does: one call of any kind. -/
def doT (T : Tab) (k : Int) (s : ByteArray) : Tab :=
  if k = 1 then (openS T).1 else if k = 2 then (closeS T).1 else if k = 3 then (constT T s).1 else if k = 4 then (varT T s).1 else if k = 10 then (labelT T s).1 else T

theorem Does.more {w w' : World} {p g g' : Nat} {T : Tab} {fp : Nat → Prop} (h : Does w w' p g T fp) (hg : g ≤ g') : Does w w' p g' T fp := ⟨h.1.more hg, h.2⟩

end Go.Proofs.YtpoojimmponklaaDoor.SymApi

namespace Go.Proofs.YtpoojimmponklaaDoor.SymBegun
open Go.RowKit Go.Maps Go.Proofs.YtpoojimmponklaaDoor.SymTab Go.Proofs.YtpoojimmponklaaDoor.SymHeap Go.Proofs.YtpoojimmponklaaDoor.SymReads Go.Proofs.YtpoojimmponklaaDoor.SymScan Go.Proofs.YtpoojimmponklaaDoor.SymApi Go.Proofs.YtpoojimmponklaaDoor.SymNew
open Go.Proofs.YtpoojimmponklaaDoorW.PrintWords (Aside0 Drawn0)
set_option linter.unusedVariables false

def c0 : ByteArray := ⟨#[99, 48]⟩
def v0 : ByteArray := ⟨#[118, 48]⟩
def T1 : Tab := ⟨[(c0, false)], upd (fun _ => none) c0 0, [], []⟩
def T2 : Tab := ⟨[(c0, false), (v0, true)], upd (upd (fun _ => none) c0 0) v0 1, [], []⟩
end Go.Proofs.YtpoojimmponklaaDoor.SymBegun

namespace Go.Proofs.YtpoojimmponklaaDoor.SymScript
set_option linter.unusedVariables false
open Go.RowKit Go.Maps Go.Proofs.YtpoojimmponklaaDoor.SymTab Go.Proofs.YtpoojimmponklaaDoor.SymHeap Go.Proofs.YtpoojimmponklaaDoor.SymApi
open Go.Proofs.YtpoojimmponklaaDoorW.PrintWords (Aside0 Drawn0)

structure OpRec where
  k : Int
  s : ByteArray
  n : Int

/-- The script lies in w: kind, text and number of each call. -/
structure Script (w : World) (A : Option Addr) (l : List OpRec) : Prop where
  some_ : 0 < l.length → ∃ a, A = some a
  at_ : ∀ a i x, A = some a → l[i]? = some x → w.cell? (a.add (i * 3)) = some (.int .i64 x.k) ∧ w.cell? ⟨(a.add (i * 3)).block, (a.add (i * 3)).off + 1, none⟩ = some (.string x.s) ∧ w.cell? ⟨(a.add (i * 3)).block, (a.add (i * 3)).off + 2, none⟩ = some (.int .i64 x.n) ∧ x.s.size ≤ maxLen
theorem Script.below {w w' : World} {A : Option Addr} {l : List OpRec} (h : Script w A l) (hb : Below w.heap.size w w') : Script w' A l := by
  refine ⟨h.some_, fun a i x ha hx => ?_⟩
  obtain ⟨h1, h2, h3, h4⟩ := h.at_ a i x ha hx
  exact ⟨(hb.cell (World.block_lt_of_cell? w _ h1)).trans h1, (hb.cell (World.block_lt_of_cell? w _ h2)).trans h2, (hb.cell (World.block_lt_of_cell? w _ h3)).trans h3, h4⟩

def run (T : Tab) (l : List OpRec) : Tab := l.foldl (fun T x => doT T x.k x.s) T
/-- A table of the call's own, in a world that differs from the first one in new blocks alone. -/
def Mine (w0 w : World) (p g : Nat) (T : Tab) : Prop := TabIs w p g T (fun k => w0.heap.size ≤ k) ∧ Below w0.heap.size w0 w
theorem Mine.does {w0 w w' : World} {p g g' : Nat} {T T' : Tab} (h : Mine w0 w p g T) (hd : Does w w' p g' T' (fun k => w0.heap.size ≤ k)) : Mine w0 w' p g' T' := by
  have hs := h.2.size
  refine ⟨hd.1.mono (fun k hk => ?_), h.2.trans (hd.2.below hs (fun _ hk => hk))⟩
  rcases hk with hk | hk
  · exact hk
  · omega
theorem Mine.drawn {w0 w w' : World} {p g : Nat} {T : Tab} (h : Mine w0 w p g T) (hd : Drawn0 w w') : Mine w0 w' p g T := by
  obtain ⟨n, rfl⟩ := hd
  exact ⟨h.1.move (fun _ _ => rfl), ⟨h.2.os, h.2.tape, h.2.output, h.2.size, h.2.block⟩⟩
theorem Mine.blanks {w0 w : World} {p g : Nat} {T : Tab} (h : Mine w0 w p g T) (hb : SymScan.Blanks w0) : SymScan.Blanks w := hb.move (h.2.block 0 hb.lt)
theorem Mine.more {w0 w : World} {p g g' : Nat} {T : Tab} (h : Mine w0 w p g T) (hg : g ≤ g') : Mine w0 w p g' T := ⟨h.1.more hg, h.2⟩
theorem Mine.wf {w0 w : World} {p g : Nat} {T : Tab} (h : Mine w0 w p g T) : WF T := h.1.1

/-! ### the calls, with what they answer told -/
section
variable {w0 w : World} {p g : Nat} {T : Tab}
end

/-! ### what is there, asked again -/
section
variable {T : Tab} {n : Nat}
theorem active_at (hn : n < T.syms.length) : activeT T n = (T.act (nameOf T n)).isSome := by
  unfold activeT
  rw [SymReads.there_split.2 ⟨n, rfl, hn⟩]
  rfl
end
end Go.Proofs.YtpoojimmponklaaDoor.SymScript

namespace Go.Proofs.YtpoojimmponklaaDoor.SymBeside
open Go.RowKit Go.Maps Go.Proofs.YtpoojimmponklaaDoor.SymTab Go.Proofs.YtpoojimmponklaaDoor.SymHeap Go.Proofs.YtpoojimmponklaaDoor.SymApi Go.Proofs.YtpoojimmponklaaDoor.SymScript
open Go.Proofs.YtpoojimmponklaaDoorW.PrintWords (Aside0 Drawn0 own_move)
set_option linter.unusedVariables false

/-- A table that lies in F and in what was made since w0; N: the size of memory when the law began. -/
def MineF (N : Nat) (F : Nat → Prop) (w0 w : World) (p g : Nat) (T : Tab) : Prop :=
  TabIs w p g T (fun k => F k ∨ w0.heap.size ≤ k) ∧ Turns (fun k => F k ∨ w0.heap.size ≤ k) w0 w ∧ (∀ k, F k → N ≤ k) ∧ N ≤ w0.heap.size ∧ 0 < N
theorem MineF.does {N : Nat} {F : Nat → Prop} {w0 w w' : World} {p g g' : Nat} {T T' : Tab} (h : MineF N F w0 w p g T) (hd : Does w w' p g' T' (fun k => F k ∨ w0.heap.size ≤ k)) : MineF N F w0 w' p g' T' := by
  obtain ⟨h1, h2, h3⟩ := h
  have hs := h2.size
  refine ⟨hd.1.mono (fun k hk => ?_), h2.trans hd.2 (fun k hk => .inl hk), h3⟩
  rcases hk with hk | hk
  · exact hk
  · right; omega
theorem MineF.drawn {N : Nat} {F : Nat → Prop} {w0 w w' : World} {p g : Nat} {T : Tab} (h : MineF N F w0 w p g T) (hd : Drawn0 w w') : MineF N F w0 w' p g T := by
  obtain ⟨n, rfl⟩ := hd
  obtain ⟨h1, h2, h3⟩ := h
  exact ⟨h1.move (fun _ _ => rfl), ⟨h2.os, h2.tape, h2.output, h2.size, h2.block⟩, h3⟩
theorem MineF.past {N : Nat} {F : Nat → Prop} {w0 w w' : World} {p g : Nat} {T : Tab} (h : MineF N F w0 w p g T) (hb : Below w.heap.size w w') : MineF N F w0 w' p g T := by
  obtain ⟨h1, h2, h3⟩ := h
  exact ⟨(h1.bound.move (fun k hk => hb.block k hk.2)).mono (fun k hk => hk.1), h2.trans (fp' := fun _ => False) ⟨hb.os, hb.tape, hb.output, hb.size, fun i hi _ => hb.block i hi⟩ (fun k hk => hk.elim), h3⟩
theorem MineF.alloc {N : Nat} {F : Nat → Prop} {w0 w : World} {p g : Nat} {T : Tab} (h : MineF N F w0 w p g T) (o : Obj) : MineF N F w0 (w.alloc o) p g T :=
  h.past ((Below.refl _ w).alloc (Nat.le_refl _) o)
theorem MineF.below {N : Nat} {F : Nat → Prop} {w0 w : World} {p g : Nat} {T : Tab} (h : MineF N F w0 w p g T) : Below N w0 w :=
  h.2.1.below h.2.2.2.1 (fun k hk => by rcases hk with hk | hk; exact h.2.2.1 k hk; have := h.2.2.2.1; omega)
theorem MineF.blanks {N : Nat} {F : Nat → Prop} {w0 w : World} {p g : Nat} {T : Tab} (h : MineF N F w0 w p g T) (hb : SymScan.Blanks w0) : SymScan.Blanks w :=
  hb.move (h.below.block 0 h.2.2.2.2)
theorem MineF.more {N : Nat} {F : Nat → Prop} {w0 w : World} {p g g' : Nat} {T : Tab} (h : MineF N F w0 w p g T) (hg : g ≤ g') : MineF N F w0 w p g' T := ⟨h.1.more hg, h.2⟩
theorem MineF.wf {N : Nat} {F : Nat → Prop} {w0 w : World} {p g : Nat} {T : Tab} (h : MineF N F w0 w p g T) : WF T := h.1.1
/-- A row of the caller's own stays. -/
theorem MineF.row {N : Nat} {F : Nat → Prop} {w0 w : World} {p g : Nat} {T : Tab} (h : MineF N F w0 w p g T) {base e size n : Nat} {v : Value} {xs : List Value} (hr : w0.ownsRow base e size v n xs) (hn : ∀ k, v.ownBlock = some k → ¬ F k) : w.ownsRow base e size v n xs :=
  own_move hr (fun k hk => h.2.1.block k (hr.lt k hk).2 (fun e => by rcases e with e | e; exact hn k hk e; have := (hr.lt k hk).2; omega))
/-- What has been made beside the table (nothing that was there has turned, but a row that is not the table's) lies out of its way. -/
theorem MineF.rebase {N : Nat} {F : Nat → Prop} {w0 w w1 : World} {p g : Nat} {T : Tab} (h : MineF N F w0 w p g T) {R : Nat → Prop} (ht : Turns R w w1) (hR : ∀ k, R k → k < w.heap.size → ¬ F k ∧ k < w0.heap.size) :
    MineF N (fun k => (F k ∨ w0.heap.size ≤ k) ∧ k < w.heap.size) w1 w1 p g T := by
  obtain ⟨h1, h2, h3, h4, h5⟩ := h
  refine ⟨(h1.bound.move (fun k hk => ht.block k hk.2 (fun e => ?_))).mono (fun k hk => .inl hk), Turns.refl _ _, fun k hk => ?_, Nat.le_trans h4 (Nat.le_trans h2.size ht.size), h5⟩
  · obtain ⟨a, b⟩ := hR k e hk.2
    rcases hk.1 with hk | hk
    · exact a hk
    · omega
  · rcases hk.1 with hk | hk
    · exact h3 k hk
    · omega
theorem MineF.start {w0 w : World} {p g : Nat} {T : Tab} (h : Mine w0 w p g T) (h0 : 0 < w0.heap.size) : MineF w0.heap.size (fun k => w0.heap.size ≤ k ∧ k < w.heap.size) w w p g T := by
  refine ⟨h.1.bound.mono (fun k hk => .inl hk), Turns.refl _ _, fun k hk => hk.1, h.2.size, h0⟩

/-! ### the calls, with what they answer told -/
section
variable {N : Nat} {F : Nat → Prop} {w0 w : World} {p g : Nat} {T : Tab}
end

end Go.Proofs.YtpoojimmponklaaDoor.SymBeside

namespace Go.Proofs.YtpoojimmponklaaDoor.SymLists
open Go.RowKit Go.Maps Go.Proofs.YtpoojimmponklaaDoor.SymTab Go.Proofs.YtpoojimmponklaaDoor.SymHeap Go.Proofs.YtpoojimmponklaaDoor.SymApi Go.Proofs.YtpoojimmponklaaDoor.SymScript Go.Proofs.YtpoojimmponklaaDoor.SymReads Go.Proofs.YtpoojimmponklaaDoor.SymBeside
open Go.Proofs.YtpoojimmponklaaDoorW.PrintWords (Aside0 Drawn0 own_move)
set_option linter.unusedVariables false

structure RowOf where
  e : TypeId
  v : Value
  xs : List Value

def Lies (N : Nat) (F : Nat → Prop) (w : World) (rows : List RowOf) : Prop :=
  ∀ r ∈ rows, w.ownsRow N r.e 1 r.v r.xs.length r.xs ∧ ∀ k, r.v.ownBlock = some k → ¬ F k
/-- W: the world in which the law began. -/
def Besides (W w : World) (p g : Nat) (T : Tab) (rows : List RowOf) : Prop :=
  Below W.heap.size W w ∧ ∃ F, MineF W.heap.size F w w p g T ∧ Lies W.heap.size F w rows

section
variable {W w w' : World} {p g : Nat} {T : Tab} {rows : List RowOf}
theorem Besides.start {w0 : World} (h : Mine w0 w p g T) (h0 : 0 < w0.heap.size) : Besides w0 w p g T [] := ⟨h.2, _, MineF.start h h0, fun r hr => by simp at hr⟩
theorem Lies.table {N : Nat} {F : Nat → Prop} {g' : Nat} {T' : Tab} (h : Lies N F w rows) (hm : MineF N F w w' p g' T') : ∃ F', MineF N F' w' w' p g' T' ∧ Lies N F' w' rows := by
  refine ⟨_, hm.rebase (R := fun _ => False) (Turns.refl _ _) (fun k hk => hk.elim), fun r hr => ?_⟩
  obtain ⟨h1, h2⟩ := h r hr
  refine ⟨hm.row h1 h2, fun k hk hF => ?_⟩
  have := (h1.lt k hk).2
  rcases hF.1 with hF | hF
  · exact h2 k hk hF
  · omega
theorem Besides.table {F : Nat → Prop} {g' : Nat} {T' : Tab} (hB : Below W.heap.size W w) (h : Lies W.heap.size F w rows) (hm : MineF W.heap.size F w w' p g' T') : Besides W w' p g' T' rows :=
  ⟨hB.trans hm.below, h.table hm⟩
theorem Besides.wf (h : Besides W w p g T rows) : WF T := by
  obtain ⟨_, F, hm, _⟩ := h
  exact hm.wf
theorem Besides.more (h : Besides W w p g T rows) {g' : Nat} (hg : g ≤ g') : Besides W w p g' T rows := by
  obtain ⟨hB, F, hm, hr⟩ := h
  exact ⟨hB, F, hm.more hg, hr⟩
theorem Besides.past (h : Besides W w p g T rows) (hb : Below w.heap.size w w') : Besides W w' p g T rows := by
  obtain ⟨hB, F, hm, hr⟩ := h
  exact Besides.table hB hr (hm.past hb)
theorem Besides.alloc (h : Besides W w p g T rows) (o : Obj) : Besides W (w.alloc o) p g T rows := h.past ((Below.refl _ w).alloc (Nat.le_refl _) o)
theorem Besides.drawn (h : Besides W w p g T rows) (hd : Drawn0 w w') : Besides W w' p g T rows := by
  obtain ⟨n, rfl⟩ := hd
  exact h.past ⟨rfl, rfl, rfl, Nat.le_refl _, fun _ _ => rfl⟩
theorem Besides.pos (h : Besides W w p g T rows) : 0 < W.heap.size := by
  obtain ⟨_, F, hm, _⟩ := h
  exact hm.2.2.2.2
theorem Besides.blanks (h : Besides W w p g T rows) (hb : SymScan.Blanks W) : SymScan.Blanks w := hb.move (h.1.block 0 h.pos)
theorem Besides.swap {a b : RowOf} (h : Besides W w p g T (a :: b :: rows)) : Besides W w p g T (b :: a :: rows) := by
  obtain ⟨hB, F, hm, hr⟩ := h
  refine ⟨hB, F, hm, fun r hrr => hr r ?_⟩
  simp only [List.mem_cons] at hrr ⊢
  rcases hrr with h | h | h
  · exact .inr (.inl h)
  · exact .inl h
  · exact .inr (.inr h)
theorem Besides.tail {a : RowOf} (h : Besides W w p g T (a :: rows)) : Besides W w p g T rows := by
  obtain ⟨hB, F, hm, hr⟩ := h
  exact ⟨hB, F, hm, fun r hrr => hr r (List.mem_cons_of_mem _ hrr)⟩
theorem Besides.lit (h : Besides W w p g T rows) (e : TypeId) (xs : List Value) (hx : xs.length ≤ maxLen) :
    Besides W (w.alloc (.cells xs.toArray e)) p g T (⟨e, .slice (some ⟨w.heap.size, 0, none⟩) xs.length xs.length, xs⟩ :: rows) := by
  obtain ⟨hB, F, hm, hr⟩ := h
  have hsz := hB.size
  refine ⟨hB.alloc hsz _, _, hm.rebase (R := fun _ => False) (Turns.alloc _ w (.cells xs.toArray e)) (fun k hk => hk.elim), fun r hrr => ?_⟩
  rcases List.mem_cons.1 hrr with rfl | hrr
  · refine ⟨⟨by simp, .inr ⟨w.heap.size, xs.length, xs.toArray, rfl, hsz, heap_alloc_new _ _, Nat.le_refl _, hx, by simp, by simp⟩⟩, fun k hk hF => ?_⟩
    simp only [Value.ownBlock, Option.some.injEq] at hk
    omega
  · obtain ⟨h1, h2⟩ := hr r hrr
    refine ⟨own_move h1 (fun k hk => Below.heap_alloc w _ k (h1.lt k hk).2), fun k hk hF => ?_⟩
    have := (h1.lt k hk).2
    rcases hF.1 with hF | hF
    · exact h2 k hk hF
    · omega
theorem Besides.own {r : RowOf} (h : Besides W w p g T rows) (hr : r ∈ rows) : w.ownsRow W.heap.size r.e 1 r.v r.xs.length r.xs := by
  obtain ⟨_, F, _, h2⟩ := h
  exact (h2 r hr).1
theorem Besides.appended {e : TypeId} {v v' u : Value} {xs : List Value} {n : Nat} (h : Besides W w p g T (⟨e, v, xs⟩ :: rows)) (hne : ∀ r ∈ rows, r.e ≠ e) (hn : xs.length = n)
    (hown : w'.ownsRow W.heap.size e 1 v' (n + 1) (xs ++ [u])) (hgrow : w.grownBy w' v.ownBlock) (hat : v'.ownBlock = v.ownBlock ∨ v'.ownBlock = some w.heap.size) : Besides W w' p g T (⟨e, v', xs ++ [u]⟩ :: rows) := by
  obtain ⟨hB, F, hm, hr⟩ := h
  obtain ⟨h1, h2⟩ := hr _ (List.mem_cons_self ..)
  have hsz := hB.size
  have ht : Turns (fun k => v.ownBlock = some k) w w' := Turns.of_grown hgrow (fun k hk => hk)
  refine ⟨hB.trans (ht.below hsz (fun k hk => (h1.lt k hk).1)), _, hm.rebase ht (fun k hk hlt => ⟨h2 k hk, hlt⟩), fun r hrr => ?_⟩
  rcases List.mem_cons.1 hrr with rfl | hrr
  · refine ⟨by simpa [hn] using hown, fun k hk hF => ?_⟩
    rcases hat with e | e
    · rw [show (RowOf.mk _ v' _).v.ownBlock = _ from e] at hk
      have := (h1.lt k hk).2
      rcases hF.1 with hF | hF
      · exact h2 k hk hF
      · omega
    · rw [show (RowOf.mk _ v' _).v.ownBlock = _ from e] at hk
      simp only [Option.some.injEq] at hk
      omega
  · obtain ⟨h3, h4⟩ := hr r (List.mem_cons_of_mem _ hrr)
    refine ⟨own_move h3 (fun k hk => ht.block k (h3.lt k hk).2 (fun hv => ?_)), fun k hk hF => ?_⟩
    · obtain ⟨c1, z1, e1⟩ := Go.Lib.ownsRow_kind h1 k hv
      obtain ⟨c2, z2, e2⟩ := Go.Lib.ownsRow_kind h3 k hk
      rw [e1] at e2
      simp only [Option.some.injEq, Obj.cells.injEq] at e2
      exact hne r hrr e2.2.1.symm
    · have := (h3.lt k hk).2
      rcases hF.1 with hF | hF
      · exact h4 k hk hF
      · omega

/-! ### the calls -/
end
end Go.Proofs.YtpoojimmponklaaDoor.SymLists

namespace Go.Proofs.YtpoojimmponklaaDoor.SymLabelsPure
open Go.RowKit Go.Maps Go.Proofs.YtpoojimmponklaaDoor.SymTab Go.Proofs.YtpoojimmponklaaDoor.SymHeap Go.Proofs.YtpoojimmponklaaDoor.SymApi Go.Proofs.YtpoojimmponklaaDoor.SymScript Go.Proofs.YtpoojimmponklaaDoor.SymLists Go.Proofs.YtpoojimmponklaaDoor.SymScan Go.Proofs.YtpoojimmponklaaDoor.SymName Go.Proofs.YtpoojimmponklaaDoor.PSymLabels
open Go.Proofs.YtpoojimmponklaaDoorW.PrintWords
set_option linter.unusedVariables false

/-! ### good -/
/-! ### has, same -/
theorem toList_inj {s t : ByteArray} : s.toList = t.toList ↔ s = t := by
  rw [ByteArray.toList_eq, ByteArray.toList_eq]
  constructor
  · intro h
    cases s; cases t
    simpa using h
  · intro h
    rw [h]
theorem same_l0 (l : List ByteArray) (hl : l.length ≤ 1048576) (d : Nat) : ∀ (k i : Nat), i ≤ l.length → l.length - i = d → d < k → lemmalaw02_same.l0 k l l (i : Int) = some true := by
  induction d with
  | zero =>
    intro k i h1 hd hk
    obtain ⟨k, rfl⟩ : ∃ m, k = m + 1 := ⟨k - 1, by omega⟩
    simp only [lemmalaw02_same.l0]
    rw [if_neg (by omega)]
  | succ d ih =>
    intro k i h1 hd hk
    obtain ⟨k, rfl⟩ : ∃ m, k = m + 1 := ⟨k - 1, by omega⟩
    simp only [lemmalaw02_same.l0]
    rw [if_pos (by omega), if_pos (by omega), if_pos (by omega), if_pos trivial, show wrap64 ((i : Int) + 1) = ((i + 1 : Nat) : Int) from by unfold wrap64; omega]
    exact ih k (i + 1) (by omega) (by omega) (by omega)
/-! ### lists and the table's own labels -/
theorem reads {W w : World} {p g : Nat} {T : Tab} {rows : List RowOf} {e : TypeId} {v : Value} {l : List ByteArray} (h : Besides W w p g T (⟨e, v, l.map Value.string⟩ :: rows)) :
    ∃ A c, v = .slice A l.length c ∧ l.length ≤ c ∧ Kd.C Kd.string w A l.length l := by
  have ho := h.own (List.mem_cons_self ..)
  simp only [List.length_map] at ho
  exact Kd.R_reads (Kd.R_of_own (enc := Value.string) (h1 := fun _ => rfl) (ok := fun _ => True) ho (fun _ _ => trivial))
end Go.Proofs.YtpoojimmponklaaDoor.SymLabelsPure

namespace Go.Proofs.YtpoojimmponklaaDoor.SymSep
open Go.RowKit Go.Maps Go.Proofs.YtpoojimmponklaaDoor.SymTab Go.Proofs.YtpoojimmponklaaDoor.SymHeap Go.Proofs.YtpoojimmponklaaDoor.SymReads Go.Proofs.YtpoojimmponklaaDoor.SymApi
open Go.Proofs.YtpoojimmponklaaDoorW.PrintWords (Aside0 Drawn0 own_move)
set_option linter.unusedVariables false

/-- A thing in memory: what it says of a world, of the blocks that it takes (and of no others). -/
structure Res where
  at_ : World → (Nat → Prop) → Prop
  move : ∀ {w w' : World} {f : Nat → Prop}, at_ w f → (∀ k, f k → w'.heap[k]? = w.heap[k]?) → at_ w' f
  mono : ∀ {w : World} {f g : Nat → Prop}, at_ w f → (∀ k, f k → g k) → at_ w g
  bound : ∀ {w : World} {f : Nat → Prop}, at_ w f → at_ w (fun k => f k ∧ k < w.heap.size)
def SepF (N : Nat) (w : World) : List Res → (Nat → Prop) → Prop
  | [], _ => True
  | r :: rs, fp => ∃ f g, r.at_ w f ∧ SepF N w rs g ∧ (∀ k, f k → ¬ g k) ∧ (∀ k, f k → fp k ∧ N ≤ k ∧ k < w.heap.size) ∧ (∀ k, g k → fp k)
/-- W: the world in which the law began. -/
def Sep (W w : World) (rs : List Res) : Prop := Below W.heap.size W w ∧ ∃ fp, SepF W.heap.size w rs fp ∧ ∀ k, fp k → W.heap.size ≤ k ∧ k < w.heap.size

section
variable {W w w' : World} {N : Nat} {r r' a b : Res} {rs : List Res}
theorem SepF.move {fp : Nat → Prop} (h : SepF N w rs fp) (hm : ∀ k, fp k → w'.heap[k]? = w.heap[k]?) (hs : w.heap.size ≤ w'.heap.size) : SepF N w' rs fp := by
  induction rs generalizing fp with
  | nil => trivial
  | cons r rs ih =>
    obtain ⟨f, g, h1, h2, h3, h4, h5⟩ := h
    exact ⟨f, g, r.move h1 (fun k hk => hm k (h4 k hk).1), ih h2 (fun k hk => hm k (h5 k hk)), h3, fun k hk => ⟨(h4 k hk).1, (h4 k hk).2.1, Nat.lt_of_lt_of_le (h4 k hk).2.2 hs⟩, h5⟩
theorem SepF.mono {fp fp' : Nat → Prop} (h : SepF N w rs fp) (hm : ∀ k, fp k → fp' k) : SepF N w rs fp' := by
  cases rs with
  | nil => trivial
  | cons r rs =>
    obtain ⟨f, g, h1, h2, h3, h4, h5⟩ := h
    exact ⟨f, g, h1, h2, h3, fun k hk => ⟨hm k (h4 k hk).1, (h4 k hk).2⟩, fun k hk => hm k (h5 k hk)⟩
theorem Sep.start (W : World) : Sep W W [] := ⟨Below.refl _ _, fun _ => False, trivial, fun _ h => h.elim⟩
theorem Sep.past (h : Sep W w rs) (ht : Turns (fun _ => False) w w') : Sep W w' rs := by
  obtain ⟨hB, fp, h1, h2⟩ := h
  exact ⟨hB.trans (ht.below hB.size (fun _ h => h.elim)), fp, h1.move (fun k hk => ht.block k (h2 k hk).2 (fun x => x)) ht.size, fun k hk => ⟨(h2 k hk).1, Nat.lt_of_lt_of_le (h2 k hk).2 ht.size⟩⟩
theorem Sep.drawn (h : Sep W w rs) (hd : Drawn0 w w') : Sep W w' rs := by
  obtain ⟨n, rfl⟩ := hd
  exact h.past (Turns.drewN w n)
theorem Sep.below (h : Sep W w rs) (hb : Below w.heap.size w w') : Sep W w' rs := h.past ⟨hb.os, hb.tape, hb.output, hb.size, fun k hk _ => hb.block k hk⟩
theorem Sep.alloc (h : Sep W w rs) (o : Obj) : Sep W (w.alloc o) rs := h.past (Turns.alloc _ w o)
theorem Sep.tail (h : Sep W w (r :: rs)) : Sep W w rs := by
  obtain ⟨hB, fp, ⟨f, g, h1, h2, h3, h4, h5⟩, h6⟩ := h
  exact ⟨hB, g, h2, fun k hk => h6 k (h5 k hk)⟩
theorem Sep.swap (h : Sep W w (a :: b :: rs)) : Sep W w (b :: a :: rs) := by
  obtain ⟨hB, fp, ⟨f, g, h1, ⟨f2, g2, k1, k2, k3, k4, k5⟩, h3, h4, h5⟩, h6⟩ := h
  refine ⟨hB, fp, ⟨f2, fun k => f k ∨ g2 k, k1, ⟨f, g2, h1, k2, fun k hk hk2 => h3 k hk (k5 k hk2), fun k hk => ⟨.inl hk, (h4 k hk).2⟩, fun k hk => .inr hk⟩, fun k hk => ?_, fun k hk => ⟨h5 k (k4 k hk).1, (k4 k hk).2⟩, fun k hk => ?_⟩, h6⟩
  · rintro (hk2 | hk2)
    · exact h3 k hk2 (k4 k hk).1
    · exact k3 k hk hk2
  · rcases hk with hk | hk
    · exact (h4 k hk).1
    · exact h5 k (k5 k hk)
theorem SepF.swap {fp : Nat → Prop} (h : SepF N w (a :: b :: rs) fp) : SepF N w (b :: a :: rs) fp := by
  obtain ⟨f, g, h1, ⟨f2, g2, k1, k2, k3, k4, k5⟩, h3, h4, h5⟩ := h
  refine ⟨f2, fun k => f k ∨ g2 k, k1, ⟨f, g2, h1, k2, fun k hk hk2 => h3 k hk (k5 k hk2), fun k hk => ⟨.inl hk, (h4 k hk).2⟩, fun k hk => .inr hk⟩, fun k hk => ?_, fun k hk => ⟨h5 k (k4 k hk).1, (k4 k hk).2⟩, fun k hk => ?_⟩
  · rintro (hk2 | hk2)
    · exact h3 k hk2 (k4 k hk).1
    · exact k3 k hk hk2
  · rcases hk with hk | hk
    · exact (h4 k hk).1
    · exact h5 k (k5 k hk)
theorem SepF.perm {rs rs' : List Res} (hp : rs.Perm rs') : ∀ {fp : Nat → Prop}, SepF N w rs fp → SepF N w rs' fp := by
  induction hp with
  | nil => exact fun h => h
  | cons r _ ih =>
    rintro fp ⟨f, g, h1, h2, h3⟩
    exact ⟨f, g, h1, ih h2, h3⟩
  | swap a b l => exact fun h => h.swap
  | trans _ _ ih1 ih2 => exact fun h => ih2 (ih1 h)
theorem Sep.perm {rs rs' : List Res} (h : Sep W w rs) (hp : rs.Perm rs') : Sep W w rs' := by
  obtain ⟨hB, fp, h1, h2⟩ := h
  exact ⟨hB, fp, h1.perm hp, h2⟩
theorem pull_perm {α : Type} : ∀ (l : List α) (i : Nat) (hi : i < l.length), l.Perm (l[i] :: l.eraseIdx i)
  | a :: l, 0, _ => List.Perm.refl _
  | a :: l, i + 1, hi => (List.Perm.cons a (pull_perm l i (by simpa using hi))).trans (List.Perm.swap _ _ _)
/-- One of the things taken to the front. -/
theorem Sep.pull {rs : List Res} (h : Sep W w rs) (i : Nat) (hi : i < rs.length) : Sep W w (rs[i] :: rs.eraseIdx i) := h.perm (pull_perm rs i hi)
/-- The first thing turns. -/
theorem Sep.turn (h : Sep W w (r :: rs)) (hd : ∀ f, r.at_ w f → r'.at_ w' (More f w.heap.size) ∧ Turns f w w') : Sep W w' (r' :: rs) := by
  obtain ⟨hB, fp, ⟨f, g, h1, h2, h3, h4, h5⟩, h6⟩ := h
  obtain ⟨h7, ht⟩ := hd f h1
  have hs := ht.size
  have hs1 := hB.size
  refine ⟨hB.trans (ht.below hs1 (fun k hk => (h4 k hk).2.1)), fun k => (fp k ∨ w.heap.size ≤ k) ∧ k < w'.heap.size, ⟨fun k => More f w.heap.size k ∧ k < w'.heap.size, g, r'.bound h7, h2.move (fun k hk => ht.block k (h6 k (h5 k hk)).2 (fun hf => h3 k hf hk)) hs, fun k hk hk2 => ?_, fun k hk => ⟨⟨?_, hk.2⟩, ?_, hk.2⟩, fun k hk => ⟨.inl (h5 k hk), Nat.lt_of_lt_of_le (h6 k (h5 k hk)).2 hs⟩⟩, fun k hk => ⟨?_, hk.2⟩⟩
  · rcases hk.1 with hk | hk
    · exact h3 k hk hk2
    · have := (h6 k (h5 k hk2)).2
      omega
  · rcases hk.1 with hk | hk
    · exact .inl (h4 k hk).1
    · exact .inr hk
  · rcases hk.1 with hk | hk
    · exact (h4 k hk).2.1
    · omega
  · rcases hk.1 with hk | hk
    · exact (h6 k hk).1
    · omega
/-- A new thing. -/
theorem Sep.fresh (h : Sep W w rs) (ht : Turns (fun _ => False) w w') {f : Nat → Prop} (hr : r.at_ w' f) (hf : ∀ k, f k → w.heap.size ≤ k) : Sep W w' (r :: rs) := by
  have h' := h.past ht
  obtain ⟨hB, fp, h1, h2⟩ := h
  have hs := ht.size
  have hs1 := hB.size
  refine ⟨h'.1, fun k => (fp k ∨ w.heap.size ≤ k) ∧ k < w'.heap.size, ⟨fun k => f k ∧ k < w'.heap.size, fp, r.bound hr, h1.move (fun k hk => ht.block k (h2 k hk).2 (fun x => x)) hs, fun k hk hk2 => ?_, fun k hk => ⟨⟨.inr (hf k hk.1), hk.2⟩, ?_, hk.2⟩, fun k hk => ⟨.inl hk, Nat.lt_of_lt_of_le (h2 k hk).2 hs⟩⟩, fun k hk => ⟨?_, hk.2⟩⟩
  · have := hf k hk.1
    have := (h2 k hk2).2
    omega
  · have := hf k hk.1; omega
  · rcases hk.1 with hk | hk
    · exact (h2 k hk).1
    · omega
theorem Sep.head (h : Sep W w (r :: rs)) : ∃ f, r.at_ w f ∧ ∀ k, f k → W.heap.size ≤ k ∧ k < w.heap.size := by
  obtain ⟨hB, fp, ⟨f, g, h1, h2, h3, h4, h5⟩, h6⟩ := h
  exact ⟨f, h1, fun k hk => (h4 k hk).2⟩
/-- Two things taken as one; one thing told otherwise. -/
theorem Sep.join (h : Sep W w (a :: b :: rs)) (hj : ∀ f g, a.at_ w f → b.at_ w g → r.at_ w (fun k => f k ∨ g k)) : Sep W w (r :: rs) := by
  obtain ⟨hB, fp, ⟨f, g, h1, ⟨f2, g2, k1, k2, k3, k4, k5⟩, h3, h4, h5⟩, h6⟩ := h
  refine ⟨hB, fp, ⟨fun k => f k ∨ f2 k, g2, hj f f2 h1 k1, k2, fun k hk hk2 => ?_, fun k hk => ?_, fun k hk => h5 k (k5 k hk)⟩, h6⟩
  · rcases hk with hk | hk
    · exact h3 k hk (k5 k hk2)
    · exact k3 k hk hk2
  · rcases hk with hk | hk
    · exact h4 k hk
    · exact ⟨h5 k (k4 k hk).1, (k4 k hk).2⟩
theorem Sep.told (h : Sep W w (a :: rs)) (hj : ∀ f, a.at_ w f → r.at_ w f) : Sep W w (r :: rs) := by
  obtain ⟨hB, fp, ⟨f, g, h1, h2⟩, h6⟩ := h
  exact ⟨hB, fp, ⟨f, g, hj f h1, h2⟩, h6⟩
theorem Sep.calls {f : FuncId} {args : Array Value} {P : Ending → Prop} (h : Sep W w (r :: rs)) (hd : ∀ F1, r.at_ w F1 → Calls Tryd.prog f args w fun e w' => P e ∧ r'.at_ w' (More F1 w.heap.size) ∧ Turns F1 w w') :
    Calls Tryd.prog f args w fun e w' => P e ∧ Sep W w' (r' :: rs) := by
  have h' := h
  obtain ⟨hB, fp, ⟨F1, g, h1, h2, h3, h4, h5⟩, h6⟩ := h'
  refine (hd F1 h1).mono fun e w' ⟨he, hx, ht⟩ => ⟨he, ?_⟩
  have hs := ht.size
  have hs1 := hB.size
  refine ⟨hB.trans (ht.below hs1 (fun k hk => (h4 k hk).2.1)), fun k => (fp k ∨ w.heap.size ≤ k) ∧ k < w'.heap.size, ⟨fun k => More F1 w.heap.size k ∧ k < w'.heap.size, g, r'.bound hx, h2.move (fun k hk => ht.block k (h6 k (h5 k hk)).2 (fun hf => h3 k hf hk)) hs, fun k hk hk2 => ?_, fun k hk => ⟨⟨?_, hk.2⟩, ?_, hk.2⟩, fun k hk => ⟨.inl (h5 k hk), Nat.lt_of_lt_of_le (h6 k (h5 k hk)).2 hs⟩⟩, fun k hk => ⟨?_, hk.2⟩⟩
  · rcases hk.1 with hk | hk
    · exact h3 k hk hk2
    · have := (h6 k (h5 k hk2)).2
      omega
  · rcases hk.1 with hk | hk
    · exact .inl (h4 k hk).1
    · exact .inr hk
  · rcases hk.1 with hk | hk
    · exact (h4 k hk).2.1
    · omega
  · rcases hk.1 with hk | hk
    · exact (h6 k hk).1
    · omega
end

/-- A table of symbols. -/
def tabR (p g : Nat) (T : Tab) : Res := ⟨fun w f => TabIs w p g T f, fun h hm => h.move hm, fun h hm => h.mono hm, fun h => h.bound⟩
/-- A row: a list of one's own. -/
def RowAt (w : World) (e : TypeId) (size : Nat) (v : Value) (n : Nat) (xs : List Value) (f : Nat → Prop) : Prop := w.ownsRow 0 e size v n xs ∧ ∀ k, v.ownBlock = some k → f k
def rowR (e : TypeId) (size : Nat) (v : Value) (n : Nat) (xs : List Value) : Res :=
  ⟨fun w f => RowAt w e size v n xs f, fun h hm => ⟨own_move h.1 (fun k hk => hm k (h.2 k hk)), h.2⟩, fun h hm => ⟨h.1, fun k hk => hm k (h.2 k hk)⟩, fun h => ⟨h.1, fun k hk => ⟨h.2 k hk, (h.1.lt k hk).2⟩⟩⟩

section
variable {W w w' : World} {rs : List Res} {e size n m : Nat} {v v' : Value} {xs ys : List Value}
theorem Sep.row (h : Sep W w (rowR e size v n xs :: rs)) : w.ownsRow 0 e size v n xs := by
  obtain ⟨f, h1, _⟩ := h.head
  exact h1.1
/-- Behind the law of append. -/
theorem Sep.appended (h : Sep W w (rowR e size v n xs :: rs)) (hown : w'.ownsRow 0 e size v' m ys) (hgrow : w.grownBy w' v.ownBlock) (hat : v'.ownBlock = v.ownBlock ∨ v'.ownBlock = some w.heap.size) : Sep W w' (rowR e size v' m ys :: rs) := by
  refine h.turn fun f ⟨h1, h2⟩ => ⟨⟨hown, fun k hk => ?_⟩, Turns.of_grown hgrow (fun k hk => h2 k hk)⟩
  rcases hat with e | e
  · rw [e] at hk
    exact .inl (h2 k hk)
  · rw [e] at hk
    right
    have := Option.some.inj hk
    omega
/-- Behind a store into it. -/
theorem Sep.stored {b c j : Nat} {u : Value} (h : Sep W w (rowR e 1 (.slice (some ⟨b, 0, none⟩) n c) n xs :: rs)) (hj : j < n) (hu : u.oneCell' = true) :
    Sep W (w.setCell ⟨b, j, none⟩ u) (rowR e 1 (.slice (some ⟨b, 0, none⟩) n c) n (xs.set j u) :: rs) := by
  refine h.turn fun f ⟨h1, h2⟩ => ⟨⟨?_, fun k hk => .inl (h2 k hk)⟩, Turns.setCell w ⟨b, j, none⟩ u (h2 b rfl)⟩
  refine ⟨by have := h1.1; simpa using this, .inr ?_⟩
  rcases h1.2 with ⟨e1, _⟩ | ⟨g', cap', cur, e1, hb, hgg, hn, hc, hsz, htk⟩
  · cases e1
  · simp only [Value.slice.injEq, Option.some.injEq, Addr.mk.injEq, and_true, true_and] at e1
    obtain ⟨rfl, rfl⟩ := e1
    refine ⟨b, c, cur.setIfInBounds j u, rfl, hb, set_block hgg _ _, hn, hc, by simpa using hsz, ?_⟩
    rw [Array.toList_setIfInBounds, List.take_set, htk]
end
end Go.Proofs.YtpoojimmponklaaDoor.SymSep
