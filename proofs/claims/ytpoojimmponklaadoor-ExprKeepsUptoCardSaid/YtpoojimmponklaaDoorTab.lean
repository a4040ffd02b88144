/- The table of symbols and labels as a plain value, and what each call makes of it. -/
namespace Go.Proofs.YtpoojimmponklaaDoor.SymTab

structure Tab where
  syms : List (ByteArray × Bool)
  act : ByteArray → Option Nat
  scopes : List (List Nat)
  labels : List ByteArray

def idx : List (ByteArray × Bool) → ByteArray → Option Nat
  | [], _ => none
  | x :: l, s => if x.1 = s then some 0 else (idx l s).map (· + 1)
def labIdx : List ByteArray → ByteArray → Option Nat
  | [], _ => none
  | x :: l, s => if x = s then some 0 else (labIdx l s).map (· + 1)
def upd (f : ByteArray → Option Nat) (s : ByteArray) (n : Nat) : ByteArray → Option Nat := fun t => if t = s then some n else f t
def del (f : ByteArray → Option Nat) (s : ByteArray) : ByteArray → Option Nat := fun t => if t = s then none else f t

def byteOk (c : UInt8) : Bool := 33 ≤ c && c ≤ 126 && c != 36
def symOk (s : ByteArray) : Bool := s.data.toList.all byteOk && decide (1 ≤ s.size) && decide (s.size ≤ 32)
def labByte (c : UInt8) : Bool := (97 ≤ c && c ≤ 122) || (65 ≤ c && c ≤ 90) || (48 ≤ c && c ≤ 57) || c == 46 || c == 45 || c == 95
def nameOk (s : ByteArray) : Bool := s.data.toList.all labByte && decide (1 ≤ s.size) && decide (s.size ≤ 32)

def empty : Tab := ⟨[], fun _ => none, [], []⟩
def addLast (l : List (List Nat)) (n : Nat) : List (List Nat) :=
  match l with
  | [] => []
  | [x] => [x ++ [n]]
  | x :: y :: r => x :: addLast (y :: r) n
def added (T : Tab) (s : ByteArray) (b : Bool) : Tab := { T with syms := T.syms ++ [(s, b)] }
def activate (T : Tab) (s : ByteArray) (n : Nat) : Tab := { T with act := upd T.act s n, scopes := addLast T.scopes n }

def openS (T : Tab) : Tab × Nat := if 16 ≤ T.scopes.length then (T, 23) else ({ T with scopes := T.scopes ++ [[]] }, 0)
def nameOf (T : Tab) (v : Nat) : ByteArray := (T.syms.getD v (ByteArray.empty, false)).1
def dels (T : Tab) (f : ByteArray → Option Nat) (l : List Nat) : ByteArray → Option Nat := l.foldl (fun f v => del f (nameOf T v)) f
def closeS (T : Tab) : Tab × Nat :=
  if T.scopes = [] then (T, 23) else ({ T with act := dels T T.act (T.scopes.getLastD []), scopes := T.scopes.dropLast }, 0)
def constT (T : Tab) (s : ByteArray) : Tab × Nat × Nat :=
  if 0 < T.scopes.length then (T, 0, 23) else
  if symOk s = false then (T, 0, 21) else
  if (idx T.syms s).isSome then (T, 0, 20) else
  if 512 ≤ T.syms.length then (T, 0, 22) else
  ({ added T s false with act := upd T.act s T.syms.length }, T.syms.length, 0)
def varT (T : Tab) (s : ByteArray) : Tab × Nat × Nat :=
  if symOk s = false then (T, 0, 21) else
  if (T.act s).isSome then (T, 0, 20) else
  match idx T.syms s with
  | some n => (activate T s n, n, 0)
  | none => if 512 ≤ T.syms.length then (T, 0, 22) else (activate (added T s true) s T.syms.length, T.syms.length, 0)
def labelT (T : Tab) (s : ByteArray) : Tab × Nat :=
  if nameOk s = false then (T, 21) else
  if (labIdx T.labels s).isSome then (T, 20) else
  if 1024 ≤ T.labels.length then (T, 22) else
  ({ T with labels := T.labels ++ [s] }, 0)
def there (T : Tab) (n : Int) : Bool := decide (0 ≤ n) && decide (n < T.syms.length)
def isVarT (T : Tab) (n : Int) : Bool := there T n && (T.syms.getD n.toNat (ByteArray.empty, false)).2
def nameT (T : Tab) (n : Int) : ByteArray := if there T n then nameOf T n.toNat else ByteArray.empty
def activeT (T : Tab) (n : Int) : Bool := there T n && (T.act (nameOf T n.toNat)).isSome
def findT (T : Tab) (s : ByteArray) : Nat × Bool := match T.act s with | some n => (n, true) | none => (0, false)

/-! ### idx -/
theorem idx_lt {l : List (ByteArray × Bool)} {s : ByteArray} {n : Nat} (h : idx l s = some n) : n < l.length ∧ (l.getD n (ByteArray.empty, false)).1 = s := by
  induction l generalizing n with
  | nil => simp [idx] at h
  | cons x l ih =>
    unfold idx at h
    split at h
    · rename_i he
      cases h
      exact ⟨by simp, by simpa using he⟩
    · obtain ⟨m, hm, rfl⟩ := Option.map_eq_some_iff.1 h
      obtain ⟨h1, h2⟩ := ih hm
      exact ⟨by simp only [List.length_cons]; omega, by simpa using h2⟩
theorem idx_snoc {l : List (ByteArray × Bool)} {s : ByteArray} {b : Bool} (h : idx l s = none) : idx (l ++ [(s, b)]) = upd (idx l) s l.length := by
  funext t
  unfold upd
  induction l with
  | nil =>
    simp only [List.nil_append, idx, List.length_nil, Option.map_none]
    by_cases e : s = t
    · simp [e]
    · have e' : ¬ t = s := fun h => e h.symm
      simp [e, e']
  | cons x l ih =>
    unfold idx at h
    split at h
    · cases h
    · rename_i hx
      have h' := Option.map_eq_none_iff.1 h
      have := ih h'
      simp only [List.cons_append, idx, this, List.length_cons]
      by_cases e : t = s
      · subst e
        simp [hx]
      · simp [e]
theorem labIdx_snoc {l : List ByteArray} {s : ByteArray} (h : labIdx l s = none) : labIdx (l ++ [s]) = upd (labIdx l) s l.length := by
  funext t
  unfold upd
  induction l with
  | nil =>
    simp only [List.nil_append, labIdx, List.length_nil, Option.map_none]
    by_cases e : s = t
    · simp [e]
    · have e' : ¬ t = s := fun h => e h.symm
      simp [e, e']
  | cons x l ih =>
    unfold labIdx at h
    split at h
    · cases h
    · rename_i hx
      have h' := Option.map_eq_none_iff.1 h
      have := ih h'
      simp only [List.cons_append, labIdx, this, List.length_cons]
      by_cases e : t = s
      · subst e
        simp [hx]
      · simp [e]
theorem labIdx_some_iff {l : List ByteArray} {s : ByteArray} : (labIdx l s).isSome = true ↔ s ∈ l := by
  induction l with
  | nil => simp [labIdx]
  | cons x l ih =>
    unfold labIdx
    split
    · rename_i he
      simp [he]
    · rename_i he
      have he' : ¬ s = x := fun h => he h.symm
      simp [ih, he']
theorem idx_some_iff {l : List (ByteArray × Bool)} {s : ByteArray} : (idx l s).isSome = true ↔ s ∈ l.map (·.1) := by
  induction l with
  | nil => simp [idx]
  | cons x l ih =>
    unfold idx
    split
    · rename_i he
      simp [he]
    · rename_i he
      have he' : ¬ s = x.1 := fun h => he h.symm
      simp only [Option.isSome_map, ih, List.map_cons, List.mem_cons, he', false_or]
theorem addLast_length (l : List (List Nat)) (n : Nat) : (addLast l n).length = l.length := by
  induction l with
  | nil => rfl
  | cons x l ih =>
    cases l with
    | nil => rfl
    | cons y r => simp only [addLast, List.length_cons] at ih ⊢; omega
theorem addLast_snoc (l : List (List Nat)) (x : List Nat) (n : Nat) : addLast (l ++ [x]) n = l ++ [x ++ [n]] := by
  induction l with
  | nil => rfl
  | cons y l ih =>
    cases l with
    | nil => rfl
    | cons z r => simp only [List.cons_append, addLast] at ih ⊢; rw [ih]

/-! ### what holds of every table -/
structure WF (T : Tab) : Prop where
  few : T.syms.length ≤ 512
  ok : ∀ x ∈ T.syms, symOk x.1 = true
  apart : (T.syms.map (·.1)).Nodup
  act : ∀ s n, T.act s = some n → idx T.syms s = some n
  consts : ∀ n, n < T.syms.length → (T.syms.getD n (ByteArray.empty, false)).2 = false → T.act (nameOf T n) = some n
  deep : T.scopes.length ≤ 16
  vars : ∀ l ∈ T.scopes, ∀ v ∈ l, v < T.syms.length ∧ (T.syms.getD v (ByteArray.empty, false)).2 = true ∧ T.act (nameOf T v) = some v
  once : T.scopes.flatten.Nodup
  labels : T.labels.length ≤ 1024
  labOk : ∀ s ∈ T.labels, nameOk s = true
  labApart : T.labels.Nodup

theorem WF.empty : WF empty := by
  refine ⟨by simp [SymTab.empty], by simp [SymTab.empty], by simp [SymTab.empty], ?_, ?_, by simp [SymTab.empty], ?_, by simp [SymTab.empty], by simp [SymTab.empty], by simp [SymTab.empty], by simp [SymTab.empty]⟩
  · intro s n h; simp [SymTab.empty] at h
  · intro n h; simp [SymTab.empty] at h
  · intro l h; simp [SymTab.empty] at h

theorem nameOf_inj {T : Tab} (h : WF T) {a b : Nat} (ha : a < T.syms.length) (hb : b < T.syms.length) (e : nameOf T a = nameOf T b) : a = b := by
  have hn := h.apart
  unfold nameOf at e
  have h1 : (T.syms.map (·.1))[a]'(by simpa using ha) = (T.syms.map (·.1))[b]'(by simpa using hb) := by
    simpa [ha, hb] using e
  exact (List.getElem_inj hn).1 h1
theorem idx_nameOf {T : Tab} (h : WF T) {n : Nat} (hn : n < T.syms.length) : idx T.syms (nameOf T n) = some n := by
  have hm : nameOf T n ∈ T.syms.map (·.1) := by
    unfold nameOf
    rw [List.getD_eq_getElem?_getD, List.getElem?_eq_getElem hn]
    exact List.mem_map.2 ⟨_, List.getElem_mem hn, rfl⟩
  obtain ⟨m, hm⟩ := Option.isSome_iff_exists.1 (idx_some_iff.2 hm)
  obtain ⟨h1, h2⟩ := idx_lt hm
  have : m = n := nameOf_inj h h1 hn h2
  rw [hm, this]

theorem nameOf_added {T : Tab} {s : ByteArray} {b : Bool} {n : Nat} (hn : n < T.syms.length) : nameOf (added T s b) n = nameOf T n := by
  unfold nameOf added
  simp only [List.getD_eq_getElem?_getD, List.getElem?_append_left hn]
theorem nameOf_new {T : Tab} {s : ByteArray} {b : Bool} : nameOf (added T s b) T.syms.length = s := by
  unfold nameOf added
  simp
end Go.Proofs.YtpoojimmponklaaDoor.SymTab
