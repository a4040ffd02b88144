/- What fold makes of nodes: the different parts, the labels' numbers, the codes: plain functions. -/
namespace Go.Proofs.Ytkonloadedbpkaa.FoldPure
set_option linter.unusedVariables false
set_option linter.unusedSectionVars false

/-! ### where something first stands in a list -/
section
variable {α : Type} [DecidableEq α]
def ix : List α → α → Option Nat
  | [], _ => none
  | x :: l, s => if x = s then some 0 else (ix l s).map (· + 1)
theorem ix_some {l : List α} {s : α} {n : Nat} (h : ix l s = some n) : l[n]? = some s := by
  induction l generalizing n with
  | nil => simp [ix] at h
  | cons x l ih =>
    unfold ix at h
    split at h
    · rename_i e
      cases h
      simp [e]
    · obtain ⟨m, hm, rfl⟩ := Option.map_eq_some_iff.1 h
      simpa using ih hm
theorem ix_none {l : List α} {s : α} : ix l s = none ↔ s ∉ l := by
  induction l with
  | nil => simp [ix]
  | cons x l ih =>
    unfold ix
    split
    · rename_i e
      simp [e]
    · rename_i e
      have e' : ¬ s = x := fun h => e h.symm
      simp [ih, e']
theorem ix_nodup {l : List α} {s : α} {n : Nat} (hl : l.Nodup) (h : l[n]? = some s) : ix l s = some n := by
  induction l generalizing n with
  | nil => simp at h
  | cons x l ih =>
    rw [List.nodup_cons] at hl
    unfold ix
    cases n with
    | zero =>
      have : x = s := by simpa using h
      rw [if_pos this]
    | succ n =>
      have h' : l[n]? = some s := by simpa using h
      have hm : s ∈ l := List.mem_of_getElem? h'
      rw [if_neg (fun (e : x = s) => hl.1 (by rw [e]; exact hm)), ih hl.2 h']
      rfl
theorem ix_snoc {l : List α} {s : α} (h : s ∉ l) (t : α) : ix (l ++ [s]) t = if t = s then some l.length else ix l t := by
  induction l with
  | nil =>
    simp only [List.nil_append, ix, List.length_nil, Option.map_none]
    by_cases e : s = t
    · simp [e]
    · have e' : ¬ t = s := fun h => e h.symm
      simp [e, e']
  | cons x l ih =>
    have hx : ¬ s = x := fun e => h (by simp [e])
    have := ih (fun hm => h (by simp [hm]))
    simp only [List.cons_append, ix, this, List.length_cons]
    by_cases e : t = s
    · subst e
      have hx' : ¬ x = t := fun e => hx e.symm
      simp [hx']
    · simp [e]
theorem nodup_snoc {l : List α} {s : α} (hl : l.Nodup) (h : s ∉ l) : (l ++ [s]).Nodup := by
  rw [List.nodup_append]
  refine ⟨hl, by simp, fun a ha b hb => ?_⟩
  simp at hb
  subst hb
  exact fun e => h (e ▸ ha)
end

/-! ### lists of parts, numbered -/
/-- The lists that are known: the empty one is number 0; with a list its beginnings are known. -/
structure Paths (L : List (List Nat)) : Prop where
  zero : L[0]? = some []
  apart : L.Nodup
  ahead : ∀ p k, p ++ [k] ∈ L → p ∈ L
def listsF (L : List (List Nat)) (x : Nat × Nat) : Option Nat := match L[x.1]? with | some p => ix L (p ++ [x.2]) | none => none
theorem paths_nil : Paths [[]] := ⟨rfl, by simp, fun p k h => by simp at h⟩
theorem listsF_nil : listsF [[]] = fun _ => none := by
  funext x
  obtain ⟨a, k⟩ := x
  unfold listsF
  cases a with
  | zero => simp [ix]
  | succ a => simp
theorem snoc_inj {p q : List Nat} {a b : Nat} (h : p ++ [a] = q ++ [b]) : p = q ∧ a = b := by
  have := List.append_inj' h rfl
  exact ⟨this.1, by simpa using this.2⟩
theorem paths_new {L : List (List Nat)} (h : Paths L) {a k : Nat} {p : List Nat} (ha : L[a]? = some p) (hn : listsF L (a, k) = none) : Paths (L ++ [p ++ [k]]) := by
  have hnew : p ++ [k] ∉ L := by
    unfold listsF at hn
    simp only [ha] at hn
    exact ix_none.1 hn
  refine ⟨?_, nodup_snoc h.apart hnew, fun q j hq => ?_⟩
  · have : 0 < L.length := (List.getElem?_eq_some_iff.1 h.zero).1
    rw [List.getElem?_append_left this]
    exact h.zero
  · rcases List.mem_append.1 hq with hq | hq
    · exact List.mem_append_left _ (h.ahead q j hq)
    · simp only [List.mem_singleton] at hq
      obtain ⟨rfl, _⟩ := snoc_inj hq
      exact List.mem_append_left _ (List.mem_of_getElem? ha)
theorem listsF_new {L : List (List Nat)} (h : Paths L) {a k : Nat} {p : List Nat} (ha : L[a]? = some p) (hn : listsF L (a, k) = none) (x : Nat × Nat) :
    listsF (L ++ [p ++ [k]]) x = if x = (a, k) then some L.length else listsF L x := by
  have hnew : p ++ [k] ∉ L := by
    unfold listsF at hn
    simp only [ha] at hn
    exact ix_none.1 hn
  have hal : a < L.length := (List.getElem?_eq_some_iff.1 ha).1
  obtain ⟨b, j⟩ := x
  unfold listsF
  simp only [Prod.mk.injEq]
  by_cases hb : b < L.length
  · rw [List.getElem?_append_left hb]
    have hq : L[b]? = some L[b] := List.getElem?_eq_getElem hb
    rw [hq]
    simp only
    rw [ix_snoc hnew]
    by_cases e : L[b] ++ [j] = p ++ [k]
    · obtain ⟨e1, e2⟩ := snoc_inj e
      have hba : b = a := by
        have h1 := ix_nodup h.apart hq
        have h2 := ix_nodup h.apart ha
        rw [e1, h2] at h1
        exact (Option.some.inj h1).symm
      rw [if_pos e, if_pos ⟨hba, e2⟩]
    · rw [if_neg e, if_neg]
      rintro ⟨rfl, rfl⟩
      rw [hq] at ha
      exact e (by rw [Option.some.inj ha])
  · rw [if_neg (by rintro ⟨rfl, _⟩; exact hb hal)]
    have hb' : L[b]? = none := List.getElem?_eq_none (by omega)
    rw [hb']
    by_cases e : b = L.length
    · subst e
      rw [List.getElem?_append_right (by omega)]
      simp only [Nat.sub_self, List.getElem?_cons_zero]
      rw [ix_snoc hnew, if_neg, ix_none.2]
      · intro hm
        exact hnew (h.ahead _ _ hm)
      · intro e
        have := (snoc_inj e).1
        have h1 := congrArg List.length this
        simp at h1
    · rw [List.getElem?_eq_none (by simp; omega)]

/-! ### the parts -/
abbrev Nd := ByteArray × List Nat
/-- Each node's kids are earlier nodes. -/
def Valid (l : List Nd) : Prop := ∀ (i : Nat) (x : Nd), l[i]? = some x → ∀ k ∈ x.2, k < i
structure Part where
  label : ByteArray
  kids : List Nat
  places : Nat
def core (q : Part) : ByteArray × List Nat := (q.label, q.kids)
def findPart (P : List Part) (s : ByteArray) (ks : List Nat) : Option Nat := ix (P.map core) (s, ks)
def bump (q : Part) : Part := { q with places := q.places + 1 }
def bumpAll (P : List Part) (ks : List Nat) : List Part := ks.foldl (fun P k => P.modify k bump) P
def place (P : List Part) (s : ByteArray) (ks : List Nat) : List Part × Nat := match findPart P s ks with
  | some n => (P, n)
  | none => (bumpAll (P ++ [⟨s, ks, 0⟩]) ks, P.length)
def gStep (on : List Bool) (st : List Part × List Nat) (i : Nat) (x : Nd) : List Part × List Nat :=
  if on.getD i false then ((place st.1 x.1 (x.2.map (st.2.getD · 0))).1, st.2.set i (place st.1 x.1 (x.2.map (st.2.getD · 0))).2) else st
def gatherTo (l : List Nd) (on : List Bool) : Nat → List Part × List Nat
  | 0 => ([], List.replicate l.length 0)
  | i + 1 => match l[i]? with
    | some x => gStep on (gatherTo l on i) i x
    | none => gatherTo l on i
def kindsF (L : List (List Nat)) (P : List Part) (x : ByteArray × Nat) : Option Nat := match L[x.2]? with | some ks => findPart P x.1 ks | none => none

theorem modify_core (P : List Part) (k : Nat) : (P.modify k bump).map core = P.map core := by
  apply List.ext_getElem?
  intro i
  rw [List.getElem?_map, List.getElem?_map, List.getElem?_modify]
  cases P[i]? with
  | none => simp
  | some q =>
    simp only [Option.map_some]
    by_cases e : k = i
    · simp [e, core, bump]
    · simp [e]
theorem bumpAll_core (ks : List Nat) : ∀ P : List Part, (bumpAll P ks).map core = P.map core := by
  induction ks with
  | nil => intro P; rfl
  | cons k ks ih =>
    intro P
    show (bumpAll (P.modify k bump) ks).map core = _
    rw [ih, modify_core]
theorem bumpAll_length (P : List Part) (ks : List Nat) : (bumpAll P ks).length = P.length := by
  have := congrArg List.length (bumpAll_core ks P)
  simpa using this
theorem bumpAll_snoc (P : List Part) (ks : List Nat) (k : Nat) : bumpAll P (ks ++ [k]) = (bumpAll P ks).modify k bump := by simp [bumpAll]
theorem findPart_core {P Q : List Part} (h : P.map core = Q.map core) (s : ByteArray) (ks : List Nat) : findPart P s ks = findPart Q s ks := by unfold findPart; rw [h]
theorem kindsF_core {L : List (List Nat)} {P Q : List Part} (h : P.map core = Q.map core) : kindsF L P = kindsF L Q := by
  funext x
  unfold kindsF
  split
  · exact findPart_core h _ _
  · rfl
theorem kindsF_nil (L : List (List Nat)) : kindsF L [] = fun _ => none := by
  funext x
  unfold kindsF
  split <;> rfl
theorem kindsF_path {L : List (List Nat)} {P : List Part} {ks : List Nat} (hP : ∀ q ∈ P, q.kids ∈ L) (hn : ks ∉ L) : kindsF (L ++ [ks]) P = kindsF L P := by
  funext x
  unfold kindsF
  by_cases h : x.2 < L.length
  · rw [List.getElem?_append_left h]
  · rw [show L[x.2]? = none from List.getElem?_eq_none (by omega)]
    by_cases e : x.2 = L.length
    · rw [e, List.getElem?_append_right (by omega)]
      simp only [Nat.sub_self, List.getElem?_cons_zero]
      unfold findPart
      rw [ix_none]
      intro hm
      obtain ⟨q, hq, hc⟩ := List.mem_map.1 hm
      have hk : q.kids = ks := congrArg Prod.snd hc
      exact hn (by rw [← hk]; exact hP q hq)
    · rw [List.getElem?_eq_none (by simp; omega)]
theorem kindsF_new {L : List (List Nat)} {P : List Part} {s : ByteArray} {ks : List Nat} {c : Nat} (hL : L.Nodup) (hc : L[c]? = some ks) (hn : findPart P s ks = none) (m : Nat) (x : ByteArray × Nat) :
    kindsF L (P ++ [⟨s, ks, m⟩]) x = if x = (s, c) then some P.length else kindsF L P x := by
  unfold kindsF
  obtain ⟨t, d⟩ := x
  simp only [Prod.mk.injEq]
  unfold findPart at hn ⊢
  have hnm := ix_none.1 hn
  cases hd : L[d]? with
  | none =>
    rw [if_neg]
    rintro ⟨_, rfl⟩
    rw [hc] at hd
    cases hd
  | some ks' =>
    simp only [List.map_append, List.map_cons, List.map_nil]
    rw [ix_snoc (by exact hnm)]
    have key : ((t, ks') = core ⟨s, ks, m⟩) ↔ (t = s ∧ d = c) := by
      unfold core
      simp only [Prod.mk.injEq]
      constructor
      · rintro ⟨rfl, rfl⟩
        refine ⟨rfl, ?_⟩
        have h1 := ix_nodup hL hd
        have h2 := ix_nodup hL hc
        rw [h1] at h2
        exact Option.some.inj h2
      · rintro ⟨rfl, rfl⟩
        rw [hc] at hd
        exact ⟨rfl, (Option.some.inj hd).symm⟩
    by_cases e : t = s ∧ d = c
    · rw [if_pos (key.2 e), if_pos e, List.length_map]
    · rw [if_neg (fun h => e (key.1 h)), if_neg e]

/-! ### what holds while parts are gathered -/
structure GOk (P : List Part) (num : List Nat) (edges : Nat) : Prop where
  nums : ∀ n ∈ num, n < P.length ∨ n = 0
  below : ∀ i q, P[i]? = some q → ∀ k ∈ q.kids, k < i + 1
  places : ∀ q ∈ P, q.places ≤ edges
theorem bump_places {P : List Part} {e : Nat} (h : ∀ q ∈ P, q.places ≤ e) (k : Nat) : ∀ q ∈ P.modify k bump, q.places ≤ e + 1 := by
  intro q hq
  obtain ⟨i, hi⟩ := List.mem_iff_getElem?.1 hq
  rw [List.getElem?_modify] at hi
  cases hp : P[i]? with
  | none => rw [hp] at hi; cases hi
  | some r =>
    rw [hp] at hi
    have hr := h r (List.mem_of_getElem? hp)
    have hi2 : (if k = i then bump r else r) = q := Option.some.inj hi
    subst hi2
    split
    · show r.places + 1 ≤ e + 1
      omega
    · omega
theorem bumpAll_places (ks : List Nat) : ∀ {P : List Part} {e : Nat}, (∀ q ∈ P, q.places ≤ e) → ∀ q ∈ bumpAll P ks, q.places ≤ e + ks.length := by
  induction ks with
  | nil => intro P e h; exact h
  | cons k ks ih =>
    intro P e h q hq
    have := ih (bump_places h k) q hq
    simp only [List.length_cons]
    omega
end Go.Proofs.Ytkonloadedbpkaa.FoldPure
