/- TreeShares, plain: what bounded, texts, ints and nodes compute. -/
import Derived.Test.YtkonloadedbpkaaSharesG
import Derived.Test.YtkonloadedbpkaaTreeP
namespace Go.Proofs.Ytkonloadedbpkaa.SharesP
open Go.RowKit Go.Proofs.Ytkonloadedbpkaa.PTreeShares Go.Proofs.Ytkonloadedbpkaa.FoldPure Go.Proofs.Ytkonloadedbpkaa.FoldMem Go.Proofs.Ytkonloadedbpkaa.Gather
open Go.Proofs.YtkonloadedbpkaaW.PrintWords
set_option linter.unusedVariables false

/-- From some number of rounds on it answers r. -/
def EvS {α : Type} (g : Nat → Option α) (r : α) : Prop := ∃ K, ∀ k, K ≤ k → g k = some r
theorem EvS.step {α : Type} {g h : Nat → Option α} {r : α} (H : EvS h r) (e : ∀ k, g (k + 1) = h k) : EvS g r := by
  obtain ⟨K, hK⟩ := H
  refine ⟨K + 1, fun k hk => ?_⟩
  obtain ⟨k, rfl⟩ : ∃ m, k = m + 1 := ⟨k - 1, by omega⟩
  rw [e]
  exact hK k (by omega)
theorem EvS.some {α : Type} {g : Nat → Option α} {r : α} (e : ∀ k, g (k + 1) = some r) : EvS g r := ⟨1, fun k hk => by
  obtain ⟨k, rfl⟩ : ∃ m, k = m + 1 := ⟨k - 1, by omega⟩
  exact e k⟩
theorem wrap_in {i : Int} (h0 : -1 ≤ i) (h : i ≤ 9007199254740992) : wrap64 i = i := by unfold wrap64; omega
theorem rd_at (ks : List Int) {j : Nat} (hj : j < ks.length) : rd ks (j : Int) = ks[j] := by simp [rd, hj]
def toL (x : Nd) : S27 := ⟨x.1, ints x.2⟩
theorem len_eq {n m : Nat} : ((n : Int) = (m : Int)) ↔ n = m := by omega

/-! ### texts, ints, nodes -/
theorem texts_ev (a b : List ByteArray) (hl : a.length = b.length) (hb : a.length ≤ 9007199254740991) (h : a = b) : ∀ (d j : Nat), j ≤ a.length → a.length - j = d → EvS (fun k => lemmalaw13_texts.l0 k a b j) true := by
  subst h
  intro d
  induction d with
  | zero =>
    intro j hj hd
    refine EvS.some fun k => ?_
    conv => lhs; unfold lemmalaw13_texts.l0
    rw [if_neg (by omega)]
  | succ d ih =>
    intro j hj hd
    refine (ih (j + 1) (by omega) (by omega)).step fun k => ?_
    conv => lhs; unfold lemmalaw13_texts.l0
    rw [if_pos (by omega), if_pos (by omega), if_pos (by omega), if_pos rfl, wrap_in (by omega) (by omega)]
    rfl
theorem texts_f (a : List ByteArray) (hb : a.length ≤ 9007199254740991) : ∃ k, lemmalaw13_texts.f k a a = some true := by
  obtain ⟨K, h⟩ := texts_ev a a rfl hb rfl a.length 0 (by omega) (by omega)
  exact ⟨K, by unfold lemmalaw13_texts.f; rw [if_pos rfl]; exact h K (Nat.le_refl _)⟩
theorem ints_ev (a b : List Int) (hl : a.length = b.length) (hb : a.length ≤ 9007199254740991) : ∀ (d j : Nat), j ≤ a.length → a.length - j = d → EvS (fun k => lemmalaw13_ints.l0 k a b j) (decide (a.drop j = b.drop j)) := by
  intro d
  induction d with
  | zero =>
    intro j hj hd
    refine EvS.some fun k => ?_
    conv => lhs; unfold lemmalaw13_ints.l0
    rw [if_neg (by omega), List.drop_eq_nil_of_le (by omega), List.drop_eq_nil_of_le (by omega)]
    simp
  | succ d ih =>
    intro j hj hd
    have hlt : j < a.length := by omega
    have ea : a.drop j = a[j] :: a.drop (j + 1) := List.drop_eq_getElem_cons hlt
    have eb : b.drop j = b[j]'(by omega) :: b.drop (j + 1) := List.drop_eq_getElem_cons (by omega)
    by_cases e : a[j] = b[j]'(by omega)
    · have h := ih (j + 1) (by omega) (by omega)
      refine EvS.step (h := fun k => lemmalaw13_ints.l0 k a b ((j + 1 : Nat) : Int)) ?_ fun k => ?_
      · rw [show decide (a.drop j = b.drop j) = decide (a.drop (j + 1) = b.drop (j + 1)) from decide_eq_decide.2 (by rw [ea, eb, List.cons.injEq]; exact ⟨fun h => h.2, fun h => ⟨e, h⟩⟩)]
        exact h
      · conv => lhs; unfold lemmalaw13_ints.l0
        rw [if_pos (by omega), if_pos (by omega), if_pos (by omega), rd_at a hlt, rd_at b (by omega), if_pos e, wrap_in (by omega) (by omega)]
        rfl
    · refine EvS.some fun k => ?_
      conv => lhs; unfold lemmalaw13_ints.l0
      rw [if_pos (by omega), if_pos (by omega), if_pos (by omega), rd_at a hlt, rd_at b (by omega), if_neg e, decide_eq_false (by rw [ea, eb, List.cons.injEq]; exact fun h => e h.1)]
theorem ints_evs (a b : List Int) (hb : a.length ≤ 9007199254740991) : EvS (fun k => lemmalaw13_ints.f k a b) (decide (a = b)) := by
  by_cases hl : a.length = b.length
  · obtain ⟨K, h⟩ := ints_ev a b hl hb a.length 0 (by omega) (by omega)
    refine ⟨K, fun k hk => ?_⟩
    have := h k hk
    simp only [List.drop_zero] at this
    show lemmalaw13_ints.f k a b = _
    unfold lemmalaw13_ints.f
    rw [if_pos (by omega)]
    exact this
  · refine ⟨0, fun k _ => ?_⟩
    show lemmalaw13_ints.f k a b = _
    unfold lemmalaw13_ints.f
    rw [if_neg (by omega), decide_eq_false (fun e => hl (by rw [e]))]
theorem ints_f (a b : List Int) (hb : a.length ≤ 9007199254740991) : ∃ k, lemmalaw13_ints.f k a b = some (decide (a = b)) := by
  obtain ⟨K, h⟩ := ints_evs a b hb
  exact ⟨K, h K (Nat.le_refl _)⟩
theorem EvS.bind {α β : Type} {g : Nat → Option α} {r : α} (H : EvS g r) {f : Nat → α → Option β} {q : β} (H2 : EvS (fun k => f k r) q) : EvS (fun k => (g k).bind (f k)) q := by
  obtain ⟨K, hK⟩ := H
  obtain ⟨K2, hK2⟩ := H2
  refine ⟨max K K2, fun k hk => ?_⟩
  show (g k).bind (f k) = _
  rw [hK k (by omega)]
  exact hK2 k (by omega)
theorem nodes_ev (a : List S27) (hb : a.length ≤ 9007199254740991) (hk : ∀ i, (rd_T27 a (i : Nat)).f1.length ≤ 9007199254740991) : ∀ (d j : Nat), j ≤ a.length → a.length - j = d → EvS (fun k => lemmalaw13_nodes.l0 k a a j) true := by
  intro d
  induction d with
  | zero =>
    intro j hj hd
    refine EvS.some fun k => ?_
    conv => lhs; unfold lemmalaw13_nodes.l0
    rw [if_neg (by omega)]
  | succ d ih =>
    intro j hj hd
    have h := ih (j + 1) (by omega) (by omega)
    have h2 := (ints_evs (rd_T27 a j).f1 (rd_T27 a j).f1 (hk j)).bind (f := fun k t141 => if t141 = true then lemmalaw13_nodes.l0 k a a ((j + 1 : Nat) : Int) else Option.some false) (q := true) (by simpa using h)
    refine h2.step fun k => ?_
    conv => lhs; unfold lemmalaw13_nodes.l0
    rw [if_pos (by omega), if_pos (by omega), if_pos (by omega), if_pos rfl, wrap_in (by omega) (by omega)]
    rfl
theorem nodes_f (a : List S27) (hb : a.length ≤ 9007199254740991) (hk : ∀ i, (rd_T27 a (i : Nat)).f1.length ≤ 9007199254740991) : ∃ k, lemmalaw13_nodes.f k a a = some true := by
  obtain ⟨K, h⟩ := nodes_ev a hb hk a.length 0 (by omega) (by omega)
  exact ⟨K, by unfold lemmalaw13_nodes.f; rw [if_pos rfl]; exact h K (Nat.le_refl _)⟩

/-! ### bounded -/
def bKid (i : Nat) (k : Int) : Nat := (k % (i : Int)).toNat
def bKids (i : Nat) (ks : List Int) : List Nat := if i = 0 then [] else (ks.take 3).map (bKid i)
def bNode (i : Nat) (x : S27) : Nd := (x.f0, bKids i x.f1)
def boundTo (l : List S27) : Nat → List Nd
  | 0 => []
  | i + 1 => boundTo l i ++ [bNode i (rd_T27 l i)]
theorem boundTo_len (l : List S27) : ∀ i, (boundTo l i).length = i
  | 0 => rfl
  | i + 1 => by
    rw [boundTo, List.length_append, boundTo_len l i]
    rfl
theorem boundTo_at (l : List S27) {j : Nat} : ∀ {i : Nat}, j < i → (boundTo l i)[j]? = some (bNode j (rd_T27 l j))
  | i + 1, h => by
    rw [boundTo]
    by_cases e : j = i
    · subst e
      rw [List.getElem?_append_right (by rw [boundTo_len]; exact Nat.le_refl _), boundTo_len]
      simp
    · rw [List.getElem?_append_left (by rw [boundTo_len]; omega)]
      exact boundTo_at l (by omega)
theorem bKid_lt {i : Nat} (h : 0 < i) (k : Int) : bKid i k < i := by
  unfold bKid
  have h1 := Int.emod_nonneg k (show (i : Int) ≠ 0 by omega)
  have h2 := Int.emod_lt_of_pos k (show (0 : Int) < i by omega)
  omega
theorem mod_kid {i : Nat} (h : 0 < i) (hi : i ≤ 4194304) (k : Int) : (Int.tmod k i < 0 → wrap64 (Int.tmod k i + i) = ((bKid i k : Nat) : Int)) ∧ (¬ Int.tmod k i < 0 → Int.tmod k i = ((bKid i k : Nat) : Int)) := by
  have h1 := Int.emod_nonneg k (show (i : Int) ≠ 0 by omega)
  have h2 := Int.emod_lt_of_pos k (show (0 : Int) < i by omega)
  have h3 := Int.tmod_eq_emod (a := k) (b := (i : Int))
  unfold bKid
  generalize k % (i : Int) = e at *
  generalize Int.tmod k (i : Int) = t at *
  split at h3
  · refine ⟨fun h => by omega, fun _ => by omega⟩
  · refine ⟨fun _ => ?_, fun h => by simp at h3; omega⟩
    rw [wrap_in (by simp at h3; omega) (by simp at h3; omega)]
    simp at h3
    omega
theorem bound_kids (l : List S27) (x3 : List S27) (i : Nat) (b : ByteArray) (r : List S27) (hi : i < l.length) (hi2 : i ≤ 4194304) (h3 : x3.length ≤ 4194304)
    (hn : EvS (fun k => lemmalaw13_bounded.l0 k l (x3 ++ [toL (b, bKids i (rd_T27 l i).f1)]) ((i : Int) + 1)) r) :
    ∀ (d j : Nat), j ≤ (bKids i (rd_T27 l i).f1).length → (bKids i (rd_T27 l i).f1).length - j = d → EvS (fun k => lemmalaw13_bounded.l1 k l x3 i j b (ints ((bKids i (rd_T27 l i).f1).take j))) r := by
  generalize hks : (rd_T27 l i).f1 = ks at hn
  have hbl : (bKids i ks).length ≤ 3 ∧ (bKids i ks).length ≤ ks.length := by
    unfold bKids
    split
    · simp
    · simp; omega
  -- the end of the kids
  have hend : EvS (fun k => lemmalaw13_bounded.j3 k l x3 i (bKids i ks).length false b (ints (bKids i ks))) r := by
    refine hn.step fun k => ?_
    conv => lhs; unfold lemmalaw13_bounded.j3
    rw [if_neg (by simp), if_pos (by omega), wrap_in (by omega) (by omega)]
    rfl
  intro d
  induction d with
  | zero =>
    intro j hj hd
    have hje : j = (bKids i ks).length := by omega
    subst hje
    rw [List.take_length]
    refine hend.step fun k => ?_
    conv => lhs; unfold lemmalaw13_bounded.l1
    simp only [hks]
    rw [if_pos (by omega), if_pos (by omega)]
    by_cases c1 : ((bKids i ks).length : Int) < (ks.length : Int)
    · rw [if_pos c1]
      by_cases c2 : ((bKids i ks).length : Int) < 3
      · rw [if_pos c2]
        have hi0 : i = 0 := by
          refine Classical.byContradiction fun hne => ?_
          have : (bKids i ks).length = min 3 ks.length := by
            unfold bKids
            rw [if_neg hne]
            simp
          omega
        rw [show decide ((i : Int) > 0) = false from decide_eq_false (by omega)]
      · rw [if_neg c2]
    · rw [if_neg c1]
  | succ d ih =>
    intro j hj hd
    have hlt : j < (bKids i ks).length := by omega
    have hnext := ih (j + 1) (by omega) (by omega)
    have hi0 : 0 < i := by
      refine Classical.byContradiction fun hne => ?_
      have : bKids i ks = [] := by unfold bKids; rw [if_pos (by omega)]
      rw [this] at hlt
      simp at hlt
    have hkj : j < ks.length := by omega
    have hget : (bKids i ks)[j] = bKid i ks[j] := by
      have e : bKids i ks = (ks.take 3).map (bKid i) := by unfold bKids; rw [if_neg (by omega)]
      simp only [e, List.getElem_map, List.getElem_take]
    obtain ⟨m1, m2⟩ := mod_kid hi0 hi2 ks[j]
    have htk : ints ((bKids i ks).take (j + 1)) = ints ((bKids i ks).take j) ++ [((bKid i ks[j] : Nat) : Int)] := by
      rw [List.take_succ_eq_append_getElem hlt, hget]
      exact List.map_append
    have hil : (ints ((bKids i ks).take j)).length ≤ 3 := by
      simp
      omega
    have h3 : EvS (fun k => lemmalaw13_bounded.j3 k l x3 i j true b (ints ((bKids i ks).take j))) r := by
      refine hnext.step fun k => ?_
      rw [htk]
      conv => lhs; unfold lemmalaw13_bounded.j3
      simp only [hks]
      rw [if_pos trivial, if_pos (by omega), if_pos (by omega), if_pos (by omega), if_pos (by omega), if_neg (by omega), rd_at ks hkj]
      by_cases hneg : Int.tmod ks[j] i < 0
      · rw [if_pos hneg, if_pos (by omega), m1 hneg, wrap_in (by omega) (by omega)]
        rfl
      · rw [if_neg hneg, if_pos (by omega), m2 hneg, wrap_in (by omega) (by omega)]
        rfl
    refine h3.step fun k => ?_
    conv => lhs; unfold lemmalaw13_bounded.l1
    simp only [hks]
    rw [if_pos (by omega), if_pos (by omega), if_pos (by omega), if_pos (by omega), show decide ((i : Int) > 0) = true from decide_eq_true (by omega)]
def boundN (l : List S27) : List Nd := boundTo l (min l.length 200)
theorem bound_ev (l : List S27) : ∀ (d i : Nat), i ≤ min l.length 200 → min l.length 200 - i = d → EvS (fun k => lemmalaw13_bounded.l0 k l ((boundTo l i).map toL) i) ((boundN l).map toL) := by
  intro d
  induction d with
  | zero =>
    intro i hi hd
    have hie : i = min l.length 200 := by omega
    have hr : EvS (fun k => lemmalaw13_bounded.j1 k l ((boundTo l i).map toL) i false) ((boundN l).map toL) := by
      refine EvS.some fun k => ?_
      conv => lhs; unfold lemmalaw13_bounded.j1
      rw [if_neg (by simp), hie]
      rfl
    refine hr.step fun k => ?_
    conv => lhs; unfold lemmalaw13_bounded.l0
    by_cases c : (i : Int) < (l.length : Int)
    · rw [if_pos c, show decide ((i : Int) < 200) = false from decide_eq_false (by omega)]
    · rw [if_neg c]
  | succ d ih =>
    intro i hi hd
    have hnext := ih (i + 1) (by omega) (by omega)
    have h3 : ((boundTo l i).map toL).length ≤ 4194304 := by rw [List.length_map, boundTo_len]; omega
    have h := bound_kids l ((boundTo l i).map toL) i (rd_T27 l i).f0 ((boundN l).map toL) (by omega) (by omega) h3 (by
      rw [boundTo, List.map_append] at hnext
      exact hnext) _ 0 (by omega) rfl
    have hj : EvS (fun k => lemmalaw13_bounded.j1 k l ((boundTo l i).map toL) i true) ((boundN l).map toL) := by
      refine h.step fun k => ?_
      conv => lhs; unfold lemmalaw13_bounded.j1
      rw [if_pos rfl, if_pos (by omega), if_pos (by omega)]
      rfl
    refine hj.step fun k => ?_
    conv => lhs; unfold lemmalaw13_bounded.l0
    rw [if_pos (by omega), show decide ((i : Int) < 200) = true from decide_eq_true (by omega)]
theorem bound_f (l : List S27) : ∃ k, lemmalaw13_bounded.f k l = some ((boundN l).map toL) := by
  obtain ⟨K, h⟩ := bound_ev l (min l.length 200) 0 (by omega) (by omega)
  exact ⟨K, h K (Nat.le_refl _)⟩
end Go.Proofs.Ytkonloadedbpkaa.SharesP
