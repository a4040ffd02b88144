/- Labels: the law's own looks at a label's name and at a list of texts; the labels behind each call. -/
import Derived.Test.YtpoojimmponklaaDoorLists
import Derived.Test.YtpoojimmponklaaDoorName
import Derived.Test.YtpoojimmponklaaDoorPSymLabelsx2
import Derived.Test.YtpoojimmponklaaDoorPSymLabelsx3
namespace Go.Proofs.YtpoojimmponklaaDoor.SymLabelsPure
open Go.RowKit Go.Maps Go.Proofs.YtpoojimmponklaaDoor.SymTab Go.Proofs.YtpoojimmponklaaDoor.SymHeap Go.Proofs.YtpoojimmponklaaDoor.SymApi Go.Proofs.YtpoojimmponklaaDoor.SymScript Go.Proofs.YtpoojimmponklaaDoor.SymLists Go.Proofs.YtpoojimmponklaaDoor.SymScan Go.Proofs.YtpoojimmponklaaDoor.SymName Go.Proofs.YtpoojimmponklaaDoor.PSymLabels
open Go.Proofs.YtpoojimmponklaaDoorW.PrintWords
set_option linter.unusedVariables false

/-! ### good -/
theorem good_round (k : Nat) (s : ByteArray) (i : Nat) (hi : i < s.size) :
    lemmalaw02_good.l0 (k + 1) s (i : Int) = if labN (bt s i) = true then lemmalaw02_good.l0 k s (wrap64 ((i : Int) + 1)) else some false := by
  simp only [lemmalaw02_good.l0]
  rw [if_pos (by omega), if_pos (by omega)]
  generalize lemmalaw02_good.l0 k s (wrap64 ((i : Int) + 1)) = R
  generalize bt s i = b
  unfold labN
  by_cases h : ((decide (97 ≤ b) && decide (b ≤ 122)) || (decide (65 ≤ b) && decide (b ≤ 90)) || (decide (48 ≤ b) && decide (b ≤ 57)) || decide (b = 46) || decide (b = 45) || decide (b = 95)) = true
  · rw [if_pos h]
    simp only [Bool.or_eq_true, Bool.and_eq_true, decide_eq_true_eq] at h
    repeat' split
    all_goals first | rfl | omega
  · rw [if_neg h]
    simp only [Bool.or_eq_true, Bool.and_eq_true, decide_eq_true_eq] at h
    repeat' split
    all_goals first | rfl | omega
theorem good_l0 (s : ByteArray) (hs : s.size ≤ 9223372036854775807) (d : Nat) : ∀ (k i : Nat), i ≤ s.size → s.size - i = d → d < k → (s.data.toList.take i).all labByte = true →
    lemmalaw02_good.l0 k s (i : Int) = some (nameOk s) := by
  induction d with
  | zero =>
    intro k i h1 hd hk ha
    obtain ⟨k, rfl⟩ : ∃ m, k = m + 1 := ⟨k - 1, by omega⟩
    rw [List.take_of_length_le (by simp; omega)] at ha
    simp only [lemmalaw02_good.l0]
    rw [if_neg (by omega)]
    unfold nameOk
    rw [ha]
    by_cases h2 : 1 ≤ s.size
    · by_cases h3 : s.size ≤ 32
      · rw [if_pos (by omega)]
        simp [h2, h3]
        omega
      · rw [if_pos (by omega)]
        simp [h2, h3]
        omega
    · rw [if_neg (by omega)]
      simp [h2]
  | succ d ih =>
    intro k i h1 hd hk ha
    obtain ⟨k, rfl⟩ : ∃ m, k = m + 1 := ⟨k - 1, by omega⟩
    have hlt : i < s.size := by omega
    rw [good_round k s i hlt, bt_lab hlt]
    have ht := take_all hlt labByte
    rw [ha, Bool.true_and] at ht
    cases hb : labByte s[i] with
    | false =>
      rw [if_neg (by simp)]
      unfold nameOk
      rw [all_false hlt labByte hb]
      rfl
    | true =>
      rw [if_pos rfl, show wrap64 ((i : Int) + 1) = ((i + 1 : Nat) : Int) from by unfold wrap64; omega]
      exact ih k (i + 1) (by omega) (by omega) (by omega) (by rw [ht, hb])
theorem good_calls {w : World} (s : ByteArray) (hs : s.size ≤ maxLen) : Calls Tryd.prog 26 #[.string s] w fun e w' => e = .returned (.bool (nameOk s)) ∧ Drawn0 w w' := by
  unfold maxLen at hs
  refine lemmalaw02_good.calls (s.size + 1) s (nameOk s) w ?_
  unfold lemmalaw02_good.f
  exact good_l0 s (by omega) s.size (s.size + 1) 0 (by omega) (by omega) (by omega) (by simp)

/-! ### has, same -/
theorem toList_inj {s t : ByteArray} : s.toList = t.toList ↔ s = t := by
  rw [ByteArray.toList_eq, ByteArray.toList_eq]
  constructor
  · intro h
    cases s; cases t
    simpa using h
  · intro h
    rw [h]
theorem rd_at {l : List ByteArray} {i : Nat} (hi : i < l.length) : rdOf ByteArray.empty l (i : Int) = l[i] := by
  simp [rdOf, List.getD_eq_getElem?_getD, List.getElem?_eq_getElem hi]
theorem labIdx_some (l : List ByteArray) (s : ByteArray) : (labIdx l s).isSome = l.any (fun x => decide (x = s)) := by
  induction l with
  | nil => rfl
  | cons x l ih =>
    unfold labIdx
    by_cases h : x = s
    · rw [if_pos h]
      simp [h]
    · rw [if_neg h, Option.isSome_map, ih]
      simp [h]
theorem has_l0 (l : List ByteArray) (s : ByteArray) (hl : l.length ≤ 1048576) (d : Nat) : ∀ (k i : Nat), i ≤ l.length → l.length - i = d → d < k → lemmalaw02_has.l0 k l s (i : Int) = some ((l.drop i).any (fun x => decide (x = s))) := by
  induction d with
  | zero =>
    intro k i h1 hd hk
    obtain ⟨k, rfl⟩ : ∃ m, k = m + 1 := ⟨k - 1, by omega⟩
    simp only [lemmalaw02_has.l0]
    rw [if_neg (by omega), List.drop_of_length_le (by omega)]
    rfl
  | succ d ih =>
    intro k i h1 hd hk
    obtain ⟨k, rfl⟩ : ∃ m, k = m + 1 := ⟨k - 1, by omega⟩
    have hlt : i < l.length := by omega
    simp only [lemmalaw02_has.l0]
    rw [if_pos (by omega), if_pos (by omega), rd_at hlt, List.drop_eq_getElem_cons hlt, show wrap64 ((i : Int) + 1) = ((i + 1 : Nat) : Int) from by unfold wrap64; omega, ih k (i + 1) (by omega) (by omega) (by omega)]
    simp only [toList_inj, List.any_cons]
    by_cases h : l[i] = s
    · rw [if_pos h]
      simp [h]
    · rw [if_neg h]
      simp [h]
theorem same_l0 (l : List ByteArray) (hl : l.length ≤ 1048576) (d : Nat) : ∀ (k i : Nat), i ≤ l.length → l.length - i = d → d < k → lemmalaw02_same.l0 k l l (i : Int) = some true := by
  induction d with
  | zero =>
    intro k i h1 hd hk
    obtain ⟨k, rfl⟩ : ∃ m, k = m + 1 := ⟨k - 1, by omega⟩
    simp only [lemmalaw02_same.l0]
    rw [if_neg (by omega)]
  | succ d ih =>
    intro k i h1 hd hk
    obtain ⟨k, rfl⟩ : ∃ m, k = m + 1 := ⟨k - 1, by omega⟩
    simp only [lemmalaw02_same.l0]
    rw [if_pos (by omega), if_pos (by omega), if_pos (by omega), if_pos trivial, show wrap64 ((i : Int) + 1) = ((i + 1 : Nat) : Int) from by unfold wrap64; omega]
    exact ih k (i + 1) (by omega) (by omega) (by omega)
theorem has_calls {w : World} (A : Option Addr) (c : Nat) (l : List ByteArray) (s : ByteArray) (hl : l.length ≤ 1048576) (hr : Kd.C Kd.string w A l.length l) (hc : l.length ≤ c) :
    Calls Tryd.prog 27 #[.slice A l.length c, .string s] w fun e w' => e = .returned (.bool (labIdx l s).isSome) ∧ Drawn0 w w' := by
  rw [labIdx_some]
  exact lemmalaw02_has.calls (l.length + 1) A c l s _ w hr hc (has_l0 l s hl l.length _ 0 (by omega) (by omega) (by omega))
theorem same_calls {w : World} (A : Option Addr) (c : Nat) (B : Option Addr) (d : Nat) (l : List ByteArray) (hl : l.length ≤ 1048576) (hr : Kd.C Kd.string w A l.length l) (hc : l.length ≤ c) (hr2 : Kd.C Kd.string w B l.length l) (hc2 : l.length ≤ d) :
    Calls Tryd.prog 28 #[.slice A l.length c, .slice B l.length d] w fun e w' => e = .returned (.bool true) ∧ Drawn0 w w' := by
  refine lemmalaw02_same.calls (l.length + 1) A c l B d l _ w hr hc hr2 hc2 ?_
  unfold lemmalaw02_same.f
  rw [if_pos rfl]
  exact same_l0 l hl l.length _ 0 (by omega) (by omega) (by omega)

/-! ### lists and the table's own labels -/
theorem reads {W w : World} {p g : Nat} {T : Tab} {rows : List RowOf} {e : TypeId} {v : Value} {l : List ByteArray} (h : Besides W w p g T (⟨e, v, l.map Value.string⟩ :: rows)) :
    ∃ A c, v = .slice A l.length c ∧ l.length ≤ c ∧ Kd.C Kd.string w A l.length l := by
  have ho := h.own (List.mem_cons_self ..)
  simp only [List.length_map] at ho
  exact Kd.R_reads (Kd.R_of_own (enc := Value.string) (h1 := fun _ => rfl) (ok := fun _ => True) ho (fun _ _ => trivial))
theorem labels_isB {W w : World} {p g : Nat} {T : Tab} {rows : List RowOf} (h : Besides W w p g T rows) :
    Calls Tryd.prog 29 #[.pointer (some ⟨p, 0, none⟩)] w fun e w' => ∃ A c, e = .returned (.slice A T.labels.length c) ∧ T.labels.length ≤ c ∧ Kd.C Kd.string w' A T.labels.length T.labels ∧ Besides W w' p g T rows := by
  have h' := h
  obtain ⟨hB, F, hm, hr⟩ := h'
  refine (SymNew.labels_calls hm.1).mono fun e w' ⟨v', he, hR, ht⟩ => ?_
  obtain ⟨A, c, rfl, hc, hC⟩ := Kd.R_reads hR
  exact ⟨A, c, he, hc, hC, h.past (ht.below (Nat.le_refl _) (fun _ h => h.elim))⟩
theorem do_labels (T : Tab) (k : Int) (s : ByteArray) (hk : k ≠ 10) : (doT T k s).labels = T.labels := by
  unfold doT
  repeat' split
  all_goals first
    | rfl
    | (unfold openS; split <;> rfl)
    | (unfold closeS; split <;> rfl)
    | (unfold constT; repeat' (first | rfl | split))
    | (unfold varT; repeat' (first | rfl | split))
    | omega
end Go.Proofs.YtpoojimmponklaaDoor.SymLabelsPure
