/- reached: which nodes the last one leads to. -/
import Derived.Test.YtkonloadedbpkaaPFoldDoublesx1
import Derived.Test.YtkonloadedbpkaaGather
namespace Go.Proofs.Ytkonloadedbpkaa.Reached
open Go.RowKit Go.Proofs.Ytkonloadedbpkaa.PFoldDoubles Go.Proofs.Ytkonloadedbpkaa.FoldPure Go.Proofs.Ytkonloadedbpkaa.FoldMem Go.Proofs.Ytkonloadedbpkaa.Gather
open Go.Proofs.YtkonloadedbpkaaW.PrintWords
set_option linter.unusedVariables false

def toS (x : Nd) : S27 := ⟨x.1, ints x.2⟩
def markKids (on : List Bool) (ks : List Nat) : List Bool := ks.foldl (fun on k => on.set k true) on
def onDown (l : List Nd) : Nat → List Bool → List Bool
  | 0, on => on
  | i + 1, on => onDown l i (if on.getD i false then markKids on (l.getD i (ByteArray.empty, [])).2 else on)
def onT (l : List Nd) : List Bool := onDown l l.length ((List.replicate l.length false).set (l.length - 1) true)
theorem mark_len (ks : List Nat) : ∀ on : List Bool, (markKids on ks).length = on.length := by
  induction ks with
  | nil => intro on; rfl
  | cons k ks ih =>
    intro on
    show (markKids (on.set k true) ks).length = _
    rw [ih, List.length_set]
theorem down_len (l : List Nd) : ∀ (i : Nat) (on : List Bool), (onDown l i on).length = on.length := by
  intro i
  induction i with
  | zero => intro on; rfl
  | succ i ih =>
    intro on
    unfold onDown
    rw [ih]
    split
    · exact mark_len _ _
    · rfl
theorem on_len (l : List Nd) : (onT l).length = l.length := by
  unfold onT
  rw [down_len]
  simp
theorem wrap_small {i : Int} (h0 : -1 ≤ i) (h : i ≤ 9007199254740992) : wrap64 i = i := by unfold wrap64; omega
theorem reached_l1 (l : List S27) (i : Nat) (ks : List Nat) (hi : i ≤ 8388608) (hks : ∀ k ∈ ks, k < i) (hkl : ks.length ≤ 8388608) (d : Nat) : ∀ (k j : Nat) (on : List Bool), j ≤ ks.length → ks.length - j = d → i < on.length →
    fold_reached.l1 (k + d + 1) l on (i : Int) (ints ks) ((ints ks).length : Int) (j : Int) = fold_reached.l0 k l (markKids on (ks.drop j)) ((i : Int) - 1) := by
  induction d with
  | zero =>
    intro k j on hj hd hon
    have : j = ks.length := by omega
    subst this
    rw [Nat.add_zero]
    simp only [fold_reached.l1]
    rw [if_neg (by simp), wrap_small (by omega) (by omega), List.drop_length]
    rfl
  | succ d ih =>
    intro k j on hj hd hon
    have hlt : j < ks.length := by omega
    have hk := hks ks[j] (List.getElem_mem hlt)
    have hrd : rd (ints ks) (j : Int) = (ks[j] : Int) := by simp [rd, hlt]
    have := ih k (j + 1) (on.set ks[j] true) (by omega) (by omega) (by simpa using hon)
    rw [Int.natCast_add] at this
    simp only [Int.natCast_one] at this
    rw [show k + (d + 1) + 1 = (k + d + 1) + 1 by omega]
    generalize k + d + 1 = K at this ⊢
    conv => lhs; simp only [fold_reached.l1]
    rw [hrd, if_pos (by simp; omega), if_pos (by omega), if_pos (by simp; omega), if_neg (by omega), if_neg (by omega), if_pos (by omega), if_pos (by omega), wrap_small (by omega) (by omega), Int.toNat_natCast]
    rw [this, List.drop_eq_getElem_cons hlt]
    rfl
/-- where the edges end -/
theorem reached_l0 (l : List Nd) (hl : l.length ≤ 4194304) (hv : Valid l) (he : (l.map (·.2.length)).sum ≤ 4194304) (i : Nat) : ∀ (k : Nat) (on : List Bool), i ≤ l.length → on.length = l.length → edges l i + 2 * i < k →
    fold_reached.l0 k (l.map toS) on ((i : Int) - 1) = some (onDown l i on, true) := by
  induction i with
  | zero =>
    intro k on hi hon hk
    obtain ⟨k, rfl⟩ : ∃ k', k = k' + 1 := ⟨k - 1, by omega⟩
    simp only [fold_reached.l0]
    rw [if_neg (by omega)]
    rfl
  | succ i ih =>
    intro k on hi hon hk
    obtain ⟨k, rfl⟩ : ∃ k', k = k' + 1 := ⟨k - 1, by omega⟩
    have hlt : i < l.length := by omega
    have hed := edges_succ hlt
    have hx : ((i + 1 : Nat) : Int) - 1 = (i : Int) := by omega
    rw [hx]
    conv => lhs; simp only [fold_reached.l0]
    have hrb : rdOf false on (i : Int) = on.getD i false := by simp [rdOf]
    have hrt : rd_T27 (l.map toS) (i : Int) = toS l[i] := by
      unfold rd_T27
      rw [Int.toNat_natCast, List.getD_eq_getElem?_getD, List.getElem?_map, List.getElem?_eq_getElem hlt]
      rfl
    rw [if_pos (by omega), if_pos (by omega), if_pos (by omega), hrb, hrt, wrap_small (by omega) (by omega)]
    unfold onDown
    rw [List.getD_eq_getElem?_getD (l := l), List.getElem?_eq_getElem hlt]
    by_cases ho : on.getD i false = true
    · rw [if_pos ho, if_pos (by simp; omega), if_pos ho]
      obtain ⟨k2, rfl⟩ : ∃ k2, k = k2 + l[i].2.length + 1 := ⟨k - l[i].2.length - 1, by omega⟩
      have hkl := kids_le he hlt
      have := reached_l1 (l.map toS) i l[i].2 (by omega) (fun k hk => hv i l[i] (List.getElem?_eq_getElem hlt) k hk) (by omega) l[i].2.length k2 0 on (by omega) (by omega) (by omega)
      rw [List.drop_zero] at this
      refine Eq.trans this ?_
      exact ih k2 _ (by omega) (by rw [mark_len]; exact hon) (by omega)
    · rw [if_neg ho, if_neg ho]
      exact ih k on (by omega) hon (by omega)
theorem reached_f (l : List Nd) (h0 : 0 < l.length) (hl : l.length ≤ 4194304) (hv : Valid l) (he : (l.map (·.2.length)).sum ≤ 4194304) : ∃ k, fold_reached.f k (l.map toS) = some (onT l, true) := by
  refine ⟨edges l l.length + 2 * l.length + 1, ?_⟩
  unfold fold_reached.f
  have e1 : wrap64 (((l.map toS).length : Int) - 1) = (l.length : Int) - 1 := by rw [List.length_map]; exact wrap_small (by omega) (by omega)
  have e2 : (((l.map toS).length : Int)).toNat = l.length := by simp
  have e3 : ((l.length : Int) - 1).toNat = l.length - 1 := by omega
  rw [if_neg (by rw [List.length_map]; omega), if_pos (by omega), e2, if_pos (by omega), Option.bind_some, e1, if_pos (by omega), if_pos (by simp; omega), e3]
  exact reached_l0 l hl hv he l.length _ _ (by omega) (by simp) (by omega)
theorem reached_none (k : Nat) : fold_reached.f k [] = some ([], false) := by
  unfold fold_reached.f
  rfl
/-! ### what is reached -/
theorem mark_true (ks : List Nat) : ∀ (on : List Bool) (i : Nat), i < on.length → (markKids on ks).getD i false = (on.getD i false || decide (i ∈ ks)) := by
  induction ks with
  | nil => intro on i hi; simp [markKids]
  | cons k ks ih =>
    intro on i hi
    show (markKids (on.set k true) ks).getD i false = _
    rw [ih _ _ (by simpa using hi)]
    have : (on.set k true).getD i false = (on.getD i false || decide (i = k)) := by
      rw [List.getD_eq_getElem?_getD, List.getD_eq_getElem?_getD, List.getElem?_set]
      by_cases e : k = i
      · subst e
        simp [hi]
      · have e' : ¬ i = k := fun h => e h.symm
        simp [e, e']
    rw [this]
    simp only [List.mem_cons, Bool.decide_or, Bool.or_assoc]
end Go.Proofs.Ytkonloadedbpkaa.Reached
