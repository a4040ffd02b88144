/- scan.Name answers nameOk. -/
import Derived.Test.YtpoojimmponklaaDoorPSymLabelsx1
import Derived.Test.YtpoojimmponklaaDoorScan
namespace Go.Proofs.YtpoojimmponklaaDoor.SymName
open Go.RowKit Go.Proofs.YtpoojimmponklaaDoor.SymTab Go.Proofs.YtpoojimmponklaaDoor.SymScan Go.Proofs.YtpoojimmponklaaDoor.PSymLabels Go.Proofs.YtpoojimmponklaaDoorW.PrintWords

def labN (b : Int) : Bool := (decide (97 ≤ b) && decide (b ≤ 122)) || (decide (65 ≤ b) && decide (b ≤ 90)) || (decide (48 ≤ b) && decide (b ≤ 57)) || decide (b = 46) || decide (b = 45) || decide (b = 95)
theorem labN_byte (c : UInt8) : labN (c.toNat : Int) = labByte c := by
  unfold labN labByte
  rw [Bool.eq_iff_iff]
  simp only [Bool.or_eq_true, Bool.and_eq_true, decide_eq_true_eq, UInt8.le_iff_toNat_le, beq_iff_eq, ← UInt8.toNat_inj]
  simp
  omega
theorem name_round (k : Nat) (s : ByteArray) (i : Nat) (hi : i < s.size) :
    scan_Name.l0 (k + 1) s (s.size : Int) (i : Int) = if labN (bt s i) = true then scan_Name.l0 k s (s.size : Int) (wrap64 ((i : Int) + 1)) else some false := by
  simp only [scan_Name.l0]
  rw [if_pos (by omega), if_pos (by omega), if_pos (by omega)]
  generalize scan_Name.l0 k s (s.size : Int) (wrap64 ((i : Int) + 1)) = R
  generalize bt s i = b
  unfold labN
  by_cases h : ((decide (97 ≤ b) && decide (b ≤ 122)) || (decide (65 ≤ b) && decide (b ≤ 90)) || (decide (48 ≤ b) && decide (b ≤ 57)) || decide (b = 46) || decide (b = 45) || decide (b = 95)) = true
  · rw [if_pos h]
    simp only [Bool.or_eq_true, Bool.and_eq_true, decide_eq_true_eq] at h
    repeat' split
    all_goals first | rfl | omega
  · rw [if_neg h]
    simp only [Bool.or_eq_true, Bool.and_eq_true, decide_eq_true_eq] at h
    repeat' split
    all_goals first | rfl | omega

theorem bt_lab {s : ByteArray} {i : Nat} (hi : i < s.size) : labN (bt s i) = labByte s[i] := by
  have h : bt s (i : Int) = (s[i].toNat : Int) := by
    have := bt_at s (i : Int) (by simpa using hi)
    simpa using this.symm
  rw [h, labN_byte]
theorem name_l0 (s : ByteArray) (hs : s.size ≤ 9223372036854775807) (d : Nat) : ∀ (k i : Nat), i ≤ s.size → s.size - i = d → d < k → (s.data.toList.take i).all labByte = true →
    scan_Name.l0 k s (s.size : Int) (i : Int) = some (nameOk s) := by
  induction d with
  | zero =>
    intro k i h1 hd hk ha
    obtain ⟨k, rfl⟩ : ∃ m, k = m + 1 := ⟨k - 1, by omega⟩
    rw [List.take_of_length_le (by simp; omega)] at ha
    simp only [scan_Name.l0]
    rw [if_neg (by omega)]
    unfold nameOk
    rw [ha]
    by_cases h0 : s.toList = []
    · have hz : s.size = 0 := by rw [← ByteArray.size_data, ← Array.length_toList, ← ByteArray.toList_eq, h0]; rfl
      simp [h0, hz]
    · have hz : 1 ≤ s.size := by
        rw [ByteArray.toList_eq] at h0
        rw [← ByteArray.size_data, ← Array.length_toList]
        cases hl : s.data.toList with
        | nil => exact absurd hl h0
        | cons x l => simp
      by_cases h3 : s.size ≤ 32 <;> simp [h0, hz, h3] <;> omega
  | succ d ih =>
    intro k i h1 hd hk ha
    obtain ⟨k, rfl⟩ : ∃ m, k = m + 1 := ⟨k - 1, by omega⟩
    have hlt : i < s.size := by omega
    rw [name_round k s i hlt, bt_lab hlt]
    have ht := take_all hlt labByte
    rw [ha, Bool.true_and] at ht
    cases hb : labByte s[i] with
    | false =>
      rw [if_neg (by simp)]
      unfold nameOk
      rw [all_false hlt labByte hb]
      rfl
    | true =>
      rw [if_pos rfl, show wrap64 ((i : Int) + 1) = ((i + 1 : Nat) : Int) from by unfold wrap64; omega]
      exact ih k (i + 1) (by omega) (by omega) (by omega) (by rw [ht, hb])
theorem name_calls {w : World} (s : ByteArray) (hs : s.size ≤ maxLen) : Calls Tryd.prog 61 #[.string s] w fun e w' => e = .returned (.bool (nameOk s)) ∧ Drawn0 w w' := by
  unfold maxLen at hs
  refine scan_Name.calls (s.size + 1) s (nameOk s) w ?_
  unfold scan_Name.f
  exact name_l0 s (by omega) s.size (s.size + 1) 0 (by omega) (by omega) (by omega) (by simp)
end Go.Proofs.YtpoojimmponklaaDoor.SymName
