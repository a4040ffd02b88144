/- scan's questions about names: Symbol and Name. -/
import Derived.Test.YtpoojimmponklaaDoorReads
namespace Go.Proofs.YtpoojimmponklaaDoor.SymScan
open Go.RowKit Go.Proofs.YtpoojimmponklaaDoor.SymTab Go.Proofs.YtpoojimmponklaaDoor.SymHeap

/-- The table of blanks can be read: each of its cells holds a truth. -/
def Blanks (w : World) : Prop := ∀ i, i < 33 → ∃ b : Bool, w.cell? ⟨0, i, none⟩ = some (.bool b)
theorem Blanks.move {w w' : World} (h : Blanks w) (hm : w'.heap[0]? = w.heap[0]?) : Blanks w' := fun i hi => by
  obtain ⟨b, hb⟩ := h i hi
  exact ⟨b, by rw [← hb]; simp [World.cell?, hm]⟩
theorem Blanks.lt {w : World} (h : Blanks w) : 0 < w.heap.size := by
  obtain ⟨b, hb⟩ := h 0 (by omega)
  exact World.block_lt_of_cell? w _ hb

theorem kind_in {w : World} (n : Nat) (h1 : 33 ≤ n) (h2 : n ≤ 126) : Calls Tryd.prog 76 #[.int .u8 (n : Int)] w fun e w' => e = .returned (.int .i64 2) ∧ w' = w := by
  have d1 : decide ((33 : Int) ≤ (n : Int)) = true := decide_eq_true (by omega)
  have d2 : decide ((n : Int) ≤ 126) = true := decide_eq_true (by omega)
  go_enter Tryd.func76, Tryd.ntmps76
  go_wp2
  go_ret
  exact ⟨rfl, rfl⟩
theorem kind_out {w : World} (hb : Blanks w) (n : Nat) (hn : n ≤ 255) (h : ¬ (33 ≤ n ∧ n ≤ 126)) : Calls Tryd.prog 76 #[.int .u8 (n : Int)] w fun e w' => ∃ k : Int, e = .returned (.int .i64 k) ∧ (k = 0 ∨ k = 1) ∧ w' = w := by
  by_cases h1 : 33 ≤ n
  · have h2 : 126 < n := by omega
    have d1 : decide ((33 : Int) ≤ (n : Int)) = true := decide_eq_true (by omega)
    have d2 : decide ((n : Int) ≤ 126) = false := decide_eq_false (by omega)
    have d3 : decide ((n : Int) < 33) = false := decide_eq_false (by omega)
    have hn' : (n : Int) ≤ 255 := by omega
    go_enter Tryd.func76, Tryd.ntmps76
    go_wp2
    go_ret
    exact ⟨0, rfl, .inl rfl, rfl⟩
  · have d1 : decide ((33 : Int) ≤ (n : Int)) = false := decide_eq_false (by omega)
    have d3 : decide ((n : Int) < 33) = true := decide_eq_true (by omega)
    have hn' : (n : Int) < 33 := by omega
    obtain ⟨b, hc⟩ := hb n (by omega)
    cases b
    · go_enter Tryd.func76, Tryd.ntmps76
      go_wp2
      go_ret
      exact ⟨0, rfl, .inl rfl, rfl⟩
    · go_enter Tryd.func76, Tryd.ntmps76
      go_wp2
      go_ret
      exact ⟨1, rfl, .inr rfl, rfl⟩

theorem take_all {s : ByteArray} {k : Nat} (h : k < s.size) (f : UInt8 → Bool) : (s.data.toList.take (k + 1)).all f = ((s.data.toList.take k).all f && f s[k]) := by
  have e : s.data.toList.take (k + 1) = s.data.toList.take k ++ [s[k]] := by
    rw [List.take_succ_eq_append_getElem (by simpa using h)]; rfl
  rw [e]
  simp [List.all_append]
theorem all_false {s : ByteArray} {k : Nat} (h : k < s.size) (f : UInt8 → Bool) (hf : f s[k] = false) : s.data.toList.all f = false := by
  rw [List.all_eq_false]
  exact ⟨s[k], by have : s[k] = s.data.toList[k]'(by simpa using h) := rfl; rw [this]; exact List.getElem_mem _, by simp [hf]⟩

set_option maxHeartbeats 1000000 in
theorem symbol_calls {w : World} (hb : Blanks w) (s : ByteArray) (hs : s.size ≤ maxLen) : Calls Tryd.prog 58 #[.string s] w fun e w' => e = .returned (.bool (symOk s)) ∧ w' = w := by
  unfold maxLen at hs
  have Hb := Lib.hid hb
  clear hb
  go_enter Tryd.func58, Tryd.ntmps58
  go_wp2
  go_loop [6] (fun v => ∃ k : Nat, k ≤ s.size ∧ v = .int .i64 k ∧ Hid ((s.data.toList.take k).all byteOk = true)) (fun v => s.size - (intOf v).toNat)
  case atStart => exact ⟨0, Nat.zero_le _, rfl, rfl⟩
  case round =>
    obtain ⟨k, hk, rfl, HA⟩ := hrel
    by_cases hlt : k < s.size
    · have ht := take_all hlt byteOk
      have hall := all_false hlt byteOk
      have hbl : s[k].toNat ≤ 255 := by have := s[k].toNat_lt; omega
      by_cases hw : 33 ≤ s[k].toNat ∧ s[k].toNat ≤ 126
      · obtain ⟨hw1, hw2⟩ := hw
        by_cases hd : s[k].toNat = 36
        · have Hf := Lib.hid (show symOk s = false by
            unfold symOk
            rw [hall (by
              have : s[k] = 36 := UInt8.toNat_inj.1 hd
              rw [this]; rfl)]
            rfl)
          have d1 : (((s[k].toNat : Int)) == 36) = true := by rw [hd]; rfl
          clear ht hall hd
          go_wp2_with (go_at_call 76; refine (kind_in _ hw1 hw2).mono ?_; rintro e w' ⟨rfl, rfl⟩)
          go_ret
          exact ⟨by rw [Hf.out]; rfl, rfl⟩
        · have Ht := Lib.hid (show (s.data.toList.take (k + 1)).all byteOk = true by
            rw [ht, HA.out]
            have h1 : (33 : UInt8) ≤ s[k] := by rw [UInt8.le_iff_toNat_le]; exact hw1
            have h2 : s[k] ≤ (126 : UInt8) := by rw [UInt8.le_iff_toNat_le]; exact hw2
            have h3 : s[k] ≠ 36 := fun e => hd (by rw [e]; rfl)
            simp [byteOk, h1, h2, h3])
          have d1 : (((s[k].toNat : Int)) == 36) = false := by rw [beq_eq_false_iff_ne]; omega
          clear ht hall hd
          go_wp2_with (go_at_call 76; refine (kind_in _ hw1 hw2).mono ?_; rintro e w' ⟨rfl, rfl⟩)
          go_round
          case rel => exact ⟨k + 1, by omega, by go_num, Ht⟩
          case measure => simp [intOf]; omega
      · have Hf := Lib.hid (show symOk s = false by
          unfold symOk
          rw [hall (by
            unfold byteOk
            by_cases h1 : 33 ≤ s[k].toNat
            · have h2 : ¬ s[k] ≤ (126 : UInt8) := by rw [UInt8.le_iff_toNat_le]; intro h; exact hw ⟨h1, h⟩
              simp [h2]
            · have h2 : ¬ (33 : UInt8) ≤ s[k] := by rw [UInt8.le_iff_toNat_le]; exact h1
              simp [h2])]
          rfl)
        clear ht hall
        go_wp2_with (go_at_call 76; refine (kind_out Hb.out _ hbl hw).mono ?_; rintro e w' ⟨kk, rfl, (rfl | rfl), rfl⟩)
        all_goals go_ret
        all_goals exact ⟨by rw [Hf.out]; rfl, rfl⟩
    · have HA' := HA.out
      rw [List.take_of_length_le (by simp; omega)] at HA'
      have H1 := Lib.hid (show s.toList = [] → symOk s = false by
        intro h
        rw [ByteArray.toList_eq] at h
        have : s.size = 0 := by rw [← ByteArray.size_data, ← Array.length_toList, h]; rfl
        unfold symOk
        rw [this]
        simp)
      have H2 := Lib.hid (show ¬ s.toList = [] → symOk s = (!s.toList.isEmpty && decide ((s.size : Int) ≤ 32)) by
        intro h
        have he : s.toList.isEmpty = false := by simpa using h
        have : 1 ≤ s.size := by
          rw [ByteArray.toList_eq] at h
          rw [← ByteArray.size_data, ← Array.length_toList]
          cases hl : s.data.toList with
          | nil => exact absurd hl h
          | cons x l => simp
        unfold symOk
        rw [HA', he, decide_eq_true this]
        simp
        omega)
      clear HA'
      go_wp2
      · have h := H1.out (by assumption)
        go_ret
        exact ⟨by rw [h]; rfl, rfl⟩
      · have h := H2.out (by assumption)
        go_ret
        exact ⟨by rw [h]; rfl, rfl⟩
end Go.Proofs.YtpoojimmponklaaDoor.SymScan
