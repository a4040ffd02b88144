/- BackWords, BackPure, BackRead, BackVars: in one text. -/
import Derived.Test.YtpoojimmponklaaDoorPExprBackx0
import Derived.Test.YtpoojimmponklaaDoorWordsPure
import Derived.Test.YtpoojimmponklaaDoorKeepsAll
namespace Go.Proofs.YtpoojimmponklaaDoor.PExprBack
open Go.RowKit Go.Proofs.YtpoojimmponklaaDoorW.PrintWords Go.Proofs.YtpoojimmponklaaDoorW.PrintLast Go.Proofs.YtpoojimmponklaaDoorW.PrintMore
attribute [local go_sem] max2_int min2_int max_two min_two max_three min_three max_four min_four   -- for this text's walks alone
set_option linter.unusedVariables false
set_option linter.unusedSimpArgs false

/-! ### lemmalaw03_words: function 57 -/
def lemmalaw03_words.l0 : Nat → ByteArray → List ByteArray → Int → Int → Option (List ByteArray)
  | 0, _, _, _, _ => none
  | k + 1, x0, x3, x4, x5 => if x5 ≤ (x0.size : Int) then (if x5 = (x0.size : Int) then (if 0 ≤ x4 then (if x4 ≤ x5 then (if x3.length < 8796093022208 then (lemmalaw03_words.l0 k x0 (x3 ++ [x0.extract (x4 : Int).toNat (x5 : Int).toNat]) (wrap64 (x5 + 1)) (wrap64 (x5 + 1))) else (none)) else (none)) else (none)) else (if 0 ≤ x5 then (if x5 < (x0.size : Int) then (if (bt x0 x5) = 32 then (if 0 ≤ x4 then (if x4 ≤ x5 then (if x3.length < 8796093022208 then (lemmalaw03_words.l0 k x0 (x3 ++ [x0.extract (x4 : Int).toNat (x5 : Int).toNat]) (wrap64 (x5 + 1)) (wrap64 (x5 + 1))) else (none)) else (none)) else (none)) else (lemmalaw03_words.l0 k x0 x3 x4 (wrap64 (x5 + 1)))) else (none)) else (none))) else (if x0.toList = ([] : List UInt8) then (some ([] : List ByteArray)) else (some x3))
def lemmalaw03_words.f (k : Nat) (a0 : ByteArray) : Option (List ByteArray) := lemmalaw03_words.l0 k a0 ([] : List ByteArray) 0 0
theorem lemmalaw03_words.mono_l : ∀ k, (∀ y0 y1 y2 y3, LeO (lemmalaw03_words.l0 k y0 y1 y2 y3) (lemmalaw03_words.l0 (k + 1) y0 y1 y2 y3))
  | 0 => fun _ _ _ _ r h => by simp [lemmalaw03_words.l0] at h
  | k + 1 => by
    have ih0 := lemmalaw03_words.mono_l k
    · intro y0 y1 y2 y3
      unfold lemmalaw03_words.l0
      repeat' first
      | (with_reducible exact ih0 _ _ _ _)
      | (with_reducible exact LeO.refl _)
      | (with_reducible exact LeO.none _)
      | (with_reducible refine LeO.ite ?_ ?_)
      | (with_reducible refine LeO.bind ?_ (fun _ => ?_))
      | exact ih0 _ _ _ _
      | exact LeO.none _
      | refine LeO.ite ?_ ?_
      | refine LeO.bind ?_ (fun _ => ?_)
theorem lemmalaw03_words.mono : ∀ a0 k, LeO (lemmalaw03_words.f k a0) (lemmalaw03_words.f (k + 1) a0) := by
  intro a0 k
  have ih0 := lemmalaw03_words.mono_l k
  unfold lemmalaw03_words.f
  repeat' first
      | (with_reducible exact ih0 _ _ _ _)
      | (with_reducible exact LeO.refl _)
      | (with_reducible exact LeO.none _)
      | (with_reducible refine LeO.ite ?_ ?_)
      | (with_reducible refine LeO.bind ?_ (fun _ => ?_))
      | exact ih0 _ _ _ _
      | exact LeO.none _
      | refine LeO.ite ?_ ?_
      | refine LeO.bind ?_ (fun _ => ?_)
set_option maxHeartbeats 8000000 in
set_option maxRecDepth 100000 in
theorem lemmalaw03_words.calls (k : Nat) (a0 : ByteArray) (r : List ByteArray) (w : World) (h : lemmalaw03_words.f k a0 = some r) :
    Calls Tryd.prog 57 #[.string a0] w fun e w' => ∃ v0_ : Value, e = .returned (v0_) ∧ Kd.R Kd.string 9 w' w.heap.size (fun _ => True) v0_ r ∧ Below w.heap.size w w' := by
  have HB := Aside0.mk (Below.refl w.heap.size w)
  have H : (lemmalaw03_words.l0 k a0 ([] : List ByteArray) 0 0) = some r := h
  clear h
  have H' := Aside0.mk H
  clear H
  go_enter Tryd.func57, Tryd.ntmps57
  go_wp2
  go_loopg [3, 4, 5] k (fun kq v3 v4 v5 w' => ∃ (x3_1 : List ByteArray) (x4_1 : Int) (x5_1 : Int), v4 = .int .i64 x4_1 ∧ v5 = .int .i64 x5_1 ∧ Aside0 (lemmalaw03_words.l0 kq a0 x3_1 x4_1 x5_1 = some r) ∧ Aside0 (kq ≤ k) ∧ Aside0 (Kd.R Kd.string 9 w' w.heap.size (fun _ => True) v3 x3_1) ∧ Aside0 (Below w.heap.size w w'))
  case atStart => exact ⟨(([] : List ByteArray)), (0), (0), (by first | rfl | (simp; done) | (simp [*]; done)), (by first | rfl | (simp; done) | (simp [*]; done)), H', ⟨Nat.le_refl _⟩, ⟨by first | exact Kd.R_nil _ _ _ _ _ | exact Kd.N_nil _ _ _ _ _ | exact Kd.V_nil _ _ _ _ _ | exact Kd.Q_nil _ _ _ _ _ | exact Kd.S_nil _ _ _ _ _⟩, ⟨by repeat (first | (with_reducible first | exact HB.out | apply below_alloc | apply pw_below_drewN | apply below_drew1) | exact HB.out)⟩⟩
  case round =>
    clear H'
    obtain ⟨x3_1, x4_1, x5_1, rfl, rfl, HA, HK1, HO_3, HB⟩ := hrel
    cases gk with
    | zero => exact absurd HA.out (by simp [lemmalaw03_words.l0])
    | succ k1 =>
      have H := HA.out
      clear HA
      simp only [lemmalaw03_words.l0] at H
      by_cases c2 : x5_1 ≤ (a0.size : Int)
      · rw [if_pos c2] at H
        have c2b0 : decide (x5_1 ≤ (a0.size : Int)) = true := decide_eq_true c2
        clear c2
        by_cases c3 : x5_1 = (a0.size : Int)
        · rw [if_pos c3] at H
          have c3b0 : (x5_1 == (a0.size : Int)) = true := beq_iff_eq.mpr c3
          have c3b1 : (x5_1 != (a0.size : Int)) = false := bne_eq_false_iff_eq.mpr c3
          clear c3
          by_cases c4 : 0 ≤ x4_1
          · rw [if_pos c4] at H
            have c4b0 := eq_true c4
            have c4b1 : decide (0 ≤ x4_1) = true := decide_eq_true c4
            clear c4
            by_cases c5 : x4_1 ≤ x5_1
            · rw [if_pos c5] at H
              have c5b0 := eq_true c5
              have c5b1 : decide (x4_1 ≤ x5_1) = true := decide_eq_true c5
              clear c5
              have c6b0 := eq_true (of_decide_eq_true (by first | (with_reducible assumption) | assumption) : x5_1 ≤ (a0.size : Int))
              by_cases c7 : x3_1.length < 8796093022208
              · rw [if_pos c7] at H
                have LMc7 := Aside0.mk c7
                clear c7
                obtain ⟨y147, hy147⟩ : ∃ y_ : List ByteArray, y_ = (x3_1 ++ [a0.extract (x4_1 : Int).toNat (x5_1 : Int).toNat]) := ⟨_, rfl⟩
                replace H : (lemmalaw03_words.l0 k1 a0 y147 (wrap64 (x5_1 + 1)) (wrap64 (x5_1 + 1))) = some r := by first | (rw [hy147]; with_reducible exact H) | (have H2_ := (Option.bind_some _ _).symm.trans H; rw [hy147]; with_reducible exact H2_) | (have H2_ := (Option.bind_some _ _).symm.trans H; with_reducible exact H2_) | with_reducible exact H | (rw [hy147]; exact H) | exact H
                have Ny147 := Aside0.mk hy147
                clear hy147
                have H' := Aside0.mk H
                clear H
                go_wp2_with (first | ((with_reducible refine gate_builtin (b := .append) (xs := #[.tmp 22, .tmp 27]) rfl ?_); at_builtin; refine Kd.R_append Kd.string (w0 := w) w.heap.size rfl (.tmp 22) (.tmp 27) 38 9 (.string ⟨#[]⟩) 16 rfl Tryd.underlying38 info9 rfl (by decide) (by omega) u3 x3_1 (a0.extract (x4_1 : Int).toNat (x5_1 : Int).toNat) [.string (a0.extract (x4_1 : Int).toNat (x5_1 : Int).toNat)] (fun _ => True) (fun _ => False) rfl rfl ?aP (fun _ hk => hk.elim) ?aF ?aO ?aB ?aS ?aL ?_; (case aP => exact rfl); (case aB => exact (by repeat (first | (with_reducible first | exact HB.out | apply below_alloc | apply pw_below_drewN | apply below_drew1) | exact HB.out))); (case aF => exact (fun _ _ => trivial)); (case aO => exact (by (with_reducible repeat (first | apply Kd.R_alloc | apply Kd.R_drewN | apply Kd.R_drew)); exact HO_3.out)); (case aS => exact (below_size (by repeat (first | (with_reducible first | exact HB.out | apply below_alloc | apply pw_below_drewN | apply below_drew1) | exact HB.out)))); (case aL => have := LMc7.out; omega); intro v148 w8 ho hb hg hat; rw [← Ny147.out] at ho; have n0_ := Aside0.mk (hb); have n1_ := Aside0.mk (ho); clear HB; clear HO_3; have HB := n0_; have HO149 := n1_; clear n0_ n1_; clear ho hb hg hat))
                go_roundg k1
                case measure => have := HK1.out; omega
                case rel => exact ⟨(y147), (wrap64 (x5_1 + 1)), (wrap64 (x5_1 + 1)), (by first | rfl | (simp; done) | (simp [*]; done)), (by first | rfl | (simp; done) | (simp [*]; done)), H', ⟨by have := HK1.out; omega⟩, ⟨by (with_reducible repeat (first | apply Kd.R_alloc | apply Kd.R_drewN | apply Kd.R_drew)); exact HO149.out⟩, ⟨by repeat (first | (with_reducible first | exact HB.out | apply below_alloc | apply pw_below_drewN | apply below_drew1) | exact HB.out)⟩⟩
              · rw [if_neg c7] at H
                exact absurd H (by simp)
            · rw [if_neg c5] at H
              exact absurd H (by simp)
          · rw [if_neg c4] at H
            exact absurd H (by simp)
        · rw [if_neg c3] at H
          have c3b0 : (x5_1 == (a0.size : Int)) = false := beq_eq_false_iff_ne.mpr c3
          have c3b1 : (x5_1 != (a0.size : Int)) = true := bne_iff_ne.mpr c3
          by_cases c9 : 0 ≤ x5_1
          · rw [if_pos c9] at H
            have c9b0 : decide (0 ≤ x5_1) = true := decide_eq_true c9
            clear c9
            by_cases c10 : x5_1 < (a0.size : Int)
            · rw [if_pos c10] at H
              have c10b0 : decide (x5_1 < (a0.size : Int)) = true := decide_eq_true c10
              clear c10
              by_cases c12 : (bt a0 x5_1) = 32
              · rw [if_pos c12] at H
                have c12b0 : ((bt a0 x5_1) == 32) = true := beq_iff_eq.mpr c12
                have c12b1 : ((bt a0 x5_1) != 32) = false := bne_eq_false_iff_eq.mpr c12
                clear c12
                by_cases c13 : 0 ≤ x4_1
                · rw [if_pos c13] at H
                  have c13b0 := eq_true c13
                  have c13b1 : decide (0 ≤ x4_1) = true := decide_eq_true c13
                  clear c13
                  by_cases c14 : x4_1 ≤ x5_1
                  · rw [if_pos c14] at H
                    have c14b0 := eq_true c14
                    have c14b1 : decide (x4_1 ≤ x5_1) = true := decide_eq_true c14
                    clear c14
                    have c15b0 := eq_true (of_decide_eq_true (by first | (with_reducible assumption) | assumption) : x5_1 ≤ (a0.size : Int))
                    by_cases c16 : x3_1.length < 8796093022208
                    · rw [if_pos c16] at H
                      have LMc16 := Aside0.mk c16
                      clear c16
                      obtain ⟨y150, hy150⟩ : ∃ y_ : List ByteArray, y_ = (x3_1 ++ [a0.extract (x4_1 : Int).toNat (x5_1 : Int).toNat]) := ⟨_, rfl⟩
                      replace H : (lemmalaw03_words.l0 k1 a0 y150 (wrap64 (x5_1 + 1)) (wrap64 (x5_1 + 1))) = some r := by first | (rw [hy150]; with_reducible exact H) | (have H2_ := (Option.bind_some _ _).symm.trans H; rw [hy150]; with_reducible exact H2_) | (have H2_ := (Option.bind_some _ _).symm.trans H; with_reducible exact H2_) | with_reducible exact H | (rw [hy150]; exact H) | exact H
                      have Ny150 := Aside0.mk hy150
                      clear hy150
                      have H' := Aside0.mk H
                      clear H
                      have p11 : 0 ≤ (x5_1 : Int) := of_decide_eq_true (by first | (with_reducible assumption) | assumption)
                      have q11 : x5_1 < (a0.size : Int) := of_decide_eq_true (by first | (with_reducible assumption) | assumption)
                      have hx11 := bt_at a0 x5_1
                      replace p11 := eq_true p11
                      replace q11 := eq_true q11
                      go_wp2_with (first | ((with_reducible refine gate_builtin (b := .append) (xs := #[.tmp 22, .tmp 27]) rfl ?_); at_builtin; refine Kd.R_append Kd.string (w0 := w) w.heap.size rfl (.tmp 22) (.tmp 27) 38 9 (.string ⟨#[]⟩) 16 rfl Tryd.underlying38 info9 rfl (by decide) (by omega) u3 x3_1 (a0.extract (x4_1 : Int).toNat (x5_1 : Int).toNat) [.string (a0.extract (x4_1 : Int).toNat (x5_1 : Int).toNat)] (fun _ => True) (fun _ => False) rfl rfl ?aP (fun _ hk => hk.elim) ?aF ?aO ?aB ?aS ?aL ?_; (case aP => exact rfl); (case aB => exact (by repeat (first | (with_reducible first | exact HB.out | apply below_alloc | apply pw_below_drewN | apply below_drew1) | exact HB.out))); (case aF => exact (fun _ _ => trivial)); (case aO => exact (by (with_reducible repeat (first | apply Kd.R_alloc | apply Kd.R_drewN | apply Kd.R_drew)); exact HO_3.out)); (case aS => exact (below_size (by repeat (first | (with_reducible first | exact HB.out | apply below_alloc | apply pw_below_drewN | apply below_drew1) | exact HB.out)))); (case aL => have := LMc16.out; omega); intro v151 w17 ho hb hg hat; rw [← Ny150.out] at ho; have n0_ := Aside0.mk (hb); have n1_ := Aside0.mk (ho); clear HB; clear HO_3; have HB := n0_; have HO152 := n1_; clear n0_ n1_; clear ho hb hg hat))
                      go_roundg k1
                      case measure => have := HK1.out; omega
                      case rel => exact ⟨(y150), (wrap64 (x5_1 + 1)), (wrap64 (x5_1 + 1)), (by first | rfl | (simp; done) | (simp [*]; done)), (by first | rfl | (simp; done) | (simp [*]; done)), H', ⟨by have := HK1.out; omega⟩, ⟨by (with_reducible repeat (first | apply Kd.R_alloc | apply Kd.R_drewN | apply Kd.R_drew)); exact HO152.out⟩, ⟨by repeat (first | (with_reducible first | exact HB.out | apply below_alloc | apply pw_below_drewN | apply below_drew1) | exact HB.out)⟩⟩
                    · rw [if_neg c16] at H
                      exact absurd H (by simp)
                  · rw [if_neg c14] at H
                    exact absurd H (by simp)
                · rw [if_neg c13] at H
                  exact absurd H (by simp)
              · rw [if_neg c12] at H
                have c12b0 : ((bt a0 x5_1) == 32) = false := beq_eq_false_iff_ne.mpr c12
                have c12b1 : ((bt a0 x5_1) != 32) = true := bne_iff_ne.mpr c12
                have H' := Aside0.mk H
                clear H
                have p11 : 0 ≤ (x5_1 : Int) := of_decide_eq_true (by first | (with_reducible assumption) | assumption)
                have q11 : x5_1 < (a0.size : Int) := of_decide_eq_true (by first | (with_reducible assumption) | assumption)
                have hx11 := bt_at a0 x5_1
                replace p11 := eq_true p11
                replace q11 := eq_true q11
                go_wp2
                go_roundg k1
                case measure => have := HK1.out; omega
                case rel => exact ⟨(x3_1), (x4_1), (wrap64 (x5_1 + 1)), (by first | rfl | (simp; done) | (simp [*]; done)), (by first | rfl | (simp; done) | (simp [*]; done)), H', ⟨by have := HK1.out; omega⟩, ⟨by (with_reducible repeat (first | apply Kd.R_alloc | apply Kd.R_drewN | apply Kd.R_drew)); exact HO_3.out⟩, ⟨by repeat (first | (with_reducible first | exact HB.out | apply below_alloc | apply pw_below_drewN | apply below_drew1) | exact HB.out)⟩⟩
            · rw [if_neg c10] at H
              exact absurd H (by simp)
          · rw [if_neg c9] at H
            exact absurd H (by simp)
      · rw [if_neg c2] at H
        have c2b0 : decide (x5_1 ≤ (a0.size : Int)) = false := decide_eq_false c2
        clear c2
        by_cases c18 : a0.toList = ([] : List UInt8)
        · rw [if_pos c18] at H
          have c18b0 : (a0.toList == ([] : List UInt8)) = true := beq_iff_eq.mpr c18
          have c18b1 : (a0.toList != ([] : List UInt8)) = false := bne_eq_false_iff_eq.mpr c18
          clear c18
          obtain rfl := Option.some.inj H
          go_wp2
          go_ret
          exact ⟨_, by first | rfl | (simp [errW_none, errW_some] <;> rfl) | (simp [*, errW_none, errW_some] <;> rfl), by first | exact Kd.R_nil _ _ _ _ _ | exact Kd.N_nil _ _ _ _ _ | exact Kd.V_nil _ _ _ _ _ | exact Kd.Q_nil _ _ _ _ _ | exact Kd.S_nil _ _ _ _ _, by repeat (first | (with_reducible first | exact HB.out | apply below_alloc | apply pw_below_drewN | apply below_drew1) | exact HB.out)⟩
        · rw [if_neg c18] at H
          have c18b0 : (a0.toList == ([] : List UInt8)) = false := beq_eq_false_iff_ne.mpr c18
          have c18b1 : (a0.toList != ([] : List UInt8)) = true := bne_iff_ne.mpr c18
          obtain rfl := Option.some.inj H
          go_wp2
          go_ret
          exact ⟨_, by first | rfl | (simp [errW_none, errW_some] <;> rfl) | (simp [*, errW_none, errW_some] <;> rfl), by (with_reducible repeat (first | apply Kd.R_alloc | apply Kd.R_drewN | apply Kd.R_drew)); exact HO_3.out, by repeat (first | (with_reducible first | exact HB.out | apply below_alloc | apply pw_below_drewN | apply below_drew1) | exact HB.out)⟩

end Go.Proofs.YtpoojimmponklaaDoor.PExprBack

namespace Go.Proofs.YtpoojimmponklaaDoor.BackPure
open Go.RowKit Go.Proofs.YtpoojimmponklaaDoor.PExprBack Go.Proofs.YtpoojimmponklaaDoor.SymTab
open Go.Proofs.YtpoojimmponklaaDoorW.PrintWords hiding bytesOf
open Go.Proofs.YtpoojimmponklaaDoor.WordsPure hiding blank
abbrev blank : List UInt8 := WordsPure.blank
set_option linter.unusedVariables false

def Word (s : List UInt8) : Prop := s ≠ [] ∧ ∀ c ∈ s, c ≠ 32
theorem wrap_one {n : Nat} (h : n ≤ 1000000000000) : wrap64 ((n : Int) + 1) = ((n + 1 : Nat) : Int) := by unfold wrap64; omega
theorem bt_bytes {L : List UInt8} {i : Nat} (h : i < L.length) : bt (bytesOf L) (i : Int) = (L[i].toNat : Int) := by
  have h' : (i : Int).toNat < (bytesOf L).size := by rw [bytes_size]; exact h
  rw [← bt_at (bytesOf L) (i : Int) h']
  have : ((bytesOf L)[(i : Int).toNat]'h') = L[i] := by
    show (bytesOf L).data[(i : Int).toNat] = _
    simp [bytesOf]
    rfl
  rw [this]
  rfl
theorem extract_bytes (a w r : List UInt8) : (bytesOf (a ++ (w ++ r))).extract a.length (a.length + w.length) = bytesOf w := by
  apply ByteArray.ext
  apply Array.toList_inj.1
  simp [bytesOf, ByteArray.data_extract]
theorem toList_bytes (L : List UInt8) : (bytesOf L).toList = L := by
  rw [ByteArray.toList_eq]
  rfl
/-- A word is gone through. -/
theorem words_in (acc : List ByteArray) (a w r : List UInt8) (hw : ∀ c ∈ w, c ≠ 32) (hs : (a ++ (w ++ r)).length ≤ 100000) (d : Nat) : ∀ (k j : Nat), j ≤ w.length → w.length - j = d →
    lemmalaw03_words.l0 (k + d) (bytesOf (a ++ (w ++ r))) acc (a.length : Int) ((a.length + j : Nat) : Int) = lemmalaw03_words.l0 k (bytesOf (a ++ (w ++ r))) acc (a.length : Int) ((a.length + w.length : Nat) : Int) := by
  induction d with
  | zero =>
    intro k j hj hd
    have : j = w.length := by omega
    rw [this]
    rfl
  | succ d ih =>
    intro k j hj hd
    have hlen : (a ++ (w ++ r)).length = a.length + (w.length + r.length) := by simp
    have hlt : a.length + j < (a ++ (w ++ r)).length := by omega
    have hb := bt_bytes hlt
    have hc : (a ++ (w ++ r))[a.length + j] = w[j]'(by omega) := by
      rw [List.getElem_append_right (by omega)]
      simp only [Nat.add_sub_cancel_left]
      rw [List.getElem_append_left (by omega)]
    have hn : ¬ bt (bytesOf (a ++ (w ++ r))) ((a.length + j : Nat) : Int) = 32 := by
      rw [hb, hc]
      have := hw (w[j]'(by omega)) (List.getElem_mem _)
      intro h
      apply this
      have h2 : (w[j]'(by omega)).toNat = (32 : UInt8).toNat := by
        have : (32 : UInt8).toNat = 32 := rfl
        omega
      exact UInt8.toNat_inj.1 h2
    rw [show k + (d + 1) = (k + d) + 1 by omega]
    conv => lhs; simp only [lemmalaw03_words.l0]
    rw [if_pos (by rw [bytes_size]; omega), if_neg (by rw [bytes_size]; omega), if_pos (by omega), if_pos (by rw [bytes_size]; omega), if_neg hn, wrap_one (by omega)]
    exact ih k (j + 1) (by omega) (by omega)
/-- All words, from one on. -/
theorem words_go (ws : List (List UInt8)) : ∀ (w : List UInt8) (acc : List ByteArray) (a : List UInt8) (k : Nat), (∀ x ∈ w :: ws, Word x) → (a ++ Lib.join (w :: ws) blank).length ≤ 100000 → acc.length + ws.length ≤ 100000 → (Lib.join (w :: ws) blank).length + 1 < k →
    lemmalaw03_words.l0 k (bytesOf (a ++ Lib.join (w :: ws) blank)) acc (a.length : Int) (a.length : Int) = some (acc ++ (w :: ws).map bytesOf) := by
  induction ws with
  | nil =>
    intro w acc a k hw hs hn hk
    rw [Lib.join_one] at hs hk ⊢
    have hww := hw w (by simp)
    have e : a ++ w = a ++ (w ++ []) := by simp
    rw [e] at hs ⊢
    obtain ⟨k, rfl⟩ : ∃ k', k = (k' + 1 + 1) + w.length := ⟨k - w.length - 2, by omega⟩
    have hl : (a ++ (w ++ ([] : List UInt8))).length = a.length + w.length := by simp
    have hwi := words_in acc a w [] hww.2 hs w.length (k + 1 + 1) 0 (by omega) (by omega)
    refine hwi.trans ?_
    simp only [lemmalaw03_words.l0]
    rw [if_pos (by rw [bytes_size]; omega), if_pos (by rw [bytes_size]; omega), if_pos (by omega), if_pos (by omega), if_pos (by simp at hn; omega), wrap_one (by omega), if_neg (by rw [bytes_size]; omega), Int.toNat_natCast, Int.toNat_natCast, extract_bytes, if_neg]
    · rfl
    · rw [toList_bytes]
      simp
      intro _
      exact hww.1
  | cons y r ih =>
    intro w acc a k hw hs hn hk
    have hww := hw w (by simp)
    have ej : Lib.join (w :: y :: r) blank = w ++ (blank ++ Lib.join (y :: r) blank) := by
      rw [Lib.join_cons, Lib.join_cons]
      simp [Lib.joinTail]
    rw [ej] at hs hk ⊢
    generalize hJ : Lib.join (y :: r) blank = J at *
    have hlen : (a ++ (w ++ (blank ++ J))).length = a.length + (w.length + (1 + J.length)) := by simp [WordsPure.blank]; omega
    have hk2 : w.length + (1 + J.length) + 1 < k := by rw [List.length_append, List.length_append] at hk; have : blank.length = 1 := rfl; omega
    obtain ⟨k, rfl⟩ : ∃ k', k = (k' + 1) + w.length := ⟨k - w.length - 1, by omega⟩
    have hwi := words_in acc a w (blank ++ J) hww.2 hs w.length (k + 1) 0 (by omega) (by omega)
    refine hwi.trans ?_
    have hb := bt_bytes (L := a ++ (w ++ (blank ++ J))) (i := a.length + w.length) (by omega)
    have hc : (a ++ (w ++ (blank ++ J)))[a.length + w.length]'(by omega) = 32 := by
      rw [List.getElem_append_right (by omega)]
      simp only [Nat.add_sub_cancel_left]
      rw [List.getElem_append_right (by omega)]
      simp [WordsPure.blank]
    rw [hc] at hb
    conv => lhs; simp only [lemmalaw03_words.l0]
    rw [if_pos (by rw [bytes_size]; omega), if_neg (by rw [bytes_size]; omega), if_pos (by omega), if_pos (by rw [bytes_size]; omega), if_pos (by rw [hb]; rfl), if_pos (by omega), if_pos (by omega), if_pos (by simp at hn; omega), wrap_one (by omega), Int.toNat_natCast, Int.toNat_natCast, extract_bytes]
    have ea : a ++ (w ++ (blank ++ J)) = (a ++ w ++ blank) ++ J := by simp
    have la : (a ++ w ++ blank).length = a.length + w.length + 1 := by simp [WordsPure.blank]; omega
    rw [ea, ← la, ← hJ]
    rw [ih y (acc ++ [bytesOf w]) (a ++ w ++ blank) k (fun x hx => hw x (by simp at hx ⊢; right; exact hx)) (by rw [hJ, ← ea]; exact hs) (by simp at hn ⊢; omega) (by rw [hJ]; omega)]
    simp
theorem words_f (ws : List (List UInt8)) (h0 : ws ≠ []) (hw : ∀ x ∈ ws, Word x) (hs : (Lib.join ws blank).length ≤ 50000) (hn : ws.length ≤ 50000) : ∃ k, lemmalaw03_words.f k (bytesOf (Lib.join ws blank)) = some (ws.map bytesOf) := by
  obtain ⟨w, r, rfl⟩ : ∃ w r, ws = w :: r := by
    cases ws with
    | nil => exact absurd rfl h0
    | cons w r => exact ⟨w, r, rfl⟩
  refine ⟨(Lib.join (w :: r) blank).length + 2, ?_⟩
  unfold lemmalaw03_words.f
  have := words_go r w [] [] ((Lib.join (w :: r) blank).length + 2) hw (by simpa using (by omega : (Lib.join (w :: r) blank).length ≤ 100000)) (by simp at hn ⊢; omega) (by omega)
  simpa using this
end Go.Proofs.YtpoojimmponklaaDoor.BackPure

namespace Go.Proofs.YtpoojimmponklaaDoor.BackRead
open Go.RowKit Go.Proofs.YtpoojimmponklaaDoor.PExprBack Go.Proofs.YtpoojimmponklaaDoor.SymTab Go.Proofs.YtpoojimmponklaaDoor.BackPure Go.Proofs.YtpoojimmponklaaDoor.ReadW
open Go.Proofs.YtpoojimmponklaaDoorW.PrintWords hiding bytesOf
open Go.Proofs.YtpoojimmponklaaDoor.WordsPure hiding blank
set_option linter.unusedVariables false

theorem byteOk_ne {c : UInt8} (h : byteOk c = true) : c ≠ 32 := by
  rintro rfl
  revert h
  decide
theorem sym_word {s : ByteArray} (h : symOk s = true) : Word s.data.toList := by
  unfold symOk at h
  simp only [Bool.and_eq_true, decide_eq_true_eq, List.all_eq_true] at h
  refine ⟨fun e => ?_, fun c hc => byteOk_ne (h.1.1 c hc)⟩
  have h1 : s.data.toList.length = s.size := Array.length_toList
  rw [e] at h1
  simp at h1
  omega
theorem active_at {T : Tab} (hw : WF T) {k : Int} (h : activeT T k = true) : ∃ n : Nat, k = (n : Int) ∧ n < T.syms.length ∧ T.act (nameOf T n) = some n := by
  unfold activeT there at h
  simp only [Bool.and_eq_true, decide_eq_true_eq] at h
  obtain ⟨n, rfl⟩ := Int.eq_ofNat_of_zero_le h.1.1
  have hn : n < T.syms.length := by omega
  rw [Int.toNat_natCast] at h
  obtain ⟨m, hm⟩ := Option.isSome_iff_exists.1 h.2
  have h2 := hw.act _ _ hm
  rw [idx_nameOf hw hn] at h2
  cases h2
  exact ⟨n, rfl, hn, hm⟩
theorem name_ok {T : Tab} (hw : WF T) {n : Nat} (hn : n < T.syms.length) : symOk (nameOf T n) = true := by
  have := hw.ok T.syms[n] (List.getElem_mem hn)
  unfold nameOf
  rw [List.getD_eq_getElem?_getD, List.getElem?_eq_getElem hn]
  exact this
theorem nameT_nat {T : Tab} {n : Nat} (hn : n < T.syms.length) : nameT T n = nameOf T n := by
  unfold nameT there
  simp only [Int.toNat_natCast]
  rw [if_pos (by simp; omega)]
def Actives (T : Tab) (x : List Int) : Prop := ∀ k ∈ x, activeT T k = true
def names (T : Tab) (x : List Int) : List ByteArray := x.map fun k => nameT T k
theorem word_active {T : Tab} (hw : WF T) {k : Int} (h : activeT T k = true) : Word (wordOf T k) ∧ WordsPure.bytesOf (wordOf T k) = nameT T k := by
  obtain ⟨n, rfl, hn, _⟩ := active_at hw h
  have hs := sym_word (name_ok hw hn)
  have he : ¬ nameT T n = ByteArray.empty := by
    rw [nameT_nat hn]
    intro e
    rw [e] at hs
    exact hs.1 rfl
  unfold wordOf
  rw [if_neg he]
  exact ⟨by rw [nameT_nat hn]; exact hs, bytes_list _⟩
theorem actives_fit {T : Tab} (hw : WF T) {x : List Int} (h : Actives T x) : Fits x := by
  intro k hk
  obtain ⟨n, rfl, hn, _⟩ := active_at hw (h k hk)
  have := hw.few
  omega
theorem words_of {T : Tab} (hw : WF T) {x : List Int} (h0 : x ≠ []) (hl : x.length ≤ 200) (h : Actives T x) : ∃ k, lemmalaw03_words.f k (WordsPure.bytesOf (textTo T x)) = some (names T x) := by
  have hs := text_small hw (actives_fit hw h) x.length (Nat.le_refl _)
  rw [List.take_length] at hs
  unfold textTo at hs ⊢
  obtain ⟨k, hk⟩ := words_f (x.map (wordOf T)) (by simpa using h0) (fun w hw' => by
    obtain ⟨n, hn, rfl⟩ := List.mem_map.1 hw'
    exact (word_active hw (h n hn)).1) (by show (Lib.join (x.map (wordOf T)) WordsPure.blank).length ≤ 50000; omega) (by simp; omega)
  refine ⟨k, hk.trans ?_⟩
  rw [List.map_map]
  congr 1
  exact List.map_congr_left fun n hn => (word_active hw (h n hn)).2
theorem read_ok {T : Tab} (hw : WF T) (x : List Int) : ∀ (i : Nat) (out : List Int) (ws : List ByteArray), Actives T x → i + x.length ≤ 200 → readGo T (names T x ++ ws) i out = readGo T ws (i + x.length) (out ++ x) := by
  induction x with
  | nil => intro i out ws _ _; simp [names]
  | cons k x ih =>
    intro i out ws h hl
    obtain ⟨n, rfl, hn, ha⟩ := active_at hw (h k (by simp))
    simp only [List.length_cons] at hl ⊢
    show readGo T (nameT T n :: (names T x ++ ws)) i out = _
    rw [nameT_nat hn, readGo, if_neg (by omega), ha]
    simp only
    rw [ih (i + 1) (out ++ [(n : Int)]) ws (fun k hk => h k (by simp [hk])) (by omega), List.append_assoc, show i + 1 + x.length = i + (x.length + 1) by omega]
    rfl
theorem read_names {T : Tab} (hw : WF T) {x : List Int} (h : Actives T x) (hl : x.length ≤ 200) : readT T (names T x) = (x, 0, 0) := by
  have := read_ok hw x 0 [] [] h (by omega)
  rw [List.append_nil] at this
  unfold readT
  rw [this]
  simp [readGo]
def odd : ByteArray := ⟨#[36, 110, 111, 110, 101]⟩
theorem odd_bad : symOk odd = false := by decide
theorem odd_none {T : Tab} (hw : WF T) : T.act odd = none := by
  cases h : T.act odd with
  | none => rfl
  | some n =>
    obtain ⟨h1, h2⟩ := idx_lt (hw.act _ _ h)
    have := name_ok hw h1
    unfold nameOf at this
    rw [h2, odd_bad] at this
    cases this
def badWords (T : Tab) (x : List Int) (k : Nat) : List ByteArray := (names T x).take k ++ odd :: (names T x).drop k
theorem read_bad {T : Tab} (hw : WF T) {x : List Int} (h : Actives T x) (hl : x.length ≤ 200) {k : Nat} (hk : k ≤ x.length) : readT T (badWords T x k) = ([], k, if k = 200 then 31 else 30) := by
  have h1 : Actives T (x.take k) := fun n hn => h n (List.mem_of_mem_take hn)
  have e : (names T x).take k = names T (x.take k) := by simp [names, List.map_take]
  have := read_ok hw (x.take k) 0 [] (odd :: (names T x).drop k) h1 (by rw [List.length_take]; omega)
  unfold readT badWords
  rw [e, this, List.length_take, Nat.zero_add, show min k x.length = k by omega, readGo, odd_none hw]
  by_cases h2 : k = 200
  · rw [if_pos h2, if_pos h2]
  · rw [if_neg h2, if_neg h2]
theorem names_len (T : Tab) (x : List Int) : (names T x).length = x.length := by simp [names]
theorem names_small {T : Tab} (hw : WF T) {x : List Int} : ∀ s ∈ names T x, s.size ≤ maxLen := by
  intro s hs
  obtain ⟨k, _, rfl⟩ := List.mem_map.1 hs
  have := name_small hw k
  unfold maxLen
  omega
theorem bad_small {T : Tab} (hw : WF T) {x : List Int} {k : Nat} : ∀ s ∈ badWords T x k, s.size ≤ maxLen := by
  intro s hs
  unfold badWords at hs
  rcases List.mem_append.1 hs with hs | hs
  · exact names_small hw s (List.mem_of_mem_take hs)
  · rcases List.mem_cons.1 hs with rfl | hs
    · decide
    · exact names_small hw s (List.mem_of_mem_drop hs)
end Go.Proofs.YtpoojimmponklaaDoor.BackRead

namespace Go.Proofs.YtpoojimmponklaaDoor.BackVars
open Go.Proofs.YtpoojimmponklaaDoor.SymHeap hiding num
open Go.RowKit Go.Maps Go.Proofs.YtpoojimmponklaaDoor.SymTab Go.Proofs.YtpoojimmponklaaDoor.SymReads Go.Proofs.YtpoojimmponklaaDoor.PExprKeeps Go.Proofs.YtpoojimmponklaaDoorW.PrintWords Go.Proofs.YtpoojimmponklaaDoor.KeepsPure Go.Proofs.YtpoojimmponklaaDoor.KeepsFuns Go.Proofs.YtpoojimmponklaaDoor.KeepsLib Go.Proofs.YtpoojimmponklaaDoor.KeepsWalk
open Go.Proofs.YtpoojimmponklaaDoor.KeepsLib (num)
set_option linter.unusedVariables false

/-- A table's IsVar, as a function. -/
abbrev isv (p : Nat) : Value := .func (Fn.func 24) #[.pointer (some ⟨p, 0, none⟩)] #[]
theorem isv_calls {w : World} {p g : Nat} {T : Tab} {fp : Nat → Prop} (h : TabIs w p g T fp) (n : Int) {b : Bool} (hb : isVarT T n = b) :
    Calls Tryd.prog 24 #[.pointer (some ⟨p, 0, none⟩), .int .i64 n] w fun e w' => e = .returned (.bool b) ∧ Drawn0 w w' := by
  have := SymReads.isVar_calls h n
  rw [hb] at this
  exact this
set_option maxHeartbeats 4000000 in
set_option maxRecDepth 100000 in
theorem vars_calls {w : World} {p g : Nat} {T : Tab} {fp : Nat → Prop} (h : TabIs w p g T fp) (hfp : ∀ k, fp k → k < w.heap.size) (A : Option Addr) (c : Nat) (e : List Int) (hC : Kd.C (Kd.int .i64) w A e.length e) (he : e.length ≤ 1048576) :
    Calls Tryd.prog 48 #[.slice A e.length c, isv p] w fun ed w' => ∃ v, ed = .returned v ∧ w'.ownsRow w.heap.size 3 1 v (outK (isVarT T) e e.length).length ((outK (isVarT T) e e.length).map num) ∧ Below w.heap.size w w' := by
  have HC := Aside0.mk hC
  have HT := Aside0.mk h
  clear hC h
  go_enter Tryd.func48, Tryd.ntmps48
  go_wp2_with fail
  go_loopw [5, 12] (fun v5 v12 wr => ∃ k : Nat, k ≤ e.length ∧ v12 = .int .i64 k ∧ Aside0 (wr.ownsRow w.heap.size 3 1 v5 (outK (isVarT T) e k).length ((outK (isVarT T) e k).map num)) ∧ Aside0 (Below w.heap.size w wr)) (fun _ v12 _ => e.length - (intOf v12).toNat)
  case atStart => exact ⟨0, by omega, rfl, ⟨World.ownsRow_nil _ _ _ _⟩, ⟨Below.refl _ _⟩⟩
  case round =>
    obtain ⟨k, hk, rfl, HO, HB⟩ := hrel
    by_cases hlt : k < e.length
    · obtain ⟨ad, rfl, hx⟩ := Kd.at_int (Kd.C_below HC.out HB.out) (k : Int) (by omega) (by omega)
      rw [rd_of hlt, Int.toNat_natCast] at hx
      have hpk := outK_picks (isVarT T) e k (by omega)
      have hlk := outK_len (isVarT T) e k (by omega)
      have hsucc := outK_succ (isVarT T) e hlt
      generalize e[k] = x at hx hsucc
      unfold KeepsPure.step at hsucc
      have Hrise := Aside0.mk hpk.rising
      clear hpk
      cases hcont : (outK (isVarT T) e k).contains x with
      | true =>
        rw [if_pos hcont] at hsucc
        have Hsucc := Aside0.mk hsucc
        have Hcont := Aside0.mk hcont
        clear hsucc hcont
        go_wp2_with fail
        refine (search_calls HO.out Hrise.out (by omega) x).mono ?_
        rintro ed w2 ⟨rfl, nq, rfl⟩
        rw [Hcont.out]
        go_wp2_with fail
        go_roundw
        case rel => exact ⟨k + 1, by omega, by go_num, by rw [Hsucc.out]; exact ⟨HO.out⟩, ⟨pw_below_drewN HB.out nq⟩⟩
        case measure => simp [intOf]; omega
      | false =>
        rw [if_neg (by rw [hcont]; simp)] at hsucc
        have Hcont := Aside0.mk hcont
        clear hcont
        cases hv : isVarT T x with
        | false =>
          rw [if_neg (by rw [hv]; simp)] at hsucc
          have Hsucc := Aside0.mk hsucc
          have Hv := Aside0.mk hv
          clear hsucc hv
          go_wp2_with fail
          refine (search_calls HO.out Hrise.out (by omega) x).mono ?_
          rintro ed w2 ⟨rfl, nq, rfl⟩
          rw [Hcont.out]
          go_wp2_with fail
          have HB2 := Aside0.mk (pw_below_drewN HB.out nq)
          refine (isv_calls (HT.out.move (fun j hj => HB2.out.block j (hfp j hj))) x Hv.out).mono ?_
          rintro ed w3 ⟨rfl, nq3, rfl⟩
          go_wp2_with fail
          go_roundw
          case rel => exact ⟨k + 1, by omega, by go_num, by rw [Hsucc.out]; exact ⟨HO.out⟩, ⟨pw_below_drewN HB.out (nq + nq3)⟩⟩
          case measure => simp [intOf]; omega
        | true =>
          rw [if_pos hv] at hsucc
          have Hsucc := Aside0.mk hsucc
          have Hv := Aside0.mk hv
          have hcl : (outK (isVarT T) e k).countP (· < x) ≤ (outK (isVarT T) e k).length := List.countP_le_length
          clear hsucc hv
          go_wp2_with fail
          refine (search_calls HO.out Hrise.out (by omega) x).mono ?_
          rintro ed w2 ⟨rfl, nq, rfl⟩
          rw [Hcont.out]
          go_wp2_with fail
          have HB2 := Aside0.mk (pw_below_drewN HB.out nq)
          refine (isv_calls (HT.out.move (fun j hj => HB2.out.block j (hfp j hj))) x Hv.out).mono ?_
          rintro ed w3 ⟨rfl, nq3, rfl⟩
          have HB3 := Aside0.mk (pw_below_drewN HB2.out nq3)
          obtain ⟨w3, hw3⟩ : ∃ w3, w3 = (wr.drewN nq).drewN nq3 := ⟨_, rfl⟩
          have HO3 := Aside0.mk (show w3.ownsRow w.heap.size 3 1 u5 (outK (isVarT T) e k).length ((outK (isVarT T) e k).map num) from by rw [hw3]; exact HO.out)
          rw [← hw3] at HB3 ⊢
          clear hw3 HB2 HO HB
          have hlt5 : ∀ b, u5.ownBlock = some b → b < w3.heap.size := fun b hb => (HO3.out.lt b hb).2
          go_wp2_with fail
          have hsz := HB3.out.size
          refine (insert_calls (HO3.out.alloc (.cells #[num x] 3)) (by simp; omega) (x := x) (vb := w3.heap.size) (heap_alloc_new w3 _) (fun e2 => by have := hlt5 _ e2; omega) (by omega) hcl).mono ?_
          rintro ed w4 ⟨v4, rfl, hown4, hgrow4⟩
          have HB4 := Aside0.mk ((HB3.out.alloc HB3.out.size (.cells #[num x] 3)).grown hgrow4 (by simp; omega) (fun b hb => (HO3.out.lt b hb).1))
          have HO4 := Aside0.mk hown4
          clear hown4 hgrow4 hlt5
          go_wp2_with fail
          go_roundw
          case rel =>
            refine ⟨k + 1, by omega, by go_num, ?_, HB4⟩
            rw [Hsucc.out]
            have hl := ins_length (outK (isVarT T) e k) x
            rw [hl]
            exact ⟨HO4.out⟩
          case measure => simp [intOf]; omega
    · have hk' : k = e.length := by omega
      subst hk'
      go_wp2_with fail
      go_ret
      exact ⟨_, rfl, HO.out, HB.out⟩
end Go.Proofs.YtpoojimmponklaaDoor.BackVars
