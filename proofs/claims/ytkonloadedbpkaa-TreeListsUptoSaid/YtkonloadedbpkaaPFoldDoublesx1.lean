-- PRINTED BY print.sh 35421559b90ae4d0a3588c463048766b98c2df88dd9212a6774a882060cdf62d: not written by this session
import Derived.Test.YtkonloadedbpkaaPFoldDoublesx0
namespace Go.Proofs.Ytkonloadedbpkaa.PFoldDoubles
open Go.RowKit Go.Proofs.YtkonloadedbpkaaW.PrintWords Go.Proofs.YtkonloadedbpkaaW.PrintLast Go.Proofs.YtkonloadedbpkaaW.PrintMore
attribute [local go_sem] max2_int min2_int max_two min_two max_three min_three max_four min_four   -- for this text's walks alone
set_option linter.unusedVariables false
set_option linter.unusedSimpArgs false

/-! ### lemmalaw16_node: function 10 -/
def lemmalaw16_node.f (a0 : ByteArray) (l1 : List Int) : Option (ByteArray × List Int) := some (a0, l1)
set_option maxHeartbeats 8000000 in
set_option maxRecDepth 100000 in
theorem lemmalaw16_node.calls (a0 : ByteArray) (P1_ : Nat → Prop) (u9000_ : Value) (l1 : List Int) (r1 : ByteArray) (r2 : List Int) (w0 w : World) (hB : Below w0.heap.size w0 w) (ho1 : Kd.R (Kd.int .i64) 3 w w0.heap.size P1_ u9000_ l1) (h : lemmalaw16_node.f a0 l1 = some (r1, r2)) :
    Calls Try.prog 10 #[.string a0, u9000_] w fun e w' => ∃ v1_ : Value, e = .returned (.agg #[.string r1, v1_]) ∧ Kd.R (Kd.int .i64) 3 w' w0.heap.size (fun k_ => (P1_ k_ ∨ w.heap.size ≤ k_)) v1_ r2 ∧ Below w0.heap.size w0 w' ∧ Kept w w' (fun k_ => P1_ k_) := by
  have hu27 := Try.underlying27
  have HO1 := Aside0.mk (show Kd.R (Kd.int .i64) 3 w w0.heap.size (fun k_ => (P1_ k_ ∨ w.heap.size ≤ k_)) u9000_ l1 from Kd.R_mono ho1 (fun k_ hk => (.inl hk)))
  have HK := Aside0.mk (Kept.refl w (fun k_ => P1_ k_))
  have HW0 := Aside0.mk hB.size
  have HB := Aside0.mk hB
  clear hB
  have H : (some (a0, l1)) = some (r1, r2) := h
  clear h
  simp only [Option.some.injEq, Prod.mk.injEq] at H
  obtain ⟨rfl, rfl⟩ := H
  go_enter Try.func10, Try.ntmps10
  go_wp2_with (first | ((with_reducible refine gate_dst (N := 4) rfl ?_); refine box_event ?hg (N := 4) ?hd (cs := #[.string (⟨#[]⟩ : ByteArray), .slice none 0 0]) (t := 27) ?hr ?_; (case hd => rfl); (case hg => rfl); (case hr => first | (go_simp; done) | (go_simp; rfl)); intro gb101 hg w3 hbox hb; have n0_ := Aside0.mk (Kd.R_below (by (with_reducible repeat (first | apply Kd.R_alloc | apply Kd.R_drewN | apply Kd.R_drew)); exact HO1.out) hb); have n1_ := Aside0.mk (Kept.below (S := (fun k_ => P1_ k_)) (by repeat (first | (with_reducible first | exact HK.out | apply Kept.alloc | apply Kept.drewN | apply Kept.drew) | exact HK.out)) hb); have n2_ := Aside0.mk (below_step (by repeat (first | (with_reducible first | exact HB.out | apply below_alloc | apply pw_below_drewN | apply below_drew1) | exact HB.out)) hb); have n3_ := Aside0.mk (hbox); have n4_ := Aside0.mk ((by rw [hg]; exact (by first | exact HK.out.1 | exact (show Kept w _ (fun k_ => P1_ k_) from by repeat (first | (with_reducible first | exact HK.out | apply Kept.alloc | apply Kept.drewN | apply Kept.drew) | exact HK.out)).1) : w.heap.size ≤ gb101)); have n5_ := Aside0.mk ((by rw [hg]; exact (below_size (by repeat (first | (with_reducible first | exact HB.out | apply below_alloc | apply pw_below_drewN | apply below_drew1) | exact HB.out))) : w0.heap.size ≤ gb101)); clear HO1; clear HK; clear HB; have HO1 := n0_; have HK := n1_; have HB := n2_; have BK101 := n3_; have GW101 := n4_; have GE101 := n5_; clear n0_ n1_ n2_ n3_ n4_ n5_; clear hb hbox hg; obtain ⟨Ao4, co4, eo4⟩ := Kd.R_slice HO1.out; subst eo4; have hcz5_0 : w3.cell? ⟨gb101, 0, none⟩ = some (.string (⟨#[]⟩ : ByteArray)) := (blk_cell BK101.out 0).trans rfl; have hcz5_1 : w3.cell? ⟨gb101, 1, none⟩ = some (.slice none 0 0) := (blk_cell BK101.out 1).trans rfl; have hfz5_0 := blk_frozen BK101.out 0; have hfz5_1 := blk_frozen BK101.out 1))
  refine bodyPost_ret (results_cell_row rfl _ _ gb101 27 #[.string a0, .slice Ao4 l1.length co4] (0, 0) _ rfl (by (with_reducible repeat (first | refine blk_drewN ?_ _ | refine blk_drew ?_ | refine blk_alloc ?_ _)); refine blk_put (cs := #[.string a0, .slice none 0 0]) ?_ 1 _ rfl; (with_reducible repeat (first | refine blk_drewN ?_ _ | refine blk_drew ?_ | refine blk_alloc ?_ _)); refine blk_put (cs := #[.string (⟨#[]⟩ : ByteArray), .slice none 0 0]) ?_ 0 _ rfl; (with_reducible repeat (first | refine blk_drewN ?_ _ | refine blk_drew ?_ | refine blk_alloc ?_ _)); exact BK101.out) Try.underlying27 rfl (by kernel_rfl)) rfl ?_
  exact ⟨_, by first | rfl | (simp [errW_none, errW_some] <;> rfl) | (simp [*, errW_none, errW_some] <;> rfl), by (with_reducible repeat (first | apply Kd.R_alloc | apply Kd.R_drewN | apply Kd.R_drew)); exact Kd.R_mono (Kd.R_far (p := ⟨gb101, 1, none⟩) (Kd.R_far (p := ⟨gb101, 0, none⟩) (Kd.R_types HO1.out BK101.out (by decide)) (fun _ hk => hk.2) (.string a0)) (fun _ hk => hk.2) (.slice Ao4 l1.length co4)) (fun _ hk => hk.1), by repeat (first | (with_reducible first | exact HB.out | apply below_alloc | apply pw_below_drewN | apply below_drew1 | refine below_set ?_ GE101.out) | exact HB.out), by repeat (first | (with_reducible first | exact HK.out | apply Kept.alloc | apply Kept.drewN | apply Kept.drew | refine Kept.setCell ?_ (.inr GW101.out) _) | exact HK.out)⟩

/-! ### fold_reached: function 35 -/
mutual
def fold_reached.l0 : Nat → List (S27) → List Bool → Int → Option (List Bool × Bool)
  | 0, _, _, _ => none
  | k + 1, x0, x4, x5 => if x5 ≥ 0 then (if 0 ≤ x5 then (if x5 < (x4.length : Int) then (if rdOf false x4 x5 = true then (if x5 < (x0.length : Int) then (fold_reached.l1 k x0 x4 x5 ((rd_T27 x0 x5).f1) (((rd_T27 x0 x5).f1).length : Int) 0) else (none)) else (fold_reached.l0 k x0 x4 (wrap64 (x5 - 1)))) else (none)) else (none)) else (some (x4, true))
def fold_reached.l1 : Nat → List (S27) → List Bool → Int → List Int → Int → Int → Option (List Bool × Bool)
  | 0, _, _, _, _, _, _ => none
  | k + 1, x0, x4, x5, x35, x36, x37 => if x37 < x36 then (if 0 ≤ x37 then (if x37 < (x35.length : Int) then (if (rd x35 x37) < 0 then (some (([] : List Bool), false)) else (if (rd x35 x37) ≥ x5 then (some (([] : List Bool), false)) else (if 0 ≤ (rd x35 x37) then (if (rd x35 x37) < (x4.length : Int) then (fold_reached.l1 k x0 (x4.set ((rd x35 x37) : Int).toNat true) x5 x35 x36 (wrap64 (x37 + 1))) else (none)) else (none)))) else (none)) else (none)) else (fold_reached.l0 k x0 x4 (wrap64 (x5 - 1)))
end
def fold_reached.f (k : Nat) (l0 : List (S27)) : Option (List Bool × Bool) := if (l0.length : Int) = 0 then (some (([] : List Bool), false)) else (if 0 ≤ (l0.length : Int) then (if ((l0.length : Int) : Int).toNat ≤ 281474976710656 then ((some (List.replicate ((l0.length : Int) : Int).toNat false : List Bool)).bind fun y102 => (if 0 ≤ (wrap64 ((l0.length : Int) - 1)) then (if (wrap64 ((l0.length : Int) - 1)) < (y102.length : Int) then (fold_reached.l0 k l0 (y102.set ((wrap64 ((l0.length : Int) - 1)) : Int).toNat true) (wrap64 ((l0.length : Int) - 1))) else (none)) else (none))) else (none)) else (none))
theorem fold_reached.mono_l : ∀ k, (∀ y0 y1 y2, LeO (fold_reached.l0 k y0 y1 y2) (fold_reached.l0 (k + 1) y0 y1 y2)) ∧ (∀ y0 y1 y2 y3 y4 y5, LeO (fold_reached.l1 k y0 y1 y2 y3 y4 y5) (fold_reached.l1 (k + 1) y0 y1 y2 y3 y4 y5))
  | 0 => ⟨fun _ _ _ r h => by simp [fold_reached.l0] at h, fun _ _ _ _ _ _ r h => by simp [fold_reached.l1] at h⟩
  | k + 1 => by
    obtain ⟨ih0, ih1⟩ := fold_reached.mono_l k
    refine ⟨?_, ?_⟩
    · intro y0 y1 y2
      unfold fold_reached.l0
      repeat' first
      | (with_reducible exact ih0 _ _ _)
      | (with_reducible exact ih1 _ _ _ _ _ _)
      | (with_reducible exact LeO.refl _)
      | (with_reducible exact LeO.none _)
      | (with_reducible refine LeO.ite ?_ ?_)
      | (with_reducible refine LeO.bind ?_ (fun _ => ?_))
      | exact ih0 _ _ _
      | exact ih1 _ _ _ _ _ _
      | exact LeO.none _
      | refine LeO.ite ?_ ?_
      | refine LeO.bind ?_ (fun _ => ?_)
    · intro y0 y1 y2 y3 y4 y5
      unfold fold_reached.l1
      repeat' first
      | (with_reducible exact ih0 _ _ _)
      | (with_reducible exact ih1 _ _ _ _ _ _)
      | (with_reducible exact LeO.refl _)
      | (with_reducible exact LeO.none _)
      | (with_reducible refine LeO.ite ?_ ?_)
      | (with_reducible refine LeO.bind ?_ (fun _ => ?_))
      | exact ih0 _ _ _
      | exact ih1 _ _ _ _ _ _
      | exact LeO.none _
      | refine LeO.ite ?_ ?_
      | refine LeO.bind ?_ (fun _ => ?_)
theorem fold_reached.mono : ∀ a0 k, LeO (fold_reached.f k a0) (fold_reached.f (k + 1) a0) := by
  intro a0 k
  obtain ⟨ih0, ih1⟩ := fold_reached.mono_l k
  unfold fold_reached.f
  repeat' first
      | (with_reducible exact ih0 _ _ _)
      | (with_reducible exact ih1 _ _ _ _ _ _)
      | (with_reducible exact LeO.refl _)
      | (with_reducible exact LeO.none _)
      | (with_reducible refine LeO.ite ?_ ?_)
      | (with_reducible refine LeO.bind ?_ (fun _ => ?_))
      | exact ih0 _ _ _
      | exact ih1 _ _ _ _ _ _
      | exact LeO.none _
      | refine LeO.ite ?_ ?_
      | refine LeO.bind ?_ (fun _ => ?_)
set_option maxHeartbeats 8000000 in
set_option maxRecDepth 100000 in
theorem fold_reached.calls (k : Nat) (A0 : Option Addr) (c0 : Nat) (l0 : List (S27)) (r1 : List Bool) (r2 : Bool) (w : World) (hr0 : Kd.C k27 w A0 l0.length l0) (hc0 : l0.length ≤ c0) (h : fold_reached.f k l0 = some (r1, r2)) :
    Calls Try.prog 35 #[.slice A0 l0.length c0] w fun e w' => ∃ v0_ : Value, e = .returned (.tuple #[v0_, .bool r2]) ∧ Kd.R Kd.bool 4 w' w.heap.size (fun _ => True) v0_ r1 ∧ Below w.heap.size w w' := by
  have HR0 := Aside0.mk hr0
  have HC0 := Aside0.mk hc0
  clear hr0 hc0
  have HB := Aside0.mk (Below.refl w.heap.size w)
  have H : (if (l0.length : Int) = 0 then (some (([] : List Bool), false)) else (if 0 ≤ (l0.length : Int) then (if ((l0.length : Int) : Int).toNat ≤ 281474976710656 then ((some (List.replicate ((l0.length : Int) : Int).toNat false : List Bool)).bind fun y102 => (if 0 ≤ (wrap64 ((l0.length : Int) - 1)) then (if (wrap64 ((l0.length : Int) - 1)) < (y102.length : Int) then (fold_reached.l0 k l0 (y102.set ((wrap64 ((l0.length : Int) - 1)) : Int).toNat true) (wrap64 ((l0.length : Int) - 1))) else (none)) else (none))) else (none)) else (none))) = some (r1, r2) := h
  clear h
  by_cases c2 : (l0.length : Int) = 0
  · rw [if_pos c2] at H
    have c2b0 : ((l0.length : Int) == 0) = true := beq_iff_eq.mpr c2
    have c2b1 : ((l0.length : Int) != 0) = false := bne_eq_false_iff_eq.mpr c2
    clear c2
    simp only [Option.some.injEq, Prod.mk.injEq] at H
    obtain ⟨rfl, rfl⟩ := H
    go_enter Try.func35, Try.ntmps35
    go_wp2
    go_ret2
    exact ⟨_, by first | rfl | (simp [errW_none, errW_some] <;> rfl) | (simp [*, errW_none, errW_some] <;> rfl), by first | exact Kd.R_nil _ _ _ _ _ | exact Kd.N_nil _ _ _ _ _ | exact Kd.V_nil _ _ _ _ _ | exact Kd.Q_nil _ _ _ _ _ | exact Kd.S_nil _ _ _ _ _, by repeat (first | (with_reducible first | exact HB.out | apply below_alloc | apply pw_below_drewN | apply below_drew1) | exact HB.out)⟩
  · rw [if_neg c2] at H
    have c2b0 : ((l0.length : Int) == 0) = false := beq_eq_false_iff_ne.mpr c2
    have c2b1 : ((l0.length : Int) != 0) = true := bne_iff_ne.mpr c2
    have c2b2 : ¬ (l0 = []) := fun h_ => c2 (by rw [h_]; rfl)
    by_cases c3 : 0 ≤ (l0.length : Int)
    · rw [if_pos c3] at H
      have c3b0 := eq_true c3
      have c3b1 : decide (0 ≤ (l0.length : Int)) = true := decide_eq_true c3
      clear c3
      by_cases c4 : ((l0.length : Int) : Int).toNat ≤ 281474976710656
      · rw [if_pos c4] at H
        have c4b0 := eq_true c4
        have c4b1 : decide (((l0.length : Int) : Int).toNat ≤ 281474976710656) = true := decide_eq_true c4
        clear c4
        obtain ⟨y102, hy102⟩ : ∃ y_ : List Bool, y_ = (List.replicate ((l0.length : Int) : Int).toNat false) := ⟨_, rfl⟩
        replace H : (if 0 ≤ (wrap64 ((l0.length : Int) - 1)) then (if (wrap64 ((l0.length : Int) - 1)) < (y102.length : Int) then (fold_reached.l0 k l0 (y102.set ((wrap64 ((l0.length : Int) - 1)) : Int).toNat true) (wrap64 ((l0.length : Int) - 1))) else (none)) else (none)) = some (r1, r2) := by first | (rw [hy102]; with_reducible exact H) | (have H2_ := (Option.bind_some _ _).symm.trans H; rw [hy102]; with_reducible exact H2_) | (have H2_ := (Option.bind_some _ _).symm.trans H; with_reducible exact H2_) | with_reducible exact H | (rw [hy102]; exact H) | exact H
        have Ny102 := Aside0.mk hy102
        clear hy102
        obtain ⟨ji5, hji5⟩ : ∃ j_ : Int, (wrap64 ((l0.length : Int) - 1)) = j_ := ⟨_, rfl⟩
        replace H : (if 0 ≤ (ji5) then (if (ji5) < (y102.length : Int) then (fold_reached.l0 k l0 (y102.set ((ji5) : Int).toNat true) ji5) else (none)) else (none)) = some (r1, r2) := by first | (rw [hji5] at H; exact H) | (simp only [hji5] at H ⊢; exact H)
        have hji5w : (IntKind.i64.wrap ((l0.length : Int) - 1)) = ji5 := (i64_w _).trans hji5
        by_cases c6 : 0 ≤ (ji5)
        · rw [if_pos c6] at H
          have c6b0 : decide (0 ≤ (ji5)) = true := decide_eq_true c6
          clear c6
          by_cases c7 : (ji5) < (y102.length : Int)
          · rw [if_pos c7] at H
            have c7b0 : decide ((ji5) < (y102.length : Int)) = true := decide_eq_true c7
            clear c7
            obtain ⟨y105, hy105⟩ : ∃ y_ : List Bool, y_ = (y102.set ((ji5) : Int).toNat true) := ⟨_, rfl⟩
            replace H : (fold_reached.l0 k l0 y105 ji5) = some (r1, r2) := by first | (rw [hy105]; with_reducible exact H) | (have H2_ := (Option.bind_some _ _).symm.trans H; rw [hy105]; with_reducible exact H2_) | (have H2_ := (Option.bind_some _ _).symm.trans H; with_reducible exact H2_) | with_reducible exact H | (rw [hy105]; exact H) | exact H
            have Ny105 := Aside0.mk hy105
            clear hy105
            have H' := Aside0.mk H
            clear H
            go_enter Try.func35, Try.ntmps35
            go_wp2_with (first | ((with_reducible refine gate_dst (N := 13) rfl ?_); refine Kd.R_make Kd.bool _ 4 rfl (N := 13) rfl 55 _ _ rfl (l0.length : Int) rfl rfl Try.underlying55 (.bool false) 1 info4 rfl (by decide) (by omega) false (ok := fun _ => True) (okp := fun _ => True) rfl (fun _ hk => hk) trivial (of_decide_eq_true (by first | (with_reducible assumption) | assumption)) (Nat.le_trans (Nat.mul_le_mul_right _ (of_decide_eq_true (by first | (with_reducible assumption) | assumption) : (l0.length : Int).toNat ≤ 281474976710656)) (by omega)) (Below.refl _ _) (Nat.le_refl _) ?_; intro v103 w9 ho10 hb hg_ hnew_; clear hg_ hnew_; (first | rw [← Ny102.out] at ho10 | (simp only [Int.reduceToNat] at ho10; rw [← Ny102.out] at ho10)); have n0_ := Aside0.mk (Kd.R_lower ho10 (below_size (by repeat (first | (with_reducible first | exact HB.out | apply below_alloc | apply pw_below_drewN | apply below_drew1) | exact HB.out)))); have n1_ := Aside0.mk (below_step (by repeat (first | (with_reducible first | exact HB.out | apply below_alloc | apply pw_below_drewN | apply below_drew1) | exact HB.out)) hb); clear HB; have HO104 := n0_; have HB := n1_; clear n0_ n1_; clear hb ho10; have p8 : 0 ≤ ((ji5) : Int) := of_decide_eq_true (by first | (with_reducible assumption) | assumption); have q8 : ((ji5) : Int) < ((y102.length : Int) : Int) := of_decide_eq_true (by first | (with_reducible assumption) | assumption); obtain ⟨go8, co8, eo8, gb8, gl8, cl8, HG8⟩ := Kd.R_form HO104.out (by omega); (first | cases eo8 | (injection eo8 with ea_ en_ ec_; (first | subst ea_ | (injection ea_ with ea_; subst ea_)); subst ec_; clear en_)); have GB8 := Aside0.mk gb8; have GG8 := Aside0.mk HG8; clear gb8 gl8 HG8; obtain ⟨hx8_0, hf8_0⟩ := Kd.R_celln false HO104.out ((ji5) : Int) p8 q8; replace p8 := eq_true p8; replace q8 := eq_true q8; obtain ⟨hy11_, hz11_⟩ := Kd.R_celln false HO104.out ((ji5) : Int) (of_decide_eq_true (by first | (with_reducible assumption) | assumption)) (of_decide_eq_true (by first | (with_reducible assumption) | assumption)); have HP11 := Kd.R_putg HO104.out ((ji5) : Int) true) | ((with_reducible refine gate_store (t := 4) (p := 18) rfl ?_); refine store_event (t := 4) (p := 18) (v := ?vo_w12) (w1 := (w9.setCell ⟨go8, ((ji5) : Int).toNat, none⟩ (.bool true))) ?hg ?ho ?hn ?hr ?_; (case ho => rfl); (case hg => rfl); (case hn => rfl); (case hr => first | (go_simp; done) | (go_simp; rfl)); intro w12 hw; have hg : w9.grownBy w12 (some go8) := (by rw [hw]; exact HP11.2); have hp_ : Kd.R Kd.bool 4 w12 w.heap.size (fun _ => True) (.slice (some ⟨go8, 0, none⟩) y102.length co8) y105 := (by rw [hw, Ny105.out]; exact HP11.1); clear HP11; have n0_ := Aside0.mk (hp_); have n1_ := Aside0.mk ((by rw [hw]; exact below_set (HB.out) GB8.out : Below w.heap.size w w12)); clear HO104; clear HB; have HO104 := n0_; have HB := n1_; clear n0_ n1_; clear hg hw hp_))
            go_loopg [5] k (fun kq v5 w' => ∃ (x4_1 : List Bool) (x5_1 : Int), v5 = .int .i64 x5_1 ∧ Aside0 (fold_reached.l0 kq l0 x4_1 x5_1 = some (r1, r2)) ∧ Aside0 (kq ≤ k) ∧ Aside0 (Kd.R Kd.bool 4 w' w.heap.size (fun _ => True) (.slice (some ⟨go8, 0, none⟩) y102.length co8) x4_1) ∧ Aside0 (Below w.heap.size w w'))
            case atStart => exact ⟨(y105), (ji5), (by first | rfl | (simp; done) | (simp only [← hji5] <;> (first | rfl | simp)) | (simp [*]; done)), H', ⟨Nat.le_refl _⟩, ⟨by (with_reducible repeat (first | apply Kd.R_alloc | apply Kd.R_drewN | apply Kd.R_drew)); exact HO104.out⟩, ⟨by repeat (first | (with_reducible first | exact HB.out | apply below_alloc | apply pw_below_drewN | apply below_drew1) | exact HB.out)⟩⟩
            case round =>
              clear H'
              try clear c2
              try clear c2b0
              try clear c2b1
              try clear c2b2
              try clear p2
              try clear c3
              try clear c3b0
              try clear c3b1
              try clear c4
              try clear c4b0
              try clear c4b1
              try clear c6
              try clear c6b0
              try clear p6
              try clear c7
              try clear c7b0
              try clear p8
              try clear q8
              try clear hx8
              try clear hf8
              try clear hx8_0
              try clear p8
              try clear q8
              obtain ⟨x4_1, x5_1, rfl, HA, HK1, HO_4, HB⟩ := hrel
              have hl4_1 := (Kd.R_reads' HO_4.out).1
              rw [hl4_1] at HO_4
              (try simp only [hl4_1])
              cases gk with
              | zero => exact absurd HA.out (by simp [fold_reached.l0])
              | succ k1 =>
                have H := HA.out
                clear HA
                simp only [fold_reached.l0] at H
                by_cases c13 : x5_1 ≥ 0
                · rw [if_pos c13] at H
                  have c13b0 : decide (0 ≤ x5_1) = true := decide_eq_true c13
                  clear c13
                  by_cases c14 : 0 ≤ x5_1
                  · rw [if_pos c14] at H
                    have c14b0 : decide (0 ≤ x5_1) = true := decide_eq_true c14
                    clear c14
                    by_cases c15 : x5_1 < (x4_1.length : Int)
                    · rw [if_pos c15] at H
                      have c15b0 : decide (x5_1 < (x4_1.length : Int)) = true := decide_eq_true c15
                      clear c15
                      obtain ⟨bq16, hbq16⟩ : ∃ b_ : Bool, b_ = (rdOf false x4_1 x5_1) := ⟨_, rfl⟩
                      replace H : (if bq16 = true then (if x5_1 < (l0.length : Int) then (fold_reached.l1 k1 l0 x4_1 x5_1 ((rd_T27 l0 x5_1).f1) (((rd_T27 l0 x5_1).f1).length : Int) 0) else (none)) else (fold_reached.l0 k1 l0 x4_1 (wrap64 (x5_1 - 1)))) = some (r1, r2) := by rw [← hbq16] at H; exact H
                      have Nbq16 := Aside0.mk hbq16
                      clear hbq16
                      by_cases c17 : bq16 = true
                      · subst c17
                        have H1 : (if x5_1 < (l0.length : Int) then (fold_reached.l1 k1 l0 x4_1 x5_1 ((rd_T27 l0 x5_1).f1) (((rd_T27 l0 x5_1).f1).length : Int) 0) else (none)) = some (r1, r2) := by rw [if_pos rfl] at H; exact H
                        clear H
                        have H := H1
                        clear H1
                        by_cases c18 : x5_1 < (l0.length : Int)
                        · rw [if_pos c18] at H
                          have c18b0 : decide (x5_1 < (l0.length : Int)) = true := decide_eq_true c18
                          clear c18
                          have H' := Aside0.mk H
                          clear H
                          have p106 : 0 ≤ (x5_1 : Int) := of_decide_eq_true (by first | (with_reducible assumption) | assumption)
                          have q106 : x5_1 < (x4_1.length : Int) := of_decide_eq_true (by first | (with_reducible assumption) | assumption)
                          obtain ⟨ad106, e106, hx106_0⟩ := Kd.at_bool (Kd.R_reads' HO_4.out).2.2 x5_1 p106 q106
                          (try rw [← Nbq16.out] at hx106_0)
                          obtain rfl : (⟨go8, 0, none⟩ : Addr) = ad106 := (by injection e106)
                          (first | simp only [add_plain] at hx106_0 | simp only [add_at] at hx106_0 | simp only [Addr.add, Nat.zero_add] at hx106_0 | skip)
                          replace p106 := eq_true p106
                          replace q106 := eq_true q106
                          have p107 : 0 ≤ (x5_1 : Int) := of_decide_eq_true (by first | (with_reducible assumption) | assumption)
                          have q107 : x5_1 < (l0.length : Int) := of_decide_eq_true (by first | (with_reducible assumption) | assumption)
                          obtain ⟨ad107, A107_1, c107_1, e107, hx107_0, hx107_1, hl107_1, hi107_1⟩ := at_T27 HR0.out x5_1 p107 q107
                          cases e107
                          replace hx107_0 := (HB.out.cell (World.block_lt_of_cell? w _ hx107_0)).trans hx107_0
                          replace hx107_1 := (HB.out.cell (World.block_lt_of_cell? w _ hx107_1)).trans hx107_1
                          have HR107_1 := Aside0.mk hi107_1
                          have HC107_1 := Aside0.mk hl107_1
                          clear hi107_1 hl107_1
                          replace p107 := eq_true p107
                          replace q107 := eq_true q107
                          go_wp2
                          go_loopg [37] k1 (fun kq v37 w' => ∃ (x4_2 : List Bool) (x37_2 : Int), v37 = .int .i64 x37_2 ∧ Aside0 (fold_reached.l1 kq l0 x4_2 x5_1 ((rd_T27 l0 x5_1).f1) (((rd_T27 l0 x5_1).f1).length : Int) x37_2 = some (r1, r2)) ∧ Aside0 (kq ≤ k1) ∧ Aside0 (Kd.R Kd.bool 4 w' w.heap.size (fun _ => True) (.slice (some ⟨go8, 0, none⟩) x4_1.length co8) x4_2) ∧ Aside0 (Below w.heap.size w w'))
                          case atStart => exact ⟨(x4_1), (0), (by first | rfl | (simp; done) | (simp [*]; done)), H', ⟨Nat.le_refl _⟩, ⟨by (try simp only [hl4_1]); (with_reducible repeat (first | apply Kd.R_alloc | apply Kd.R_drewN | apply Kd.R_drew)); exact HO_4.out⟩, ⟨by repeat (first | (with_reducible first | exact HB.out | apply below_alloc | apply pw_below_drewN | apply below_drew1) | exact HB.out)⟩⟩
                          case round =>
                            clear H'
                            try clear c1
                            try clear p1
                            try clear q1
                            try clear hx1
                            try clear c2
                            try clear c2b0
                            try clear c2b1
                            try clear c2b2
                            try clear p2
                            try clear c3
                            try clear c3b0
                            try clear c3b1
                            try clear c4
                            try clear c4b0
                            try clear c4b1
                            try clear c6
                            try clear c6b0
                            try clear p6
                            try clear c7
                            try clear c7b0
                            try clear p8
                            try clear q8
                            try clear hx8
                            try clear hf8
                            try clear c10
                            try clear p10
                            try clear q10
                            try clear hx10
                            try clear c13
                            try clear c13b0
                            try clear c14
                            try clear c14b0
                            try clear c15
                            try clear c15b0
                            try clear q16
                            try clear c17
                            try clear c18
                            try clear c18b0
                            try clear hx106_0
                            try clear hx107_0
                            try clear hx107_1
                            try clear hx8_0
                            try clear p106
                            try clear p107
                            try clear p2
                            try clear p6
                            try clear p8
                            try clear q106
                            try clear q107
                            try clear q8
                            obtain ⟨x4_2, x37_2, rfl, HA, HK2, HO_4, HB⟩ := hrel
                            have hl4_2 := (Kd.R_reads' HO_4.out).1
                            rw [hl4_2] at HO_4
                            (try simp only [hl4_2])
                            cases gk with
                            | zero => exact absurd HA.out (by simp [fold_reached.l1])
                            | succ k2 =>
                              have H := HA.out
                              clear HA
                              simp only [fold_reached.l1] at H
                              by_cases c19 : x37_2 < (((rd_T27 l0 x5_1).f1).length : Int)
                              · rw [if_pos c19] at H
                                have c19b0 : decide (x37_2 < (((rd_T27 l0 x5_1).f1).length : Int)) = true := decide_eq_true c19
                                clear c19
                                by_cases c20 : 0 ≤ x37_2
                                · rw [if_pos c20] at H
                                  have c20b0 : decide (0 ≤ x37_2) = true := decide_eq_true c20
                                  clear c20
                                  by_cases c21 : x37_2 < (((rd_T27 l0 x5_1).f1).length : Int)
                                  · rw [if_pos c21] at H
                                    have c21b0 : decide (x37_2 < (((rd_T27 l0 x5_1).f1).length : Int)) = true := decide_eq_true c21
                                    clear c21
                                    by_cases c22 : (rd ((rd_T27 l0 x5_1).f1) x37_2) < 0
                                    · rw [if_pos c22] at H
                                      have c22b0 : decide ((rd ((rd_T27 l0 x5_1).f1) x37_2) < 0) = true := decide_eq_true c22
                                      clear c22
                                      simp only [Option.some.injEq, Prod.mk.injEq] at H
                                      obtain ⟨rfl, rfl⟩ := H
                                      have p108 : 0 ≤ (x37_2 : Int) := of_decide_eq_true (by first | (with_reducible assumption) | assumption)
                                      have q108 : x37_2 < (((rd_T27 l0 x5_1).f1).length : Int) := of_decide_eq_true (by first | (with_reducible assumption) | assumption)
                                      obtain ⟨ad108, e108, hx108_0⟩ := Kd.at_int HR107_1.out x37_2 p108 q108
                                      cases e108
                                      replace hx108_0 := (HB.out.cell (World.block_lt_of_cell? w _ hx108_0)).trans hx108_0
                                      replace p108 := eq_true p108
                                      replace q108 := eq_true q108
                                      go_wp2
                                      go_ret2
                                      exact ⟨_, by first | rfl | (simp [errW_none, errW_some] <;> rfl) | (simp only [← hji5]; first | rfl | (simp [errW_none, errW_some] <;> rfl)) | (simp [*, errW_none, errW_some] <;> rfl), by first | exact Kd.R_nil _ _ _ _ _ | exact Kd.N_nil _ _ _ _ _ | exact Kd.V_nil _ _ _ _ _ | exact Kd.Q_nil _ _ _ _ _ | exact Kd.S_nil _ _ _ _ _, by repeat (first | (with_reducible first | exact HB.out | apply below_alloc | apply pw_below_drewN | apply below_drew1) | exact HB.out)⟩
                                    · rw [if_neg c22] at H
                                      have c22b0 : decide ((rd ((rd_T27 l0 x5_1).f1) x37_2) < 0) = false := decide_eq_false c22
                                      clear c22
                                      by_cases c23 : (rd ((rd_T27 l0 x5_1).f1) x37_2) ≥ x5_1
                                      · rw [if_pos c23] at H
                                        have c23b0 : decide (x5_1 ≤ (rd ((rd_T27 l0 x5_1).f1) x37_2)) = true := decide_eq_true c23
                                        clear c23
                                        simp only [Option.some.injEq, Prod.mk.injEq] at H
                                        obtain ⟨rfl, rfl⟩ := H
                                        have p108 : 0 ≤ (x37_2 : Int) := of_decide_eq_true (by first | (with_reducible assumption) | assumption)
                                        have q108 : x37_2 < (((rd_T27 l0 x5_1).f1).length : Int) := of_decide_eq_true (by first | (with_reducible assumption) | assumption)
                                        obtain ⟨ad108, e108, hx108_0⟩ := Kd.at_int HR107_1.out x37_2 p108 q108
                                        cases e108
                                        replace hx108_0 := (HB.out.cell (World.block_lt_of_cell? w _ hx108_0)).trans hx108_0
                                        replace p108 := eq_true p108
                                        replace q108 := eq_true q108
                                        go_wp2
                                        go_ret2
                                        exact ⟨_, by first | rfl | (simp [errW_none, errW_some] <;> rfl) | (simp only [← hji5]; first | rfl | (simp [errW_none, errW_some] <;> rfl)) | (simp [*, errW_none, errW_some] <;> rfl), by first | exact Kd.R_nil _ _ _ _ _ | exact Kd.N_nil _ _ _ _ _ | exact Kd.V_nil _ _ _ _ _ | exact Kd.Q_nil _ _ _ _ _ | exact Kd.S_nil _ _ _ _ _, by repeat (first | (with_reducible first | exact HB.out | apply below_alloc | apply pw_below_drewN | apply below_drew1) | exact HB.out)⟩
                                      · rw [if_neg c23] at H
                                        have c23b0 : decide (x5_1 ≤ (rd ((rd_T27 l0 x5_1).f1) x37_2)) = false := decide_eq_false c23
                                        clear c23
                                        by_cases c24 : 0 ≤ (rd ((rd_T27 l0 x5_1).f1) x37_2)
                                        · rw [if_pos c24] at H
                                          have c24b0 : decide (0 ≤ (rd ((rd_T27 l0 x5_1).f1) x37_2)) = true := decide_eq_true c24
                                          clear c24
                                          by_cases c25 : (rd ((rd_T27 l0 x5_1).f1) x37_2) < (x4_2.length : Int)
                                          · rw [if_pos c25] at H
                                            have c25b0 : decide ((rd ((rd_T27 l0 x5_1).f1) x37_2) < (x4_2.length : Int)) = true := decide_eq_true c25
                                            clear c25
                                            obtain ⟨y109, hy109⟩ : ∃ y_ : List Bool, y_ = (x4_2.set ((rd ((rd_T27 l0 x5_1).f1) x37_2) : Int).toNat true) := ⟨_, rfl⟩
                                            replace H : (fold_reached.l1 k2 l0 y109 x5_1 ((rd_T27 l0 x5_1).f1) (((rd_T27 l0 x5_1).f1).length : Int) (wrap64 (x37_2 + 1))) = some (r1, r2) := by first | (rw [hy109]; with_reducible exact H) | (have H2_ := (Option.bind_some _ _).symm.trans H; rw [hy109]; with_reducible exact H2_) | (have H2_ := (Option.bind_some _ _).symm.trans H; with_reducible exact H2_) | with_reducible exact H | (rw [hy109]; exact H) | exact H
                                            have Ny109 := Aside0.mk hy109
                                            clear hy109
                                            have H' := Aside0.mk H
                                            clear H
                                            have p108 : 0 ≤ (x37_2 : Int) := of_decide_eq_true (by first | (with_reducible assumption) | assumption)
                                            have q108 : x37_2 < (((rd_T27 l0 x5_1).f1).length : Int) := of_decide_eq_true (by first | (with_reducible assumption) | assumption)
                                            obtain ⟨ad108, e108, hx108_0⟩ := Kd.at_int HR107_1.out x37_2 p108 q108
                                            cases e108
                                            replace hx108_0 := (HB.out.cell (World.block_lt_of_cell? w _ hx108_0)).trans hx108_0
                                            replace p108 := eq_true p108
                                            replace q108 := eq_true q108
                                            have p26 : 0 ≤ ((rd ((rd_T27 l0 x5_1).f1) x37_2) : Int) := of_decide_eq_true (by first | (with_reducible assumption) | assumption)
                                            have q26 : ((rd ((rd_T27 l0 x5_1).f1) x37_2) : Int) < ((x4_2.length : Int) : Int) := of_decide_eq_true (by first | (with_reducible assumption) | assumption)
                                            obtain ⟨hx26_0, hf26_0⟩ := Kd.R_celln false HO_4.out ((rd ((rd_T27 l0 x5_1).f1) x37_2) : Int) p26 q26
                                            replace p26 := eq_true p26
                                            replace q26 := eq_true q26
                                            have HP27 := Kd.R_putg HO_4.out ((rd ((rd_T27 l0 x5_1).f1) x37_2) : Int) true
                                            go_wp2_with (first | ((with_reducible refine gate_store (t := 4) (p := 50) rfl ?_); refine store_event (t := 4) (p := 50) (v := ?vo_w28) (w1 := (wr.setCell ⟨go8, ((rd ((rd_T27 l0 x5_1).f1) x37_2) : Int).toNat, none⟩ (.bool true))) ?hg ?ho ?hn ?hr ?_; (case ho => rfl); (case hg => rfl); (case hn => rfl); (case hr => first | (go_simp; done) | (go_simp; rfl)); intro w28 hw; have hg : wr.grownBy w28 (some go8) := (by rw [hw]; exact HP27.2); have hp_ : Kd.R Kd.bool 4 w28 w.heap.size (fun _ => True) (.slice (some ⟨go8, 0, none⟩) x4_2.length co8) y109 := (by rw [hw, Ny109.out]; exact HP27.1); clear HP27; have n0_ := Aside0.mk (hp_); have n1_ := Aside0.mk ((by rw [hw]; exact below_set (HB.out) GB8.out : Below w.heap.size w w28)); clear HO_4; clear HB; have HO_4 := n0_; have HB := n1_; clear n0_ n1_; clear hg hw hp_))
                                            (try simp only [← hl4_2])
                                            go_roundg k2
                                            case measure => have := HK1.out; have := HK2.out; omega
                                            case rel => exact ⟨(y109), (wrap64 (x37_2 + 1)), (by first | rfl | (simp; done) | (simp [*]; done)), H', ⟨by have := HK1.out; have := HK2.out; omega⟩, ⟨by (try simp only [hl4_1]); (try simp only [hl4_2]); (with_reducible repeat (first | apply Kd.R_alloc | apply Kd.R_drewN | apply Kd.R_drew)); exact HO_4.out⟩, ⟨by repeat (first | (with_reducible first | exact HB.out | apply below_alloc | apply pw_below_drewN | apply below_drew1) | exact HB.out)⟩⟩
                                          · rw [if_neg c25] at H
                                            exact absurd H (by simp)
                                        · rw [if_neg c24] at H
                                          exact absurd H (by simp)
                                  · rw [if_neg c21] at H
                                    exact absurd H (by simp)
                                · rw [if_neg c20] at H
                                  exact absurd H (by simp)
                              · rw [if_neg c19] at H
                                have c19b0 : decide (x37_2 < (((rd_T27 l0 x5_1).f1).length : Int)) = false := decide_eq_false c19
                                clear c19
                                have H' := Aside0.mk H
                                clear H
                                go_wp2
                                (try simp only [← hl4_1, ← hl4_2])
                                go_roundg k2
                                case measure => have := HK1.out; have := HK2.out; omega
                                case rel => exact ⟨(x4_2), (wrap64 (x5_1 - 1)), (by first | rfl | (simp; done) | (simp [*]; done)), H', ⟨by have := HK1.out; have := HK2.out; omega⟩, ⟨by (try simp only [hl4_1]); (try simp only [hl4_2]); (with_reducible repeat (first | apply Kd.R_alloc | apply Kd.R_drewN | apply Kd.R_drew)); exact HO_4.out⟩, ⟨by repeat (first | (with_reducible first | exact HB.out | apply below_alloc | apply pw_below_drewN | apply below_drew1) | exact HB.out)⟩⟩
                        · rw [if_neg c18] at H
                          exact absurd H (by simp)
                      · replace c17 := Bool.eq_false_iff.mpr c17
                        subst c17
                        have H1 : (fold_reached.l0 k1 l0 x4_1 (wrap64 (x5_1 - 1))) = some (r1, r2) := by rw [if_neg (show ¬ (false = true) by decide)] at H; exact H
                        clear H
                        have H := H1
                        clear H1
                        have H' := Aside0.mk H
                        clear H
                        have p106 : 0 ≤ (x5_1 : Int) := of_decide_eq_true (by first | (with_reducible assumption) | assumption)
                        have q106 : x5_1 < (x4_1.length : Int) := of_decide_eq_true (by first | (with_reducible assumption) | assumption)
                        obtain ⟨ad106, e106, hx106_0⟩ := Kd.at_bool (Kd.R_reads' HO_4.out).2.2 x5_1 p106 q106
                        (try rw [← Nbq16.out] at hx106_0)
                        obtain rfl : (⟨go8, 0, none⟩ : Addr) = ad106 := (by injection e106)
                        (first | simp only [add_plain] at hx106_0 | simp only [add_at] at hx106_0 | simp only [Addr.add, Nat.zero_add] at hx106_0 | skip)
                        replace p106 := eq_true p106
                        replace q106 := eq_true q106
                        go_wp2
                        (try simp only [← hl4_1])
                        go_roundg k1
                        case measure => have := HK1.out; omega
                        case rel => exact ⟨(x4_1), (wrap64 (x5_1 - 1)), (by first | rfl | (simp; done) | (simp [*]; done)), H', ⟨by have := HK1.out; omega⟩, ⟨by (try simp only [hl4_1]); (with_reducible repeat (first | apply Kd.R_alloc | apply Kd.R_drewN | apply Kd.R_drew)); exact HO_4.out⟩, ⟨by repeat (first | (with_reducible first | exact HB.out | apply below_alloc | apply pw_below_drewN | apply below_drew1) | exact HB.out)⟩⟩
                    · rw [if_neg c15] at H
                      exact absurd H (by simp)
                  · rw [if_neg c14] at H
                    exact absurd H (by simp)
                · rw [if_neg c13] at H
                  have c13b0 : decide (0 ≤ x5_1) = false := decide_eq_false c13
                  clear c13
                  simp only [Option.some.injEq, Prod.mk.injEq] at H
                  obtain ⟨rfl, rfl⟩ := H
                  go_wp2
                  go_ret2
                  exact ⟨_, by first | rfl | (simp [errW_none, errW_some] <;> rfl) | (simp only [← hji5]; first | rfl | (simp [errW_none, errW_some] <;> rfl)) | (simp [*, errW_none, errW_some] <;> rfl), by (with_reducible repeat (first | apply Kd.R_alloc | apply Kd.R_drewN | apply Kd.R_drew)); exact HO_4.out, by repeat (first | (with_reducible first | exact HB.out | apply below_alloc | apply pw_below_drewN | apply below_drew1) | exact HB.out)⟩
          · rw [if_neg c7] at H
            exact absurd H (by simp)
        · rw [if_neg c6] at H
          exact absurd H (by simp)
      · rw [if_neg c4] at H
        exact absurd H (by simp)
    · rw [if_neg c3] at H
      exact absurd H (by simp)

-- NOT PRINTED: function 36 (fold_folder_gather)

-- NOT PRINTED: function 37 (fold_folder_name)

/-- A state of type 91 at block g of W; what its slices lead to came in by w0. -/
def IsS91 (w0 W : World) (g : Nat) (f0 : ByteArray) (f1 : List Int) (f2 : Int) (f3 : Int) : Prop := ∃ A1 c1, W.heap[g]? = some (.cells #[.string f0, .slice A1 f1.length c1, .int .i64 f2, .int .i64 f3] 91 (0, 0)) ∧ w0.heap.size ≤ g ∧ Kd.C (Kd.int .i64) w0 A1 f1.length f1
theorem IsS91.grown {w0 W : World} {g : Nat} {f0 : ByteArray} {f1 : List Int} {f2 : Int} {f3 : Int} {W1 : World} {row : Option Nat} (h : IsS91 w0 W g f0 f1 f2 f3) (hw : W.grownBy W1 row) (hne : some g ≠ row) : IsS91 w0 W1 g f0 f1 f2 f3 := by
  obtain ⟨A1, c1, hb, hg, hr1⟩ := h
  exact ⟨A1, c1, blk_grown hb hw hne, hg, hr1⟩
theorem IsS91.own_neN {w0 W : World} {g : Nat} {f0 : ByteArray} {f1 : List Int} {f2 : Int} {f3 : Int} {α : Type} {d : Kd α} {e : Nat} {base : Nat} {ok : Nat → Prop} {v : Value} {xs : List α} (h : IsS91 w0 W g f0 f1 f2 f3) (ho : Kd.N d e W base ok v xs) (ht : e ≠ 91) : some g ≠ v.ownBlock := by
  obtain ⟨A1, c1, hb, hg, hr1⟩ := h
  exact Kd.N_ne ho hb ht
theorem IsS91.fresh {w0 W : World} {g : Nat} {f0 : ByteArray} {f1 : List Int} {f2 : Int} {f3 : Int} (h : IsS91 w0 W g f0 f1 f2 f3) : ∀ k, W.heap.size ≤ k → k ≠ g := by
  obtain ⟨A1, c1, hb, hg, hr1⟩ := h
  exact Kd.freshB hb
theorem IsS91.kept {w0 W : World} {g : Nat} {f0 : ByteArray} {f1 : List Int} {f2 : Int} {f3 : Int} {W1 : World} {S : Nat → Prop} (h : IsS91 w0 W g f0 f1 f2 f3) (hk : Kept W W1 S) (hne : ¬ S g) : IsS91 w0 W1 g f0 f1 f2 f3 := by
  obtain ⟨A1, c1, hb, hg, hr1⟩ := h
  exact ⟨A1, c1, blk_kept hb hk hne, hg, hr1⟩
theorem IsS91.below {w0 W : World} {g : Nat} {f0 : ByteArray} {f1 : List Int} {f2 : Int} {f3 : Int} {W1 : World} (h : IsS91 w0 W g f0 f1 f2 f3) (hw : Below W.heap.size W W1) : IsS91 w0 W1 g f0 f1 f2 f3 := h.grown (grown_of_below hw none) (by simp)
theorem IsS91.alloc {w0 W : World} {g : Nat} {f0 : ByteArray} {f1 : List Int} {f2 : Int} {f3 : Int} (h : IsS91 w0 W g f0 f1 f2 f3) (o : Obj) : IsS91 w0 (W.alloc o) g f0 f1 f2 f3 := h.below (below_alloc (Below.refl _ _) o)
theorem IsS91.drewN {w0 W : World} {g : Nat} {f0 : ByteArray} {f1 : List Int} {f2 : Int} {f3 : Int} (h : IsS91 w0 W g f0 f1 f2 f3) (m : Nat) : IsS91 w0 (W.drewN m) g f0 f1 f2 f3 := h
theorem IsS91.drew {w0 W : World} {g : Nat} {f0 : ByteArray} {f1 : List Int} {f2 : Int} {f3 : Int} (h : IsS91 w0 W g f0 f1 f2 f3) : IsS91 w0 W.drew g f0 f1 f2 f3 := h
theorem IsS91.at_ {w0 W : World} {g : Nat} {f0 : ByteArray} {f1 : List Int} {f2 : Int} {f3 : Int} {w' : World} {m : Nat} (hq : W.drewN m = w') (h : IsS91 w0 W g f0 f1 f2 f3) : IsS91 w0 w' g f0 f1 f2 f3 := by subst hq; exact IsS91.drewN h m
theorem IsS91.apart {w0 W : World} {g : Nat} {f0 : ByteArray} {f1 : List Int} {f2 : Int} {f3 : Int} {α : Type} {d : Kd α} {e : Nat} {base : Nat} {ok : Nat → Prop} {v : Value} {xs : List α} (h : IsS91 w0 W g f0 f1 f2 f3) (ho : d.R e W base ok v xs) (ht : ∀ q, q ∈ e :: d.E → q ≠ 91) : d.R e W base (fun k => ok k ∧ k ≠ g) v xs := by
  obtain ⟨A1, c1, hb, hg, hr1⟩ := h
  exact Kd.R_types ho hb ht
theorem IsS91.own_ne {w0 W : World} {g : Nat} {f0 : ByteArray} {f1 : List Int} {f2 : Int} {f3 : Int} {α : Type} {d : Kd α} {e : Nat} {base : Nat} {ok : Nat → Prop} {v : Value} {xs : List α} (h : IsS91 w0 W g f0 f1 f2 f3) (ho : d.R e W base ok v xs) (ht : e ≠ 91) : some g ≠ v.ownBlock := by
  obtain ⟨A1, c1, hb, hg, hr1⟩ := h
  exact Kd.R_ne ho hb ht
theorem IsS91.apartQ {w0 W : World} {g : Nat} {f0 : ByteArray} {f1 : List Int} {f2 : Int} {f3 : Int} {α : Type} {d : Kd α} {e : Nat} {base : Nat} {ok : Nat → Prop} {v : Value} {xs : List α} (h : IsS91 w0 W g f0 f1 f2 f3) (ho : d.Q e W base ok v xs) (ht : ∀ q, q ∈ e :: d.E → q ≠ 91) : d.Q e W base (fun k => ok k ∧ k ≠ g) v xs := by
  obtain ⟨A1, c1, hb, hg, hr1⟩ := h
  exact Kd.Q_types ho hb ht
theorem IsS91.own_neQ {w0 W : World} {g : Nat} {f0 : ByteArray} {f1 : List Int} {f2 : Int} {f3 : Int} {α : Type} {d : Kd α} {e : Nat} {base : Nat} {ok : Nat → Prop} {v : Value} {xs : List α} (h : IsS91 w0 W g f0 f1 f2 f3) (ho : d.Q e W base ok v xs) (ht : e ≠ 91) : some g ≠ v.ownBlock := by
  obtain ⟨A1, c1, hb, hg, hr1⟩ := h
  exact Kd.Q_ne ho hb ht
theorem IsS91.apartS {w0 W : World} {g : Nat} {f0 : ByteArray} {f1 : List Int} {f2 : Int} {f3 : Int} {α : Type} {d : Kd α} {e : Nat} {base : Nat} {ok : Nat → Prop} {v : Value} {xs : List α} (h : IsS91 w0 W g f0 f1 f2 f3) (ho : d.S e W base ok v xs) (ht : ∀ q, q ∈ e :: d.E → q ≠ 91) : d.S e W base (fun k => ok k ∧ k ≠ g) v xs := by
  obtain ⟨A1, c1, hb, hg, hr1⟩ := h
  exact Kd.S_types ho hb ht
theorem IsS91.own_neS {w0 W : World} {g : Nat} {f0 : ByteArray} {f1 : List Int} {f2 : Int} {f3 : Int} {α : Type} {d : Kd α} {e : Nat} {base : Nat} {ok : Nat → Prop} {v : Value} {xs : List α} (h : IsS91 w0 W g f0 f1 f2 f3) (ho : d.S e W base ok v xs) (ht : e ≠ 91) : some g ≠ v.ownBlock := by
  obtain ⟨A1, c1, hb, hg, hr1⟩ := h
  exact Kd.S_ne ho hb ht
theorem IsS91.lt {w0 W : World} {g : Nat} {f0 : ByteArray} {f1 : List Int} {f2 : Int} {f3 : Int} (h : IsS91 w0 W g f0 f1 f2 f3) : g < W.heap.size := by
  obtain ⟨A1, c1, hb, hg, hr1⟩ := h
  exact blk_lt hb
theorem IsS91.ge {w0 W : World} {g : Nat} {f0 : ByteArray} {f1 : List Int} {f2 : Int} {f3 : Int} (h : IsS91 w0 W g f0 f1 f2 f3) : w0.heap.size ≤ g := by
  obtain ⟨A1, c1, hb, hg, hr1⟩ := h
  exact hg
theorem IsS91.ne_blk {w0 W : World} {g : Nat} {f0 : ByteArray} {f1 : List Int} {f2 : Int} {f3 : Int} {a : Nat} {cs : Array Value} {t : TypeId} {fr : Nat × Nat} (h : IsS91 w0 W g f0 f1 f2 f3) (hb2 : W.heap[a]? = some (.cells cs t fr)) (ht : t ≠ 91) : g ≠ a := by
  obtain ⟨A1, c1, hb, hg, hr1⟩ := h
  rintro rfl
  rw [hb] at hb2
  injection hb2 with hb2
  injection hb2 with _ ht2
  exact ht ht2.symm
theorem IsS91.far {w0 W : World} {g : Nat} {f0 : ByteArray} {f1 : List Int} {f2 : Int} {f3 : Int} {p : Addr} (h : IsS91 w0 W g f0 f1 f2 f3) (hne : g ≠ p.block) (u : Value) : IsS91 w0 (W.setCell p u) g f0 f1 f2 f3 := by
  obtain ⟨A1, c1, hb, hg, hr1⟩ := h
  exact ⟨A1, c1, blk_far hb hne u, hg, hr1⟩
theorem cellS91_0 {W : World} {g : Nat} {A1 : Option Addr} {c1 : Nat} {f0 : ByteArray} {f1 : List Int} {f2 : Int} {f3 : Int} (h : W.heap[g]? = some (.cells #[.string f0, .slice A1 f1.length c1, .int .i64 f2, .int .i64 f3] 91 (0, 0))) : W.cell? ⟨g, 0, none⟩ = some (.string f0) := (blk_cell h 0).trans rfl
theorem IsS91.set_0 {w0 W : World} {g : Nat} {f0 : ByteArray} {f1 : List Int} {f2 : Int} {f3 : Int} (h : IsS91 w0 W g f0 f1 f2 f3) (x : ByteArray) : IsS91 w0 (W.setCell ⟨g, 0, none⟩ (.string x)) g x f1 f2 f3 := by
  obtain ⟨A1, c1, hb, hg, hr1⟩ := h
  exact ⟨A1, c1, by simpa using blk_set hb 0 (.string x), hg, hr1⟩
theorem cellS91_1 {W : World} {g : Nat} {A1 : Option Addr} {c1 : Nat} {f0 : ByteArray} {f1 : List Int} {f2 : Int} {f3 : Int} (h : W.heap[g]? = some (.cells #[.string f0, .slice A1 f1.length c1, .int .i64 f2, .int .i64 f3] 91 (0, 0))) : W.cell? ⟨g, 1, none⟩ = some (.slice A1 f1.length c1) := (blk_cell h 1).trans rfl
theorem cellS91_2 {W : World} {g : Nat} {A1 : Option Addr} {c1 : Nat} {f0 : ByteArray} {f1 : List Int} {f2 : Int} {f3 : Int} (h : W.heap[g]? = some (.cells #[.string f0, .slice A1 f1.length c1, .int .i64 f2, .int .i64 f3] 91 (0, 0))) : W.cell? ⟨g, 2, none⟩ = some (.int .i64 f2) := (blk_cell h 2).trans rfl
theorem IsS91.set_2 {w0 W : World} {g : Nat} {f0 : ByteArray} {f1 : List Int} {f2 : Int} {f3 : Int} (h : IsS91 w0 W g f0 f1 f2 f3) (x : Int) : IsS91 w0 (W.setCell ⟨g, 2, none⟩ (.int .i64 x)) g f0 f1 x f3 := by
  obtain ⟨A1, c1, hb, hg, hr1⟩ := h
  exact ⟨A1, c1, by simpa using blk_set hb 2 (.int .i64 x), hg, hr1⟩
theorem cellS91_3 {W : World} {g : Nat} {A1 : Option Addr} {c1 : Nat} {f0 : ByteArray} {f1 : List Int} {f2 : Int} {f3 : Int} (h : W.heap[g]? = some (.cells #[.string f0, .slice A1 f1.length c1, .int .i64 f2, .int .i64 f3] 91 (0, 0))) : W.cell? ⟨g, 3, none⟩ = some (.int .i64 f3) := (blk_cell h 3).trans rfl
theorem IsS91.set_3 {w0 W : World} {g : Nat} {f0 : ByteArray} {f1 : List Int} {f2 : Int} {f3 : Int} (h : IsS91 w0 W g f0 f1 f2 f3) (x : Int) : IsS91 w0 (W.setCell ⟨g, 3, none⟩ (.int .i64 x)) g f0 f1 f2 x := by
  obtain ⟨A1, c1, hb, hg, hr1⟩ := h
  exact ⟨A1, c1, by simpa using blk_set hb 3 (.int .i64 x), hg, hr1⟩
theorem IsS91.new (w0 W : World) (A1 : Option Addr) (c1 : Nat) (f0 : ByteArray) (f1 : List Int) (f2 : Int) (f3 : Int) (hB : Below w0.heap.size w0 W) (hr1 : Kd.C (Kd.int .i64) w0 A1 f1.length f1) : IsS91 w0 (W.alloc (.cells #[.string f0, .slice A1 f1.length c1, .int .i64 f2, .int .i64 f3] 91)) W.heap.size f0 f1 f2 f3 := ⟨A1, c1, by simpa using heap_alloc_new W _, hB.size, hr1⟩

/-! ### fold_part_saved: function 51 -/
def fold_part_saved.f (s0_0 : ByteArray) (s0_1 : List Int) (s0_2 : Int) (s0_3 : Int) : Option (Bool × ByteArray × Int × Int) := if (s0_1.length : Int) > 0 then (some (decide (s0_2 > 1), s0_0, s0_2, s0_3)) else (some (false, s0_0, s0_2, s0_3))
set_option maxHeartbeats 8000000 in
set_option maxRecDepth 100000 in
theorem fold_part_saved.calls (g : Nat) (s0_0 : ByteArray) (s0_1 : List Int) (s0_2 : Int) (s0_3 : Int) (r1 : Bool) (r2 : ByteArray) (r3 : Int) (r4 : Int) (w0 w : World) (hI : IsS91 w0 w g s0_0 s0_1 s0_2 s0_3) (hB : Below w0.heap.size w0 w) (h : fold_part_saved.f s0_0 s0_1 s0_2 s0_3 = some (r1, r2, r3, r4)) :
    Calls Try.prog 51 #[.pointer (some ⟨g, 0, none⟩)] w fun e w' => e = .returned (.bool r1) ∧ IsS91 w0 w' g r2 s0_1 r3 r4 ∧ Below w0.heap.size w0 w' ∧ KeepBut w w' g none := by
  have HI0 := Aside0.mk hI
  have HK := Aside0.mk (KeepBut.refl w g none)
  have HL := Aside0.mk hB.size
  clear hI
  have HW0 := Aside0.mk hB.size
  have HB := Aside0.mk hB
  clear hB
  have H : (if (s0_1.length : Int) > 0 then (some (decide (s0_2 > 1), s0_0, s0_2, s0_3)) else (some (false, s0_0, s0_2, s0_3))) = some (r1, r2, r3, r4) := h
  clear h
  by_cases c2 : (s0_1.length : Int) > 0
  · rw [if_pos c2] at H
    have c2b0 : decide (0 < (s0_1.length : Int)) = true := decide_eq_true c2
    have c2b1 : decide (0 < s0_1.length) = true := decide_eq_true (by omega)
    clear c2
    simp only [Option.some.injEq, Prod.mk.injEq] at H
    obtain ⟨rfl, rfl, rfl, rfl⟩ := H
    obtain ⟨ASz3_1, cSz3_1, HGz3, hgz3, HSz3_1⟩ := HI0.out
    have hcz3_0 := cellS91_0 HGz3
    have hcz3_1 := cellS91_1 HGz3
    have hcz3_2 := cellS91_2 HGz3
    have hcz3_3 := cellS91_3 HGz3
    have hfz3_0 := blk_frozen HGz3 0
    have hfz3_2 := blk_frozen HGz3 2
    have hfz3_3 := blk_frozen HGz3 3
    clear HGz3 hgz3
    go_enter Try.func51, Try.ntmps51
    go_wp2
    go_ret
    exact ⟨by first | rfl | (simp [errW_none, errW_some] <;> rfl) | (simp [*, errW_none, errW_some] <;> rfl), by repeat (first | (with_reducible first | exact HI0.out | apply IsS91.alloc | apply IsS91.drewN | apply IsS91.drew | apply IsS91.set_0 | apply IsS91.set_2 | apply IsS91.set_3) | exact HI0.out), by repeat (first | (with_reducible first | exact HB.out | apply below_alloc | apply pw_below_drewN | apply below_drew1 | refine below_set ?_ (IsS91.ge HI0.out)) | exact HB.out), by repeat (first | (with_reducible first | exact HK.out | apply KeepBut.set_ | apply keep_drewN | apply keep_drew | apply keep_alloc) | exact HK.out)⟩
  · rw [if_neg c2] at H
    have c2b0 : decide (0 < (s0_1.length : Int)) = false := decide_eq_false c2
    have c2b1 : decide (0 < s0_1.length) = false := decide_eq_false (by omega)
    clear c2
    simp only [Option.some.injEq, Prod.mk.injEq] at H
    obtain ⟨rfl, rfl, rfl, rfl⟩ := H
    obtain ⟨ASz4_1, cSz4_1, HGz4, hgz4, HSz4_1⟩ := HI0.out
    have hcz4_0 := cellS91_0 HGz4
    have hcz4_1 := cellS91_1 HGz4
    have hcz4_2 := cellS91_2 HGz4
    have hcz4_3 := cellS91_3 HGz4
    have hfz4_0 := blk_frozen HGz4 0
    have hfz4_2 := blk_frozen HGz4 2
    have hfz4_3 := blk_frozen HGz4 3
    clear HGz4 hgz4
    go_enter Try.func51, Try.ntmps51
    go_wp2
    go_ret
    exact ⟨by first | rfl | (simp [errW_none, errW_some] <;> rfl) | (simp [*, errW_none, errW_some] <;> rfl), by repeat (first | (with_reducible first | exact HI0.out | apply IsS91.alloc | apply IsS91.drewN | apply IsS91.drew | apply IsS91.set_0 | apply IsS91.set_2 | apply IsS91.set_3) | exact HI0.out), by repeat (first | (with_reducible first | exact HB.out | apply below_alloc | apply pw_below_drewN | apply below_drew1 | refine below_set ?_ (IsS91.ge HI0.out)) | exact HB.out), by repeat (first | (with_reducible first | exact HK.out | apply KeepBut.set_ | apply keep_drewN | apply keep_drew | apply keep_alloc) | exact HK.out)⟩

-- NOT PRINTED: function 38 (fold_folder_write)

-- NOT PRINTED: function 11 (fold_Nodes)

-- NOT PRINTED: function 3 (lemmalaw16_FoldDoubles)

end Go.Proofs.Ytkonloadedbpkaa.PFoldDoubles
