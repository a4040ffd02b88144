-- PRINTED BY print.sh 35421559b90ae4d0a3588c463048766b98c2df88dd9212a6774a882060cdf62d: not written by this session
import Derived.Test.YtambldebfhhjpaaPExprFacesx0
namespace Go.Proofs.Ytambldebfhhjpaa.PExprFaces
open Go.RowKit Go.Proofs.YtambldebfhhjpaaW.PrintWords Go.Proofs.YtambldebfhhjpaaW.PrintLast Go.Proofs.YtambldebfhhjpaaW.PrintMore
attribute [local go_sem] max2_int min2_int max_two min_two max_three min_three max_four min_four   -- for this text's walks alone
set_option linter.unusedVariables false
set_option linter.unusedSimpArgs false

/-! ### lemmaref03_Kinds_Is: function 27 -/
mutual
def lemmaref03_Kinds_Is.j0 : Nat → Int → Bool → Bool → List Bool → Int → Bool → Int → Int → List Int → Option (Bool)
  | 0, _, _, _, _, _, _, _, _, _ => none
  | k + 1, x1, x26, x134000, x134001, x134002, x134003, x134004, x134005, x134006 => if x26 = true then (some true) else (if x134002 > 0 then (if x1 ≥ x134002 then (lemmaref03_Kinds_Is.j1 k x1 true x134000 x134001 x134002 x134003 x134004 x134005 x134006) else (if x134003 = true then (lemmaref03_Kinds_Is.j1 k x1 (decide (x1 ≤ (wrap64 (-x134002)))) x134000 x134001 x134002 x134003 x134004 x134005 x134006) else (lemmaref03_Kinds_Is.j1 k x1 false x134000 x134001 x134002 x134003 x134004 x134005 x134006))) else (lemmaref03_Kinds_Is.j1 k x1 false x134000 x134001 x134002 x134003 x134004 x134005 x134006))
def lemmaref03_Kinds_Is.j1 : Nat → Int → Bool → Bool → List Bool → Int → Bool → Int → Int → List Int → Option (Bool)
  | 0, _, _, _, _, _, _, _, _, _ => none
  | k + 1, x1, x46, x134000, x134001, x134002, x134003, x134004, x134005, x134006 => if x46 = true then (some true) else (if x134004 > 0 then (if x134004 = 0 then (none) else (if (Int.tmod x1 x134004) < 0 then (some (decide ((wrap64 ((Int.tmod x1 x134004) + x134004)) < x134005))) else (some (decide ((Int.tmod x1 x134004) < x134005))))) else (lemmaref03_Kinds_Is.l0 k x1 0 x134000 x134001 x134002 x134003 x134004 x134005 x134006))
def lemmaref03_Kinds_Is.l0 : Nat → Int → Int → Bool → List Bool → Int → Bool → Int → Int → List Int → Option (Bool)
  | 0, _, _, _, _, _, _, _, _, _ => none
  | k + 1, x1, x6, x134000, x134001, x134002, x134003, x134004, x134005, x134006 => if x6 < (x134006.length : Int) then (if 0 ≤ x6 then (if (rd x134006 x6) = x1 then (some true) else (lemmaref03_Kinds_Is.l0 k x1 (wrap64 (x6 + 1)) x134000 x134001 x134002 x134003 x134004 x134005 x134006)) else (none)) else (some false)
end
def lemmaref03_Kinds_Is.f (k : Nat) (a0_0 : Bool) (l0_1 : List Bool) (a0_2 : Int) (a0_3 : Bool) (a0_4 : Int) (a0_5 : Int) (l0_6 : List Int) (a1 : Int) : Option (Bool) := if a0_0 = true then (lemmaref03_Kinds_Is.j0 k a1 true a0_0 l0_1 a0_2 a0_3 a0_4 a0_5 l0_6) else (if a1 ≥ 0 then (if a1 < (l0_1.length : Int) then (if 0 ≤ a1 then (lemmaref03_Kinds_Is.j0 k a1 (rdOf false l0_1 a1) a0_0 l0_1 a0_2 a0_3 a0_4 a0_5 l0_6) else (none)) else (lemmaref03_Kinds_Is.j0 k a1 false a0_0 l0_1 a0_2 a0_3 a0_4 a0_5 l0_6)) else (lemmaref03_Kinds_Is.j0 k a1 false a0_0 l0_1 a0_2 a0_3 a0_4 a0_5 l0_6))
theorem lemmaref03_Kinds_Is.mono_l : ∀ k, (∀ y0 y1 y2 y3 y4 y5 y6 y7 y8, LeO (lemmaref03_Kinds_Is.j0 k y0 y1 y2 y3 y4 y5 y6 y7 y8) (lemmaref03_Kinds_Is.j0 (k + 1) y0 y1 y2 y3 y4 y5 y6 y7 y8)) ∧ (∀ y0 y1 y2 y3 y4 y5 y6 y7 y8, LeO (lemmaref03_Kinds_Is.j1 k y0 y1 y2 y3 y4 y5 y6 y7 y8) (lemmaref03_Kinds_Is.j1 (k + 1) y0 y1 y2 y3 y4 y5 y6 y7 y8)) ∧ (∀ y0 y1 y2 y3 y4 y5 y6 y7 y8, LeO (lemmaref03_Kinds_Is.l0 k y0 y1 y2 y3 y4 y5 y6 y7 y8) (lemmaref03_Kinds_Is.l0 (k + 1) y0 y1 y2 y3 y4 y5 y6 y7 y8))
  | 0 => ⟨fun _ _ _ _ _ _ _ _ _ r h => by simp [lemmaref03_Kinds_Is.j0] at h, fun _ _ _ _ _ _ _ _ _ r h => by simp [lemmaref03_Kinds_Is.j1] at h, fun _ _ _ _ _ _ _ _ _ r h => by simp [lemmaref03_Kinds_Is.l0] at h⟩
  | k + 1 => by
    obtain ⟨ih0, ih1, ih2⟩ := lemmaref03_Kinds_Is.mono_l k
    refine ⟨?_, ?_, ?_⟩
    · intro y0 y1 y2 y3 y4 y5 y6 y7 y8
      unfold lemmaref03_Kinds_Is.j0
      repeat' first
      | (with_reducible exact ih0 _ _ _ _ _ _ _ _ _)
      | (with_reducible exact ih1 _ _ _ _ _ _ _ _ _)
      | (with_reducible exact ih2 _ _ _ _ _ _ _ _ _)
      | (with_reducible exact LeO.refl _)
      | (with_reducible exact LeO.none _)
      | (with_reducible refine LeO.ite ?_ ?_)
      | (with_reducible refine LeO.bind ?_ (fun _ => ?_))
      | exact ih0 _ _ _ _ _ _ _ _ _
      | exact ih1 _ _ _ _ _ _ _ _ _
      | exact ih2 _ _ _ _ _ _ _ _ _
      | exact LeO.none _
      | refine LeO.ite ?_ ?_
      | refine LeO.bind ?_ (fun _ => ?_)
    · intro y0 y1 y2 y3 y4 y5 y6 y7 y8
      unfold lemmaref03_Kinds_Is.j1
      repeat' first
      | (with_reducible exact ih0 _ _ _ _ _ _ _ _ _)
      | (with_reducible exact ih1 _ _ _ _ _ _ _ _ _)
      | (with_reducible exact ih2 _ _ _ _ _ _ _ _ _)
      | (with_reducible exact LeO.refl _)
      | (with_reducible exact LeO.none _)
      | (with_reducible refine LeO.ite ?_ ?_)
      | (with_reducible refine LeO.bind ?_ (fun _ => ?_))
      | exact ih0 _ _ _ _ _ _ _ _ _
      | exact ih1 _ _ _ _ _ _ _ _ _
      | exact ih2 _ _ _ _ _ _ _ _ _
      | exact LeO.none _
      | refine LeO.ite ?_ ?_
      | refine LeO.bind ?_ (fun _ => ?_)
    · intro y0 y1 y2 y3 y4 y5 y6 y7 y8
      unfold lemmaref03_Kinds_Is.l0
      repeat' first
      | (with_reducible exact ih0 _ _ _ _ _ _ _ _ _)
      | (with_reducible exact ih1 _ _ _ _ _ _ _ _ _)
      | (with_reducible exact ih2 _ _ _ _ _ _ _ _ _)
      | (with_reducible exact LeO.refl _)
      | (with_reducible exact LeO.none _)
      | (with_reducible refine LeO.ite ?_ ?_)
      | (with_reducible refine LeO.bind ?_ (fun _ => ?_))
      | exact ih0 _ _ _ _ _ _ _ _ _
      | exact ih1 _ _ _ _ _ _ _ _ _
      | exact ih2 _ _ _ _ _ _ _ _ _
      | exact LeO.none _
      | refine LeO.ite ?_ ?_
      | refine LeO.bind ?_ (fun _ => ?_)
theorem lemmaref03_Kinds_Is.mono : ∀ a0 a1 a2 a3 a4 a5 a6 a7 k, LeO (lemmaref03_Kinds_Is.f k a0 a1 a2 a3 a4 a5 a6 a7) (lemmaref03_Kinds_Is.f (k + 1) a0 a1 a2 a3 a4 a5 a6 a7) := by
  intro a0 a1 a2 a3 a4 a5 a6 a7 k
  obtain ⟨ih0, ih1, ih2⟩ := lemmaref03_Kinds_Is.mono_l k
  unfold lemmaref03_Kinds_Is.f
  repeat' first
      | (with_reducible exact ih0 _ _ _ _ _ _ _ _ _)
      | (with_reducible exact ih1 _ _ _ _ _ _ _ _ _)
      | (with_reducible exact ih2 _ _ _ _ _ _ _ _ _)
      | (with_reducible exact LeO.refl _)
      | (with_reducible exact LeO.none _)
      | (with_reducible refine LeO.ite ?_ ?_)
      | (with_reducible refine LeO.bind ?_ (fun _ => ?_))
      | exact ih0 _ _ _ _ _ _ _ _ _
      | exact ih1 _ _ _ _ _ _ _ _ _
      | exact ih2 _ _ _ _ _ _ _ _ _
      | exact LeO.none _
      | refine LeO.ite ?_ ?_
      | refine LeO.bind ?_ (fun _ => ?_)
set_option maxHeartbeats 8000000 in
set_option maxRecDepth 100000 in
theorem lemmaref03_Kinds_Is.calls (k : Nat) (a0_0 : Bool) (A0_1 : Option Addr) (c0_1 : Nat) (l0_1 : List Bool) (a0_2 : Int) (a0_3 : Bool) (a0_4 : Int) (a0_5 : Int) (A0_6 : Option Addr) (c0_6 : Nat) (l0_6 : List Int) (a1 : Int) (r : Bool) (w : World) (hr0_1 : Kd.C Kd.bool w A0_1 l0_1.length l0_1) (hc0_1 : l0_1.length ≤ c0_1) (hr0_6 : Kd.C (Kd.int .i64) w A0_6 l0_6.length l0_6) (hc0_6 : l0_6.length ≤ c0_6) (h : lemmaref03_Kinds_Is.f k a0_0 l0_1 a0_2 a0_3 a0_4 a0_5 l0_6 a1 = some r) :
    Calls Try.prog 27 #[.agg #[.bool a0_0, .slice A0_1 l0_1.length c0_1, .int .i64 a0_2, .bool a0_3, .int .i64 a0_4, .int .i64 a0_5, .slice A0_6 l0_6.length c0_6], .int .i64 a1] w fun e w' => e = .returned (.bool r) ∧ Below w.heap.size w w' := by
  have hu37 := Try.underlying37
  have HR0_1 := Aside0.mk hr0_1
  have HC0_1 := Aside0.mk hc0_1
  clear hr0_1 hc0_1
  have HR0_6 := Aside0.mk hr0_6
  have HC0_6 := Aside0.mk hc0_6
  clear hr0_6 hc0_6
  have HB := Aside0.mk (Below.refl w.heap.size w)
  have H : (if a0_0 = true then (lemmaref03_Kinds_Is.j0 k a1 true a0_0 l0_1 a0_2 a0_3 a0_4 a0_5 l0_6) else (if a1 ≥ 0 then (if a1 < (l0_1.length : Int) then (if 0 ≤ a1 then (lemmaref03_Kinds_Is.j0 k a1 (rdOf false l0_1 a1) a0_0 l0_1 a0_2 a0_3 a0_4 a0_5 l0_6) else (none)) else (lemmaref03_Kinds_Is.j0 k a1 false a0_0 l0_1 a0_2 a0_3 a0_4 a0_5 l0_6)) else (lemmaref03_Kinds_Is.j0 k a1 false a0_0 l0_1 a0_2 a0_3 a0_4 a0_5 l0_6))) = some r := h
  clear h
  have HC3 := Aside0.mk H
  clear H
  go_enter Try.func27, Try.ntmps27
  go_upto_region 1 with (first | ((with_reducible refine gate_dst (N := 2) rfl ?_); (try (refine gate_guard (by rfl) ?_; dsimp only)); refine box_event ?hg (N := 2) ?hd (cs := #[.bool a0_0, .slice A0_1 l0_1.length c0_1, .int .i64 a0_2, .bool a0_3, .int .i64 a0_4, .int .i64 a0_5, .slice A0_6 l0_6.length c0_6]) (t := 37) ?hr ?_; (case hd => rfl); (case hg => rfl); (case hr => first | (go_simp; done) | (go_simp; rfl)); intro gb133 hg w4 hbox hb; have n0_ := Aside0.mk (below_step (by repeat (first | (with_reducible first | exact HB.out | apply below_alloc | apply pw_below_drewN | apply below_drew1) | exact HB.out)) hb); have n1_ := Aside0.mk (hbox); have n2_ := Aside0.mk ((by rw [hg]; exact (below_size (by repeat (first | (with_reducible first | exact HB.out | apply below_alloc | apply pw_below_drewN | apply below_drew1) | exact HB.out))) : w.heap.size ≤ gb133)); have n3_ := Aside0.mk ((by rw [hg]; exact (below_size (by repeat (first | (with_reducible first | exact HB.out | apply below_alloc | apply pw_below_drewN | apply below_drew1) | exact HB.out))) : w.heap.size ≤ gb133)); clear HB; have HB := n0_; have BK133 := n1_; have GW133 := n2_; have GE133 := n3_; clear n0_ n1_ n2_ n3_; clear hb hbox hg))
  (try simp only [Act.put, List.setIfInBounds_toArray, List.set_cons_zero, List.set_cons_succ])
  go_cut [26] (fun v26 wc => ∃ (kq : Nat) (x26_2 : Bool), v26 = .bool x26_2 ∧ Aside0 (lemmaref03_Kinds_Is.j0 kq a1 x26_2 a0_0 l0_1 a0_2 a0_3 a0_4 a0_5 l0_6 = some r) ∧ Aside0 (kq ≤ k) ∧ Aside0 (wc.heap[gb133]? = some (.cells #[.bool a0_0, (.slice A0_1 l0_1.length c0_1), .int .i64 a0_2, .bool a0_3, .int .i64 a0_4, .int .i64 a0_5, (.slice A0_6 l0_6.length c0_6)] 37 (0, 0))) ∧ Aside0 (Below w.heap.size w wc))
  case first =>
    have H := HC3.out
    clear HC3
    by_cases c5 : a0_0 = true
    · subst c5
      have H1 : (lemmaref03_Kinds_Is.j0 k a1 true true l0_1 a0_2 a0_3 a0_4 a0_5 l0_6) = some r := by rw [if_pos rfl] at H; exact H
      clear H
      have H := H1
      clear H1
      have H' := Aside0.mk H
      clear H
      have hcz6_0 : w4.cell? ⟨gb133, 0, none⟩ = some (.bool true) := (blk_cell BK133.out 0).trans rfl
      have hcz6_1 : w4.cell? ⟨gb133, 1, none⟩ = some (.slice A0_1 l0_1.length c0_1) := (blk_cell BK133.out 1).trans rfl
      have hcz6_2 : w4.cell? ⟨gb133, 2, none⟩ = some (.int .i64 a0_2) := (blk_cell BK133.out 2).trans rfl
      have hcz6_3 : w4.cell? ⟨gb133, 3, none⟩ = some (.bool a0_3) := (blk_cell BK133.out 3).trans rfl
      have hcz6_4 : w4.cell? ⟨gb133, 4, none⟩ = some (.int .i64 a0_4) := (blk_cell BK133.out 4).trans rfl
      have hcz6_5 : w4.cell? ⟨gb133, 5, none⟩ = some (.int .i64 a0_5) := (blk_cell BK133.out 5).trans rfl
      have hcz6_6 : w4.cell? ⟨gb133, 6, none⟩ = some (.slice A0_6 l0_6.length c0_6) := (blk_cell BK133.out 6).trans rfl
      have hfz6_0 := blk_frozen BK133.out 0
      have hfz6_1 := blk_frozen BK133.out 1
      have hfz6_2 := blk_frozen BK133.out 2
      have hfz6_3 := blk_frozen BK133.out 3
      have hfz6_4 := blk_frozen BK133.out 4
      have hfz6_5 := blk_frozen BK133.out 5
      have hfz6_6 := blk_frozen BK133.out 6
      go_wp2
      go_meet
      case rel => exact ⟨_, (true), (by first | rfl | (simp; done) | (simp [*]; done)), H', ⟨by first | omega | exact Nat.le_refl _⟩, ⟨by (with_reducible repeat (first | refine blk_drewN ?_ _ | refine blk_drew ?_ | refine blk_alloc ?_ _)); exact BK133.out⟩, ⟨by repeat (first | (with_reducible first | exact HB.out | apply below_alloc | apply pw_below_drewN | apply below_drew1 | refine below_set ?_ GE133.out) | exact HB.out)⟩⟩
    · replace c5 := Bool.eq_false_iff.mpr c5
      subst c5
      have H1 : (if a1 ≥ 0 then (if a1 < (l0_1.length : Int) then (if 0 ≤ a1 then (lemmaref03_Kinds_Is.j0 k a1 (rdOf false l0_1 a1) false l0_1 a0_2 a0_3 a0_4 a0_5 l0_6) else (none)) else (lemmaref03_Kinds_Is.j0 k a1 false false l0_1 a0_2 a0_3 a0_4 a0_5 l0_6)) else (lemmaref03_Kinds_Is.j0 k a1 false false l0_1 a0_2 a0_3 a0_4 a0_5 l0_6)) = some r := by rw [if_neg (show ¬ (false = true) by decide)] at H; exact H
      clear H
      have H := H1
      clear H1
      by_cases c7 : a1 ≥ 0
      · rw [if_pos c7] at H
        have c7b0 : decide (0 ≤ a1) = true := decide_eq_true c7
        clear c7
        (first | rw [c7b0] | (simp only [i64_w, i32_w]; rw [c7b0]) | skip)
        by_cases c8 : a1 < (l0_1.length : Int)
        · rw [if_pos c8] at H
          have c8b0 : decide (a1 < (l0_1.length : Int)) = true := decide_eq_true c8
          clear c8
          by_cases c9 : 0 ≤ a1
          · rw [if_pos c9] at H
            have c9b0 : decide (0 ≤ a1) = true := decide_eq_true c9
            clear c9
            have H' := Aside0.mk H
            clear H
            have hcz10_0 : w4.cell? ⟨gb133, 0, none⟩ = some (.bool false) := (blk_cell BK133.out 0).trans rfl
            have hcz10_1 : w4.cell? ⟨gb133, 1, none⟩ = some (.slice A0_1 l0_1.length c0_1) := (blk_cell BK133.out 1).trans rfl
            have hcz10_2 : w4.cell? ⟨gb133, 2, none⟩ = some (.int .i64 a0_2) := (blk_cell BK133.out 2).trans rfl
            have hcz10_3 : w4.cell? ⟨gb133, 3, none⟩ = some (.bool a0_3) := (blk_cell BK133.out 3).trans rfl
            have hcz10_4 : w4.cell? ⟨gb133, 4, none⟩ = some (.int .i64 a0_4) := (blk_cell BK133.out 4).trans rfl
            have hcz10_5 : w4.cell? ⟨gb133, 5, none⟩ = some (.int .i64 a0_5) := (blk_cell BK133.out 5).trans rfl
            have hcz10_6 : w4.cell? ⟨gb133, 6, none⟩ = some (.slice A0_6 l0_6.length c0_6) := (blk_cell BK133.out 6).trans rfl
            have hfz10_0 := blk_frozen BK133.out 0
            have hfz10_1 := blk_frozen BK133.out 1
            have hfz10_2 := blk_frozen BK133.out 2
            have hfz10_3 := blk_frozen BK133.out 3
            have hfz10_4 := blk_frozen BK133.out 4
            have hfz10_5 := blk_frozen BK133.out 5
            have hfz10_6 := blk_frozen BK133.out 6
            have p134 : 0 ≤ (a1 : Int) := of_decide_eq_true (by first | (with_reducible assumption) | assumption)
            have q134 : a1 < (l0_1.length : Int) := of_decide_eq_true (by first | (with_reducible assumption) | assumption)
            obtain ⟨ad134, e134, hx134_0⟩ := Kd.at_bool HR0_1.out a1 p134 q134
            cases e134
            replace hx134_0 := (HB.out.cell (World.block_lt_of_cell? w _ hx134_0)).trans hx134_0
            replace p134 := eq_true p134
            replace q134 := eq_true q134
            go_wp2
            go_meet
            case rel => exact ⟨_, (rdOf false l0_1 a1), (by first | rfl | (simp; done) | (simp [*]; done)), H', ⟨by first | omega | exact Nat.le_refl _⟩, ⟨by (with_reducible repeat (first | refine blk_drewN ?_ _ | refine blk_drew ?_ | refine blk_alloc ?_ _)); exact BK133.out⟩, ⟨by repeat (first | (with_reducible first | exact HB.out | apply below_alloc | apply pw_below_drewN | apply below_drew1 | refine below_set ?_ GE133.out) | exact HB.out)⟩⟩
          · rw [if_neg c9] at H
            exact absurd H (by simp)
        · rw [if_neg c8] at H
          have c8b0 : decide (a1 < (l0_1.length : Int)) = false := decide_eq_false c8
          clear c8
          have H' := Aside0.mk H
          clear H
          have hcz11_0 : w4.cell? ⟨gb133, 0, none⟩ = some (.bool false) := (blk_cell BK133.out 0).trans rfl
          have hcz11_1 : w4.cell? ⟨gb133, 1, none⟩ = some (.slice A0_1 l0_1.length c0_1) := (blk_cell BK133.out 1).trans rfl
          have hcz11_2 : w4.cell? ⟨gb133, 2, none⟩ = some (.int .i64 a0_2) := (blk_cell BK133.out 2).trans rfl
          have hcz11_3 : w4.cell? ⟨gb133, 3, none⟩ = some (.bool a0_3) := (blk_cell BK133.out 3).trans rfl
          have hcz11_4 : w4.cell? ⟨gb133, 4, none⟩ = some (.int .i64 a0_4) := (blk_cell BK133.out 4).trans rfl
          have hcz11_5 : w4.cell? ⟨gb133, 5, none⟩ = some (.int .i64 a0_5) := (blk_cell BK133.out 5).trans rfl
          have hcz11_6 : w4.cell? ⟨gb133, 6, none⟩ = some (.slice A0_6 l0_6.length c0_6) := (blk_cell BK133.out 6).trans rfl
          have hfz11_0 := blk_frozen BK133.out 0
          have hfz11_1 := blk_frozen BK133.out 1
          have hfz11_2 := blk_frozen BK133.out 2
          have hfz11_3 := blk_frozen BK133.out 3
          have hfz11_4 := blk_frozen BK133.out 4
          have hfz11_5 := blk_frozen BK133.out 5
          have hfz11_6 := blk_frozen BK133.out 6
          go_wp2
          go_meet
          case rel => exact ⟨_, (false), (by first | rfl | (simp; done) | (simp [*]; done)), H', ⟨by first | omega | exact Nat.le_refl _⟩, ⟨by (with_reducible repeat (first | refine blk_drewN ?_ _ | refine blk_drew ?_ | refine blk_alloc ?_ _)); exact BK133.out⟩, ⟨by repeat (first | (with_reducible first | exact HB.out | apply below_alloc | apply pw_below_drewN | apply below_drew1 | refine below_set ?_ GE133.out) | exact HB.out)⟩⟩
      · rw [if_neg c7] at H
        have c7b0 : decide (0 ≤ a1) = false := decide_eq_false c7
        clear c7
        (first | rw [c7b0] | (simp only [i64_w, i32_w]; rw [c7b0]) | skip)
        have H' := Aside0.mk H
        clear H
        have hcz12_0 : w4.cell? ⟨gb133, 0, none⟩ = some (.bool false) := (blk_cell BK133.out 0).trans rfl
        have hcz12_1 : w4.cell? ⟨gb133, 1, none⟩ = some (.slice A0_1 l0_1.length c0_1) := (blk_cell BK133.out 1).trans rfl
        have hcz12_2 : w4.cell? ⟨gb133, 2, none⟩ = some (.int .i64 a0_2) := (blk_cell BK133.out 2).trans rfl
        have hcz12_3 : w4.cell? ⟨gb133, 3, none⟩ = some (.bool a0_3) := (blk_cell BK133.out 3).trans rfl
        have hcz12_4 : w4.cell? ⟨gb133, 4, none⟩ = some (.int .i64 a0_4) := (blk_cell BK133.out 4).trans rfl
        have hcz12_5 : w4.cell? ⟨gb133, 5, none⟩ = some (.int .i64 a0_5) := (blk_cell BK133.out 5).trans rfl
        have hcz12_6 : w4.cell? ⟨gb133, 6, none⟩ = some (.slice A0_6 l0_6.length c0_6) := (blk_cell BK133.out 6).trans rfl
        have hfz12_0 := blk_frozen BK133.out 0
        have hfz12_1 := blk_frozen BK133.out 1
        have hfz12_2 := blk_frozen BK133.out 2
        have hfz12_3 := blk_frozen BK133.out 3
        have hfz12_4 := blk_frozen BK133.out 4
        have hfz12_5 := blk_frozen BK133.out 5
        have hfz12_6 := blk_frozen BK133.out 6
        go_wp2
        go_meet
        case rel => exact ⟨_, (false), (by first | rfl | (simp; done) | (simp [*]; done)), H', ⟨by first | omega | exact Nat.le_refl _⟩, ⟨by (with_reducible repeat (first | refine blk_drewN ?_ _ | refine blk_drew ?_ | refine blk_alloc ?_ _)); exact BK133.out⟩, ⟨by repeat (first | (with_reducible first | exact HB.out | apply below_alloc | apply pw_below_drewN | apply below_drew1 | refine below_set ?_ GE133.out) | exact HB.out)⟩⟩
  case rest =>
    clear HC3
    try clear p1
    try clear q1
    try clear hx1
    try clear c2
    try clear p2
    try clear c5
    try clear c7
    try clear c7b0
    try clear c8
    try clear c8b0
    try clear c9
    try clear c9b0
    try clear hcz10_0
    try clear hcz10_1
    try clear hcz10_2
    try clear hcz10_3
    try clear hcz10_4
    try clear hcz10_5
    try clear hcz10_6
    try clear hcz11_0
    try clear hcz11_1
    try clear hcz11_2
    try clear hcz11_3
    try clear hcz11_4
    try clear hcz11_5
    try clear hcz11_6
    try clear hcz12_0
    try clear hcz12_1
    try clear hcz12_2
    try clear hcz12_3
    try clear hcz12_4
    try clear hcz12_5
    try clear hcz12_6
    try clear hcz6_0
    try clear hcz6_1
    try clear hcz6_2
    try clear hcz6_3
    try clear hcz6_4
    try clear hcz6_5
    try clear hcz6_6
    try clear hfz10_0
    try clear hfz10_1
    try clear hfz10_2
    try clear hfz10_3
    try clear hfz10_4
    try clear hfz10_5
    try clear hfz10_6
    try clear hfz11_0
    try clear hfz11_1
    try clear hfz11_2
    try clear hfz11_3
    try clear hfz11_4
    try clear hfz11_5
    try clear hfz11_6
    try clear hfz12_0
    try clear hfz12_1
    try clear hfz12_2
    try clear hfz12_3
    try clear hfz12_4
    try clear hfz12_5
    try clear hfz12_6
    try clear hfz6_0
    try clear hfz6_1
    try clear hfz6_2
    try clear hfz6_3
    try clear hfz6_4
    try clear hfz6_5
    try clear hfz6_6
    try clear hx134_0
    try clear p134
    try clear q134
    obtain ⟨kq, x26_2, rfl, HA, HJ2, BK133, HB⟩ := hcut
    cases kq with
    | zero => exact absurd HA.out (by simp [lemmaref03_Kinds_Is.j0])
    | succ kj2 =>
      have H := HA.out
      clear HA
      simp only [lemmaref03_Kinds_Is.j0] at H
      by_cases c13 : x26_2 = true
      · subst c13
        have H1 : (some true) = some r := by rw [if_pos rfl] at H; exact H
        clear H
        have H := H1
        clear H1
        obtain rfl := Option.some.inj H
        go_wp2
        go_ret
        exact ⟨by first | rfl | (simp [errW_none, errW_some] <;> rfl) | (simp [*, errW_none, errW_some] <;> rfl), by repeat (first | (with_reducible first | exact HB.out | apply below_alloc | apply pw_below_drewN | apply below_drew1 | refine below_set ?_ GE133.out) | exact HB.out)⟩
      · replace c13 := Bool.eq_false_iff.mpr c13
        subst c13
        have H1 : (if a0_2 > 0 then (if a1 ≥ a0_2 then (lemmaref03_Kinds_Is.j1 kj2 a1 true a0_0 l0_1 a0_2 a0_3 a0_4 a0_5 l0_6) else (if a0_3 = true then (lemmaref03_Kinds_Is.j1 kj2 a1 (decide (a1 ≤ (wrap64 (-a0_2)))) a0_0 l0_1 a0_2 a0_3 a0_4 a0_5 l0_6) else (lemmaref03_Kinds_Is.j1 kj2 a1 false a0_0 l0_1 a0_2 a0_3 a0_4 a0_5 l0_6))) else (lemmaref03_Kinds_Is.j1 kj2 a1 false a0_0 l0_1 a0_2 a0_3 a0_4 a0_5 l0_6)) = some r := by rw [if_neg (show ¬ (false = true) by decide)] at H; exact H
        clear H
        have H := H1
        clear H1
        have HC14 := Aside0.mk H
        clear H
        go_upto_region 3 with (fail)
        go_cut [46] (fun v46 wc => ∃ (kq : Nat) (x46_13 : Bool), v46 = .bool x46_13 ∧ Aside0 (lemmaref03_Kinds_Is.j1 kq a1 x46_13 a0_0 l0_1 a0_2 a0_3 a0_4 a0_5 l0_6 = some r) ∧ Aside0 (kq ≤ kj2) ∧ Aside0 (wc.heap[gb133]? = some (.cells #[.bool a0_0, (.slice A0_1 l0_1.length c0_1), .int .i64 a0_2, .bool a0_3, .int .i64 a0_4, .int .i64 a0_5, (.slice A0_6 l0_6.length c0_6)] 37 (0, 0))) ∧ Aside0 (Below w.heap.size w wc))
        case first =>
          have H := HC14.out
          clear HC14
          by_cases c15 : a0_2 > 0
          · rw [if_pos c15] at H
            have c15b0 : decide (0 < a0_2) = true := decide_eq_true c15
            clear c15
            (first | rw [c15b0] | (simp only [i64_w, i32_w]; rw [c15b0]) | skip)
            by_cases c16 : a1 ≥ a0_2
            · rw [if_pos c16] at H
              have c16b0 : decide (a0_2 ≤ a1) = true := decide_eq_true c16
              clear c16
              have H' := Aside0.mk H
              clear H
              have hcz17_0 : wc.cell? ⟨gb133, 0, none⟩ = some (.bool a0_0) := (blk_cell BK133.out 0).trans rfl
              have hcz17_1 : wc.cell? ⟨gb133, 1, none⟩ = some (.slice A0_1 l0_1.length c0_1) := (blk_cell BK133.out 1).trans rfl
              have hcz17_2 : wc.cell? ⟨gb133, 2, none⟩ = some (.int .i64 a0_2) := (blk_cell BK133.out 2).trans rfl
              have hcz17_3 : wc.cell? ⟨gb133, 3, none⟩ = some (.bool a0_3) := (blk_cell BK133.out 3).trans rfl
              have hcz17_4 : wc.cell? ⟨gb133, 4, none⟩ = some (.int .i64 a0_4) := (blk_cell BK133.out 4).trans rfl
              have hcz17_5 : wc.cell? ⟨gb133, 5, none⟩ = some (.int .i64 a0_5) := (blk_cell BK133.out 5).trans rfl
              have hcz17_6 : wc.cell? ⟨gb133, 6, none⟩ = some (.slice A0_6 l0_6.length c0_6) := (blk_cell BK133.out 6).trans rfl
              have hfz17_0 := blk_frozen BK133.out 0
              have hfz17_1 := blk_frozen BK133.out 1
              have hfz17_2 := blk_frozen BK133.out 2
              have hfz17_3 := blk_frozen BK133.out 3
              have hfz17_4 := blk_frozen BK133.out 4
              have hfz17_5 := blk_frozen BK133.out 5
              have hfz17_6 := blk_frozen BK133.out 6
              go_wp2
              go_meet
              case rel => exact ⟨_, (true), (by first | rfl | (simp; done) | (simp [*]; done)), H', ⟨by have := HJ2.out; first | omega | exact Nat.le_refl _⟩, ⟨by (with_reducible repeat (first | refine blk_drewN ?_ _ | refine blk_drew ?_ | refine blk_alloc ?_ _)); exact BK133.out⟩, ⟨by repeat (first | (with_reducible first | exact HB.out | apply below_alloc | apply pw_below_drewN | apply below_drew1 | refine below_set ?_ GE133.out) | exact HB.out)⟩⟩
            · rw [if_neg c16] at H
              have c16b0 : decide (a0_2 ≤ a1) = false := decide_eq_false c16
              clear c16
              by_cases c18 : a0_3 = true
              · subst c18
                have H1 : (lemmaref03_Kinds_Is.j1 kj2 a1 (decide (a1 ≤ (wrap64 (-a0_2)))) a0_0 l0_1 a0_2 true a0_4 a0_5 l0_6) = some r := by rw [if_pos rfl] at H; exact H
                clear H
                have H := H1
                clear H1
                have H' := Aside0.mk H
                clear H
                have hcz19_0 : wc.cell? ⟨gb133, 0, none⟩ = some (.bool a0_0) := (blk_cell BK133.out 0).trans rfl
                have hcz19_1 : wc.cell? ⟨gb133, 1, none⟩ = some (.slice A0_1 l0_1.length c0_1) := (blk_cell BK133.out 1).trans rfl
                have hcz19_2 : wc.cell? ⟨gb133, 2, none⟩ = some (.int .i64 a0_2) := (blk_cell BK133.out 2).trans rfl
                have hcz19_3 : wc.cell? ⟨gb133, 3, none⟩ = some (.bool true) := (blk_cell BK133.out 3).trans rfl
                have hcz19_4 : wc.cell? ⟨gb133, 4, none⟩ = some (.int .i64 a0_4) := (blk_cell BK133.out 4).trans rfl
                have hcz19_5 : wc.cell? ⟨gb133, 5, none⟩ = some (.int .i64 a0_5) := (blk_cell BK133.out 5).trans rfl
                have hcz19_6 : wc.cell? ⟨gb133, 6, none⟩ = some (.slice A0_6 l0_6.length c0_6) := (blk_cell BK133.out 6).trans rfl
                have hfz19_0 := blk_frozen BK133.out 0
                have hfz19_1 := blk_frozen BK133.out 1
                have hfz19_2 := blk_frozen BK133.out 2
                have hfz19_3 := blk_frozen BK133.out 3
                have hfz19_4 := blk_frozen BK133.out 4
                have hfz19_5 := blk_frozen BK133.out 5
                have hfz19_6 := blk_frozen BK133.out 6
                go_wp2
                go_meet
                case rel => exact ⟨_, (decide (a1 ≤ (wrap64 (-a0_2)))), (by first | rfl | (simp; done) | (simp [*]; done)), H', ⟨by have := HJ2.out; first | omega | exact Nat.le_refl _⟩, ⟨by (with_reducible repeat (first | refine blk_drewN ?_ _ | refine blk_drew ?_ | refine blk_alloc ?_ _)); exact BK133.out⟩, ⟨by repeat (first | (with_reducible first | exact HB.out | apply below_alloc | apply pw_below_drewN | apply below_drew1 | refine below_set ?_ GE133.out) | exact HB.out)⟩⟩
              · replace c18 := Bool.eq_false_iff.mpr c18
                subst c18
                have H1 : (lemmaref03_Kinds_Is.j1 kj2 a1 false a0_0 l0_1 a0_2 false a0_4 a0_5 l0_6) = some r := by rw [if_neg (show ¬ (false = true) by decide)] at H; exact H
                clear H
                have H := H1
                clear H1
                have H' := Aside0.mk H
                clear H
                have hcz20_0 : wc.cell? ⟨gb133, 0, none⟩ = some (.bool a0_0) := (blk_cell BK133.out 0).trans rfl
                have hcz20_1 : wc.cell? ⟨gb133, 1, none⟩ = some (.slice A0_1 l0_1.length c0_1) := (blk_cell BK133.out 1).trans rfl
                have hcz20_2 : wc.cell? ⟨gb133, 2, none⟩ = some (.int .i64 a0_2) := (blk_cell BK133.out 2).trans rfl
                have hcz20_3 : wc.cell? ⟨gb133, 3, none⟩ = some (.bool false) := (blk_cell BK133.out 3).trans rfl
                have hcz20_4 : wc.cell? ⟨gb133, 4, none⟩ = some (.int .i64 a0_4) := (blk_cell BK133.out 4).trans rfl
                have hcz20_5 : wc.cell? ⟨gb133, 5, none⟩ = some (.int .i64 a0_5) := (blk_cell BK133.out 5).trans rfl
                have hcz20_6 : wc.cell? ⟨gb133, 6, none⟩ = some (.slice A0_6 l0_6.length c0_6) := (blk_cell BK133.out 6).trans rfl
                have hfz20_0 := blk_frozen BK133.out 0
                have hfz20_1 := blk_frozen BK133.out 1
                have hfz20_2 := blk_frozen BK133.out 2
                have hfz20_3 := blk_frozen BK133.out 3
                have hfz20_4 := blk_frozen BK133.out 4
                have hfz20_5 := blk_frozen BK133.out 5
                have hfz20_6 := blk_frozen BK133.out 6
                go_wp2
                go_meet
                case rel => exact ⟨_, (false), (by first | rfl | (simp; done) | (simp [*]; done)), H', ⟨by have := HJ2.out; first | omega | exact Nat.le_refl _⟩, ⟨by (with_reducible repeat (first | refine blk_drewN ?_ _ | refine blk_drew ?_ | refine blk_alloc ?_ _)); exact BK133.out⟩, ⟨by repeat (first | (with_reducible first | exact HB.out | apply below_alloc | apply pw_below_drewN | apply below_drew1 | refine below_set ?_ GE133.out) | exact HB.out)⟩⟩
          · rw [if_neg c15] at H
            have c15b0 : decide (0 < a0_2) = false := decide_eq_false c15
            clear c15
            (first | rw [c15b0] | (simp only [i64_w, i32_w]; rw [c15b0]) | skip)
            have H' := Aside0.mk H
            clear H
            have hcz21_0 : wc.cell? ⟨gb133, 0, none⟩ = some (.bool a0_0) := (blk_cell BK133.out 0).trans rfl
            have hcz21_1 : wc.cell? ⟨gb133, 1, none⟩ = some (.slice A0_1 l0_1.length c0_1) := (blk_cell BK133.out 1).trans rfl
            have hcz21_2 : wc.cell? ⟨gb133, 2, none⟩ = some (.int .i64 a0_2) := (blk_cell BK133.out 2).trans rfl
            have hcz21_3 : wc.cell? ⟨gb133, 3, none⟩ = some (.bool a0_3) := (blk_cell BK133.out 3).trans rfl
            have hcz21_4 : wc.cell? ⟨gb133, 4, none⟩ = some (.int .i64 a0_4) := (blk_cell BK133.out 4).trans rfl
            have hcz21_5 : wc.cell? ⟨gb133, 5, none⟩ = some (.int .i64 a0_5) := (blk_cell BK133.out 5).trans rfl
            have hcz21_6 : wc.cell? ⟨gb133, 6, none⟩ = some (.slice A0_6 l0_6.length c0_6) := (blk_cell BK133.out 6).trans rfl
            have hfz21_0 := blk_frozen BK133.out 0
            have hfz21_1 := blk_frozen BK133.out 1
            have hfz21_2 := blk_frozen BK133.out 2
            have hfz21_3 := blk_frozen BK133.out 3
            have hfz21_4 := blk_frozen BK133.out 4
            have hfz21_5 := blk_frozen BK133.out 5
            have hfz21_6 := blk_frozen BK133.out 6
            go_wp2
            go_meet
            case rel => exact ⟨_, (false), (by first | rfl | (simp; done) | (simp [*]; done)), H', ⟨by have := HJ2.out; first | omega | exact Nat.le_refl _⟩, ⟨by (with_reducible repeat (first | refine blk_drewN ?_ _ | refine blk_drew ?_ | refine blk_alloc ?_ _)); exact BK133.out⟩, ⟨by repeat (first | (with_reducible first | exact HB.out | apply below_alloc | apply pw_below_drewN | apply below_drew1 | refine below_set ?_ GE133.out) | exact HB.out)⟩⟩
        case rest =>
          clear HC14
          try clear c1
          try clear p1
          try clear q1
          try clear hx1
          try clear c2
          try clear p2
          try clear c5
          try clear p6
          try clear c7
          try clear c7b0
          try clear c8
          try clear c8b0
          try clear c9
          try clear c9b0
          try clear c13
          try clear p13
          try clear q13
          try clear hx13
          try clear c15
          try clear c15b0
          try clear c16
          try clear c16b0
          try clear c18
          try clear hcz10_0
          try clear hcz10_1
          try clear hcz10_2
          try clear hcz10_3
          try clear hcz10_4
          try clear hcz10_5
          try clear hcz10_6
          try clear hcz11_0
          try clear hcz11_1
          try clear hcz11_2
          try clear hcz11_3
          try clear hcz11_4
          try clear hcz11_5
          try clear hcz11_6
          try clear hcz12_0
          try clear hcz12_1
          try clear hcz12_2
          try clear hcz12_3
          try clear hcz12_4
          try clear hcz12_5
          try clear hcz12_6
          try clear hcz17_0
          try clear hcz17_1
          try clear hcz17_2
          try clear hcz17_3
          try clear hcz17_4
          try clear hcz17_5
          try clear hcz17_6
          try clear hcz19_0
          try clear hcz19_1
          try clear hcz19_2
          try clear hcz19_3
          try clear hcz19_4
          try clear hcz19_5
          try clear hcz19_6
          try clear hcz20_0
          try clear hcz20_1
          try clear hcz20_2
          try clear hcz20_3
          try clear hcz20_4
          try clear hcz20_5
          try clear hcz20_6
          try clear hcz21_0
          try clear hcz21_1
          try clear hcz21_2
          try clear hcz21_3
          try clear hcz21_4
          try clear hcz21_5
          try clear hcz21_6
          try clear hcz6_0
          try clear hcz6_1
          try clear hcz6_2
          try clear hcz6_3
          try clear hcz6_4
          try clear hcz6_5
          try clear hcz6_6
          try clear hfz10_0
          try clear hfz10_1
          try clear hfz10_2
          try clear hfz10_3
          try clear hfz10_4
          try clear hfz10_5
          try clear hfz10_6
          try clear hfz11_0
          try clear hfz11_1
          try clear hfz11_2
          try clear hfz11_3
          try clear hfz11_4
          try clear hfz11_5
          try clear hfz11_6
          try clear hfz12_0
          try clear hfz12_1
          try clear hfz12_2
          try clear hfz12_3
          try clear hfz12_4
          try clear hfz12_5
          try clear hfz12_6
          try clear hfz17_0
          try clear hfz17_1
          try clear hfz17_2
          try clear hfz17_3
          try clear hfz17_4
          try clear hfz17_5
          try clear hfz17_6
          try clear hfz19_0
          try clear hfz19_1
          try clear hfz19_2
          try clear hfz19_3
          try clear hfz19_4
          try clear hfz19_5
          try clear hfz19_6
          try clear hfz20_0
          try clear hfz20_1
          try clear hfz20_2
          try clear hfz20_3
          try clear hfz20_4
          try clear hfz20_5
          try clear hfz20_6
          try clear hfz21_0
          try clear hfz21_1
          try clear hfz21_2
          try clear hfz21_3
          try clear hfz21_4
          try clear hfz21_5
          try clear hfz21_6
          try clear hfz6_0
          try clear hfz6_1
          try clear hfz6_2
          try clear hfz6_3
          try clear hfz6_4
          try clear hfz6_5
          try clear hfz6_6
          try clear hx134_0
          try clear p1
          try clear p134
          try clear p2
          try clear q1
          try clear q134
          obtain ⟨kq, x46_13, rfl, HA, HJ13, BK133, HB⟩ := hcut
          cases kq with
          | zero => exact absurd HA.out (by simp [lemmaref03_Kinds_Is.j1])
          | succ kj13 =>
            have H := HA.out
            clear HA
            simp only [lemmaref03_Kinds_Is.j1] at H
            by_cases c22 : x46_13 = true
            · subst c22
              have H1 : (some true) = some r := by rw [if_pos rfl] at H; exact H
              clear H
              have H := H1
              clear H1
              obtain rfl := Option.some.inj H
              go_wp2
              go_ret
              exact ⟨by first | rfl | (simp [errW_none, errW_some] <;> rfl) | (simp [*, errW_none, errW_some] <;> rfl), by repeat (first | (with_reducible first | exact HB.out | apply below_alloc | apply pw_below_drewN | apply below_drew1 | refine below_set ?_ GE133.out) | exact HB.out)⟩
            · replace c22 := Bool.eq_false_iff.mpr c22
              subst c22
              have H1 : (if a0_4 > 0 then (if a0_4 = 0 then (none) else (if (Int.tmod a1 a0_4) < 0 then (some (decide ((wrap64 ((Int.tmod a1 a0_4) + a0_4)) < a0_5))) else (some (decide ((Int.tmod a1 a0_4) < a0_5))))) else (lemmaref03_Kinds_Is.l0 kj13 a1 0 a0_0 l0_1 a0_2 a0_3 a0_4 a0_5 l0_6)) = some r := by rw [if_neg (show ¬ (false = true) by decide)] at H; exact H
              clear H
              have H := H1
              clear H1
              by_cases c23 : a0_4 > 0
              · rw [if_pos c23] at H
                have c23b0 : decide (0 < a0_4) = true := decide_eq_true c23
                clear c23
                by_cases c24 : a0_4 = 0
                · rw [if_pos c24] at H
                  exact absurd H (by simp)
                · rw [if_neg c24] at H
                  have c24b0 : (a0_4 == 0) = false := beq_eq_false_iff_ne.mpr c24
                  have c24b1 : (a0_4 != 0) = true := bne_iff_ne.mpr c24
                  by_cases c25 : (Int.tmod a1 a0_4) < 0
                  · rw [if_pos c25] at H
                    have c25b0 : decide ((Int.tmod a1 a0_4) < 0) = true := decide_eq_true c25
                    clear c25
                    obtain rfl := Option.some.inj H
                    have hcz26_0 : wc.cell? ⟨gb133, 0, none⟩ = some (.bool a0_0) := (blk_cell BK133.out 0).trans rfl
                    have hcz26_1 : wc.cell? ⟨gb133, 1, none⟩ = some (.slice A0_1 l0_1.length c0_1) := (blk_cell BK133.out 1).trans rfl
                    have hcz26_2 : wc.cell? ⟨gb133, 2, none⟩ = some (.int .i64 a0_2) := (blk_cell BK133.out 2).trans rfl
                    have hcz26_3 : wc.cell? ⟨gb133, 3, none⟩ = some (.bool a0_3) := (blk_cell BK133.out 3).trans rfl
                    have hcz26_4 : wc.cell? ⟨gb133, 4, none⟩ = some (.int .i64 a0_4) := (blk_cell BK133.out 4).trans rfl
                    have hcz26_5 : wc.cell? ⟨gb133, 5, none⟩ = some (.int .i64 a0_5) := (blk_cell BK133.out 5).trans rfl
                    have hcz26_6 : wc.cell? ⟨gb133, 6, none⟩ = some (.slice A0_6 l0_6.length c0_6) := (blk_cell BK133.out 6).trans rfl
                    have hfz26_0 := blk_frozen BK133.out 0
                    have hfz26_1 := blk_frozen BK133.out 1
                    have hfz26_2 := blk_frozen BK133.out 2
                    have hfz26_3 := blk_frozen BK133.out 3
                    have hfz26_4 := blk_frozen BK133.out 4
                    have hfz26_5 := blk_frozen BK133.out 5
                    have hfz26_6 := blk_frozen BK133.out 6
                    go_wp2
                    go_ret
                    exact ⟨by first | rfl | (simp [errW_none, errW_some] <;> rfl) | (simp [*, errW_none, errW_some] <;> rfl), by repeat (first | (with_reducible first | exact HB.out | apply below_alloc | apply pw_below_drewN | apply below_drew1 | refine below_set ?_ GE133.out) | exact HB.out)⟩
                  · rw [if_neg c25] at H
                    have c25b0 : decide ((Int.tmod a1 a0_4) < 0) = false := decide_eq_false c25
                    clear c25
                    obtain rfl := Option.some.inj H
                    have hcz27_0 : wc.cell? ⟨gb133, 0, none⟩ = some (.bool a0_0) := (blk_cell BK133.out 0).trans rfl
                    have hcz27_1 : wc.cell? ⟨gb133, 1, none⟩ = some (.slice A0_1 l0_1.length c0_1) := (blk_cell BK133.out 1).trans rfl
                    have hcz27_2 : wc.cell? ⟨gb133, 2, none⟩ = some (.int .i64 a0_2) := (blk_cell BK133.out 2).trans rfl
                    have hcz27_3 : wc.cell? ⟨gb133, 3, none⟩ = some (.bool a0_3) := (blk_cell BK133.out 3).trans rfl
                    have hcz27_4 : wc.cell? ⟨gb133, 4, none⟩ = some (.int .i64 a0_4) := (blk_cell BK133.out 4).trans rfl
                    have hcz27_5 : wc.cell? ⟨gb133, 5, none⟩ = some (.int .i64 a0_5) := (blk_cell BK133.out 5).trans rfl
                    have hcz27_6 : wc.cell? ⟨gb133, 6, none⟩ = some (.slice A0_6 l0_6.length c0_6) := (blk_cell BK133.out 6).trans rfl
                    have hfz27_0 := blk_frozen BK133.out 0
                    have hfz27_1 := blk_frozen BK133.out 1
                    have hfz27_2 := blk_frozen BK133.out 2
                    have hfz27_3 := blk_frozen BK133.out 3
                    have hfz27_4 := blk_frozen BK133.out 4
                    have hfz27_5 := blk_frozen BK133.out 5
                    have hfz27_6 := blk_frozen BK133.out 6
                    go_wp2
                    go_ret
                    exact ⟨by first | rfl | (simp [errW_none, errW_some] <;> rfl) | (simp [*, errW_none, errW_some] <;> rfl), by repeat (first | (with_reducible first | exact HB.out | apply below_alloc | apply pw_below_drewN | apply below_drew1 | refine below_set ?_ GE133.out) | exact HB.out)⟩
              · rw [if_neg c23] at H
                have c23b0 : decide (0 < a0_4) = false := decide_eq_false c23
                clear c23
                have H' := Aside0.mk H
                clear H
                have hcz28_0 : wc.cell? ⟨gb133, 0, none⟩ = some (.bool a0_0) := (blk_cell BK133.out 0).trans rfl
                have hcz28_1 : wc.cell? ⟨gb133, 1, none⟩ = some (.slice A0_1 l0_1.length c0_1) := (blk_cell BK133.out 1).trans rfl
                have hcz28_2 : wc.cell? ⟨gb133, 2, none⟩ = some (.int .i64 a0_2) := (blk_cell BK133.out 2).trans rfl
                have hcz28_3 : wc.cell? ⟨gb133, 3, none⟩ = some (.bool a0_3) := (blk_cell BK133.out 3).trans rfl
                have hcz28_4 : wc.cell? ⟨gb133, 4, none⟩ = some (.int .i64 a0_4) := (blk_cell BK133.out 4).trans rfl
                have hcz28_5 : wc.cell? ⟨gb133, 5, none⟩ = some (.int .i64 a0_5) := (blk_cell BK133.out 5).trans rfl
                have hcz28_6 : wc.cell? ⟨gb133, 6, none⟩ = some (.slice A0_6 l0_6.length c0_6) := (blk_cell BK133.out 6).trans rfl
                have hfz28_0 := blk_frozen BK133.out 0
                have hfz28_1 := blk_frozen BK133.out 1
                have hfz28_2 := blk_frozen BK133.out 2
                have hfz28_3 := blk_frozen BK133.out 3
                have hfz28_4 := blk_frozen BK133.out 4
                have hfz28_5 := blk_frozen BK133.out 5
                have hfz28_6 := blk_frozen BK133.out 6
                go_wp2
                go_loopg [6] kj13 (fun kq v6 w' => ∃ (x6_3 : Int), v6 = .int .i64 x6_3 ∧ Aside0 (lemmaref03_Kinds_Is.l0 kq a1 x6_3 a0_0 l0_1 a0_2 a0_3 a0_4 a0_5 l0_6 = some r) ∧ Aside0 (kq ≤ kj13) ∧ Aside0 (w'.heap[gb133]? = some (.cells #[.bool a0_0, (.slice A0_1 l0_1.length c0_1), .int .i64 a0_2, .bool a0_3, .int .i64 a0_4, .int .i64 a0_5, (.slice A0_6 l0_6.length c0_6)] 37 (0, 0))) ∧ Aside0 (Below w.heap.size w w'))
                case atStart => exact ⟨(0), (by first | rfl | (simp; done) | (simp [*]; done)), H', ⟨Nat.le_refl _⟩, ⟨by (with_reducible repeat (first | refine blk_drewN ?_ _ | refine blk_drew ?_ | refine blk_alloc ?_ _)); exact BK133.out⟩, ⟨by repeat (first | (with_reducible first | exact HB.out | apply below_alloc | apply pw_below_drewN | apply below_drew1 | refine below_set ?_ GE133.out) | exact HB.out)⟩⟩
                case round =>
                  clear H'
                  try clear c1
                  try clear p1
                  try clear q1
                  try clear hx1
                  try clear c2
                  try clear p2
                  try clear c5
                  try clear p6
                  try clear c7
                  try clear c7b0
                  try clear c8
                  try clear c8b0
                  try clear c9
                  try clear c9b0
                  try clear c13
                  try clear p13
                  try clear q13
                  try clear hx13
                  try clear c15
                  try clear c15b0
                  try clear c16
                  try clear c16b0
                  try clear c18
                  try clear c22
                  try clear c23
                  try clear c23b0
                  try clear c24
                  try clear c24b0
                  try clear c24b1
                  try clear c25
                  try clear c25b0
                  try clear c27
                  try clear hcz10_0
                  try clear hcz10_1
                  try clear hcz10_2
                  try clear hcz10_3
                  try clear hcz10_4
                  try clear hcz10_5
                  try clear hcz10_6
                  try clear hcz11_0
                  try clear hcz11_1
                  try clear hcz11_2
                  try clear hcz11_3
                  try clear hcz11_4
                  try clear hcz11_5
                  try clear hcz11_6
                  try clear hcz12_0
                  try clear hcz12_1
                  try clear hcz12_2
                  try clear hcz12_3
                  try clear hcz12_4
                  try clear hcz12_5
                  try clear hcz12_6
                  try clear hcz17_0
                  try clear hcz17_1
                  try clear hcz17_2
                  try clear hcz17_3
                  try clear hcz17_4
                  try clear hcz17_5
                  try clear hcz17_6
                  try clear hcz19_0
                  try clear hcz19_1
                  try clear hcz19_2
                  try clear hcz19_3
                  try clear hcz19_4
                  try clear hcz19_5
                  try clear hcz19_6
                  try clear hcz20_0
                  try clear hcz20_1
                  try clear hcz20_2
                  try clear hcz20_3
                  try clear hcz20_4
                  try clear hcz20_5
                  try clear hcz20_6
                  try clear hcz21_0
                  try clear hcz21_1
                  try clear hcz21_2
                  try clear hcz21_3
                  try clear hcz21_4
                  try clear hcz21_5
                  try clear hcz21_6
                  try clear hcz26_0
                  try clear hcz26_1
                  try clear hcz26_2
                  try clear hcz26_3
                  try clear hcz26_4
                  try clear hcz26_5
                  try clear hcz26_6
                  try clear hcz27_0
                  try clear hcz27_1
                  try clear hcz27_2
                  try clear hcz27_3
                  try clear hcz27_4
                  try clear hcz27_5
                  try clear hcz27_6
                  try clear hcz28_0
                  try clear hcz28_1
                  try clear hcz28_2
                  try clear hcz28_3
                  try clear hcz28_4
                  try clear hcz28_5
                  try clear hcz28_6
                  try clear hcz6_0
                  try clear hcz6_1
                  try clear hcz6_2
                  try clear hcz6_3
                  try clear hcz6_4
                  try clear hcz6_5
                  try clear hcz6_6
                  try clear hfz10_0
                  try clear hfz10_1
                  try clear hfz10_2
                  try clear hfz10_3
                  try clear hfz10_4
                  try clear hfz10_5
                  try clear hfz10_6
                  try clear hfz11_0
                  try clear hfz11_1
                  try clear hfz11_2
                  try clear hfz11_3
                  try clear hfz11_4
                  try clear hfz11_5
                  try clear hfz11_6
                  try clear hfz12_0
                  try clear hfz12_1
                  try clear hfz12_2
                  try clear hfz12_3
                  try clear hfz12_4
                  try clear hfz12_5
                  try clear hfz12_6
                  try clear hfz17_0
                  try clear hfz17_1
                  try clear hfz17_2
                  try clear hfz17_3
                  try clear hfz17_4
                  try clear hfz17_5
                  try clear hfz17_6
                  try clear hfz19_0
                  try clear hfz19_1
                  try clear hfz19_2
                  try clear hfz19_3
                  try clear hfz19_4
                  try clear hfz19_5
                  try clear hfz19_6
                  try clear hfz20_0
                  try clear hfz20_1
                  try clear hfz20_2
                  try clear hfz20_3
                  try clear hfz20_4
                  try clear hfz20_5
                  try clear hfz20_6
                  try clear hfz21_0
                  try clear hfz21_1
                  try clear hfz21_2
                  try clear hfz21_3
                  try clear hfz21_4
                  try clear hfz21_5
                  try clear hfz21_6
                  try clear hfz26_0
                  try clear hfz26_1
                  try clear hfz26_2
                  try clear hfz26_3
                  try clear hfz26_4
                  try clear hfz26_5
                  try clear hfz26_6
                  try clear hfz27_0
                  try clear hfz27_1
                  try clear hfz27_2
                  try clear hfz27_3
                  try clear hfz27_4
                  try clear hfz27_5
                  try clear hfz27_6
                  try clear hfz28_0
                  try clear hfz28_1
                  try clear hfz28_2
                  try clear hfz28_3
                  try clear hfz28_4
                  try clear hfz28_5
                  try clear hfz28_6
                  try clear hfz6_0
                  try clear hfz6_1
                  try clear hfz6_2
                  try clear hfz6_3
                  try clear hfz6_4
                  try clear hfz6_5
                  try clear hfz6_6
                  try clear hx134_0
                  try clear p1
                  try clear p13
                  try clear p134
                  try clear p2
                  try clear p6
                  try clear q1
                  try clear q13
                  try clear q134
                  obtain ⟨x6_3, rfl, HA, HK3, BK133, HB⟩ := hrel
                  cases gk with
                  | zero => exact absurd HA.out (by simp [lemmaref03_Kinds_Is.l0])
                  | succ k3 =>
                    have H := HA.out
                    clear HA
                    simp only [lemmaref03_Kinds_Is.l0] at H
                    by_cases c29 : x6_3 < (l0_6.length : Int)
                    · rw [if_pos c29] at H
                      have c29b0 : decide (x6_3 < (l0_6.length : Int)) = true := decide_eq_true c29
                      clear c29
                      by_cases c30 : 0 ≤ x6_3
                      · rw [if_pos c30] at H
                        have c30b0 : decide (0 ≤ x6_3) = true := decide_eq_true c30
                        clear c30
                        by_cases c31 : (rd l0_6 x6_3) = a1
                        · rw [if_pos c31] at H
                          have c31b0 : ((rd l0_6 x6_3) == a1) = true := beq_iff_eq.mpr c31
                          have c31b1 : ((rd l0_6 x6_3) != a1) = false := bne_eq_false_iff_eq.mpr c31
                          clear c31
                          obtain rfl := Option.some.inj H
                          have hcz32_0 : wr.cell? ⟨gb133, 0, none⟩ = some (.bool a0_0) := (blk_cell BK133.out 0).trans rfl
                          have hcz32_1 : wr.cell? ⟨gb133, 1, none⟩ = some (.slice A0_1 l0_1.length c0_1) := (blk_cell BK133.out 1).trans rfl
                          have hcz32_2 : wr.cell? ⟨gb133, 2, none⟩ = some (.int .i64 a0_2) := (blk_cell BK133.out 2).trans rfl
                          have hcz32_3 : wr.cell? ⟨gb133, 3, none⟩ = some (.bool a0_3) := (blk_cell BK133.out 3).trans rfl
                          have hcz32_4 : wr.cell? ⟨gb133, 4, none⟩ = some (.int .i64 a0_4) := (blk_cell BK133.out 4).trans rfl
                          have hcz32_5 : wr.cell? ⟨gb133, 5, none⟩ = some (.int .i64 a0_5) := (blk_cell BK133.out 5).trans rfl
                          have hcz32_6 : wr.cell? ⟨gb133, 6, none⟩ = some (.slice A0_6 l0_6.length c0_6) := (blk_cell BK133.out 6).trans rfl
                          have hfz32_0 := blk_frozen BK133.out 0
                          have hfz32_1 := blk_frozen BK133.out 1
                          have hfz32_2 := blk_frozen BK133.out 2
                          have hfz32_3 := blk_frozen BK133.out 3
                          have hfz32_4 := blk_frozen BK133.out 4
                          have hfz32_5 := blk_frozen BK133.out 5
                          have hfz32_6 := blk_frozen BK133.out 6
                          have p135 : 0 ≤ (x6_3 : Int) := of_decide_eq_true (by first | (with_reducible assumption) | assumption)
                          have q135 : x6_3 < (l0_6.length : Int) := of_decide_eq_true (by first | (with_reducible assumption) | assumption)
                          obtain ⟨ad135, e135, hx135_0⟩ := Kd.at_int HR0_6.out x6_3 p135 q135
                          cases e135
                          replace hx135_0 := (HB.out.cell (World.block_lt_of_cell? w _ hx135_0)).trans hx135_0
                          replace p135 := eq_true p135
                          replace q135 := eq_true q135
                          go_wp2
                          go_ret
                          exact ⟨by first | rfl | (simp [errW_none, errW_some] <;> rfl) | (simp [*, errW_none, errW_some] <;> rfl), by repeat (first | (with_reducible first | exact HB.out | apply below_alloc | apply pw_below_drewN | apply below_drew1 | refine below_set ?_ GE133.out) | exact HB.out)⟩
                        · rw [if_neg c31] at H
                          have c31b0 : ((rd l0_6 x6_3) == a1) = false := beq_eq_false_iff_ne.mpr c31
                          have c31b1 : ((rd l0_6 x6_3) != a1) = true := bne_iff_ne.mpr c31
                          have H' := Aside0.mk H
                          clear H
                          have hcz33_0 : wr.cell? ⟨gb133, 0, none⟩ = some (.bool a0_0) := (blk_cell BK133.out 0).trans rfl
                          have hcz33_1 : wr.cell? ⟨gb133, 1, none⟩ = some (.slice A0_1 l0_1.length c0_1) := (blk_cell BK133.out 1).trans rfl
                          have hcz33_2 : wr.cell? ⟨gb133, 2, none⟩ = some (.int .i64 a0_2) := (blk_cell BK133.out 2).trans rfl
                          have hcz33_3 : wr.cell? ⟨gb133, 3, none⟩ = some (.bool a0_3) := (blk_cell BK133.out 3).trans rfl
                          have hcz33_4 : wr.cell? ⟨gb133, 4, none⟩ = some (.int .i64 a0_4) := (blk_cell BK133.out 4).trans rfl
                          have hcz33_5 : wr.cell? ⟨gb133, 5, none⟩ = some (.int .i64 a0_5) := (blk_cell BK133.out 5).trans rfl
                          have hcz33_6 : wr.cell? ⟨gb133, 6, none⟩ = some (.slice A0_6 l0_6.length c0_6) := (blk_cell BK133.out 6).trans rfl
                          have hfz33_0 := blk_frozen BK133.out 0
                          have hfz33_1 := blk_frozen BK133.out 1
                          have hfz33_2 := blk_frozen BK133.out 2
                          have hfz33_3 := blk_frozen BK133.out 3
                          have hfz33_4 := blk_frozen BK133.out 4
                          have hfz33_5 := blk_frozen BK133.out 5
                          have hfz33_6 := blk_frozen BK133.out 6
                          have p135 : 0 ≤ (x6_3 : Int) := of_decide_eq_true (by first | (with_reducible assumption) | assumption)
                          have q135 : x6_3 < (l0_6.length : Int) := of_decide_eq_true (by first | (with_reducible assumption) | assumption)
                          obtain ⟨ad135, e135, hx135_0⟩ := Kd.at_int HR0_6.out x6_3 p135 q135
                          cases e135
                          replace hx135_0 := (HB.out.cell (World.block_lt_of_cell? w _ hx135_0)).trans hx135_0
                          replace p135 := eq_true p135
                          replace q135 := eq_true q135
                          go_wp2
                          go_roundg k3
                          case measure => have := HJ2.out; have := HJ13.out; have := HK3.out; omega
                          case rel => exact ⟨(wrap64 (x6_3 + 1)), (by first | rfl | (simp; done) | (simp [*]; done)), H', ⟨by have := HJ2.out; have := HJ13.out; have := HK3.out; omega⟩, ⟨by (with_reducible repeat (first | refine blk_drewN ?_ _ | refine blk_drew ?_ | refine blk_alloc ?_ _)); exact BK133.out⟩, ⟨by repeat (first | (with_reducible first | exact HB.out | apply below_alloc | apply pw_below_drewN | apply below_drew1 | refine below_set ?_ GE133.out) | exact HB.out)⟩⟩
                      · rw [if_neg c30] at H
                        exact absurd H (by simp)
                    · rw [if_neg c29] at H
                      have c29b0 : decide (x6_3 < (l0_6.length : Int)) = false := decide_eq_false c29
                      clear c29
                      obtain rfl := Option.some.inj H
                      have hcz34_0 : wr.cell? ⟨gb133, 0, none⟩ = some (.bool a0_0) := (blk_cell BK133.out 0).trans rfl
                      have hcz34_1 : wr.cell? ⟨gb133, 1, none⟩ = some (.slice A0_1 l0_1.length c0_1) := (blk_cell BK133.out 1).trans rfl
                      have hcz34_2 : wr.cell? ⟨gb133, 2, none⟩ = some (.int .i64 a0_2) := (blk_cell BK133.out 2).trans rfl
                      have hcz34_3 : wr.cell? ⟨gb133, 3, none⟩ = some (.bool a0_3) := (blk_cell BK133.out 3).trans rfl
                      have hcz34_4 : wr.cell? ⟨gb133, 4, none⟩ = some (.int .i64 a0_4) := (blk_cell BK133.out 4).trans rfl
                      have hcz34_5 : wr.cell? ⟨gb133, 5, none⟩ = some (.int .i64 a0_5) := (blk_cell BK133.out 5).trans rfl
                      have hcz34_6 : wr.cell? ⟨gb133, 6, none⟩ = some (.slice A0_6 l0_6.length c0_6) := (blk_cell BK133.out 6).trans rfl
                      have hfz34_0 := blk_frozen BK133.out 0
                      have hfz34_1 := blk_frozen BK133.out 1
                      have hfz34_2 := blk_frozen BK133.out 2
                      have hfz34_3 := blk_frozen BK133.out 3
                      have hfz34_4 := blk_frozen BK133.out 4
                      have hfz34_5 := blk_frozen BK133.out 5
                      have hfz34_6 := blk_frozen BK133.out 6
                      go_wp2
                      go_ret
                      exact ⟨by first | rfl | (simp [errW_none, errW_some] <;> rfl) | (simp [*, errW_none, errW_some] <;> rfl), by repeat (first | (with_reducible first | exact HB.out | apply below_alloc | apply pw_below_drewN | apply below_drew1 | refine below_set ?_ GE133.out) | exact HB.out)⟩

end Go.Proofs.Ytambldebfhhjpaa.PExprFaces
