-- PRINTED BY print.sh 35421559b90ae4d0a3588c463048766b98c2df88dd9212a6774a882060cdf62d: not written by this session
import Derived.Test.YtkonloadedbpkaaPFoldLosslessx0
namespace Go.Proofs.Ytkonloadedbpkaa.PFoldLossless
open Go.RowKit Go.Proofs.YtkonloadedbpkaaW.PrintWords Go.Proofs.YtkonloadedbpkaaW.PrintLast Go.Proofs.YtkonloadedbpkaaW.PrintMore
attribute [local go_sem] max2_int min2_int max_two min_two max_three min_three max_four min_four   -- for this text's walks alone
set_option linter.unusedVariables false
set_option linter.unusedSimpArgs false

/-! ### lemmalaw16_named: function 13 -/
mutual
def lemmalaw16_named.l0 : Nat → List (S27) → List (S27) → Int → Option ((List (S27)))
  | 0, _, _, _ => none
  | k + 1, x0, x3, x4 => if x4 < (x0.length : Int) then (if 0 ≤ x4 then (if (((rd_T27 x0 x4).f0).size : Int) > 0 then (if 0 < (((rd_T27 x0 x4).f0).size : Int) then (lemmalaw16_named.j1 k x0 x3 x4 ((Int.tmod (bt ((rd_T27 x0 x4).f0) 0) 2) == 0) (⟨#[115]⟩ : ByteArray)) else (none)) else (lemmalaw16_named.j1 k x0 x3 x4 false (⟨#[115]⟩ : ByteArray))) else (none)) else (some x3)
def lemmalaw16_named.j1 : Nat → List (S27) → List (S27) → Int → Bool → ByteArray → Option ((List (S27)))
  | 0, _, _, _, _, _ => none
  | k + 1, x0, x3, x4, x31, x152000 => if x31 = true then (lemmalaw16_named.j2 k x0 x3 x4 (⟨#[116]⟩ : ByteArray)) else (lemmalaw16_named.j2 k x0 x3 x4 x152000)
def lemmalaw16_named.j2 : Nat → List (S27) → List (S27) → Int → ByteArray → Option ((List (S27)))
  | 0, _, _, _, _ => none
  | k + 1, x0, x3, x4, x152000 => lemmalaw16_named.l1 k x0 x3 x4 0 x152000 ([] : List Int)
def lemmalaw16_named.l1 : Nat → List (S27) → List (S27) → Int → Int → ByteArray → List Int → Option ((List (S27)))
  | 0, _, _, _, _, _, _ => none
  | k + 1, x0, x3, x4, x6, x152000, x152001 => if 0 ≤ x4 then (if x4 < (x0.length : Int) then (if x6 < (((rd_T27 x0 x4).f1).length : Int) then (if x152000.size + 1 ≤ 9223372036854775807 then (if 0 ≤ x6 then (if (rd ((rd_T27 x0 x4).f1) x6) < 0 then (lemmalaw16_named.j4 k x0 x3 x4 x6 (rd ((rd_T27 x0 x4).f1) x6) true (x152000 ++ (⟨#[105]⟩ : ByteArray)) x152001) else (lemmalaw16_named.j4 k x0 x3 x4 x6 (rd ((rd_T27 x0 x4).f1) x6) (decide ((rd ((rd_T27 x0 x4).f1) x6) ≥ x4)) (x152000 ++ (⟨#[105]⟩ : ByteArray)) x152001)) else (none)) else (none)) else (if (x152001.length : Int) = (((rd_T27 x0 x4).f1).length : Int) then (if x3.length < 3518437208883 then (lemmalaw16_named.l0 k x0 (x3 ++ [(⟨x152000, x152001⟩ : S27)]) (wrap64 (x4 + 1))) else (none)) else (if x3.length < 3518437208883 then (lemmalaw16_named.l0 k x0 (x3 ++ [(⟨(⟨#[115]⟩ : ByteArray), ([] : List Int)⟩ : S27)]) (wrap64 (x4 + 1))) else (none)))) else (none)) else (none)
def lemmalaw16_named.j4 : Nat → List (S27) → List (S27) → Int → Int → Int → Bool → ByteArray → List Int → Option ((List (S27)))
  | 0, _, _, _, _, _, _, _, _ => none
  | k + 1, x0, x3, x4, x6, x7, x61, x152000, x152001 => if x61 = true then (if (wrap64 (x4 - 1)) ≥ 0 then (if x152001.length < 17592186044416 then (lemmalaw16_named.l1 k x0 x3 x4 (wrap64 (x6 + 1)) x152000 (x152001 ++ [wrap64 (x4 - 1)])) else (none)) else (lemmalaw16_named.l1 k x0 x3 x4 (wrap64 (x6 + 1)) x152000 x152001)) else (if x7 ≥ 0 then (if x152001.length < 17592186044416 then (lemmalaw16_named.l1 k x0 x3 x4 (wrap64 (x6 + 1)) x152000 (x152001 ++ [x7])) else (none)) else (lemmalaw16_named.l1 k x0 x3 x4 (wrap64 (x6 + 1)) x152000 x152001))
end
def lemmalaw16_named.f (k : Nat) (l0 : List (S27)) : Option ((List (S27))) := lemmalaw16_named.l0 k l0 ([] : List (S27)) 0
theorem lemmalaw16_named.mono_l : ∀ k, (∀ y0 y1 y2, LeO (lemmalaw16_named.l0 k y0 y1 y2) (lemmalaw16_named.l0 (k + 1) y0 y1 y2)) ∧ (∀ y0 y1 y2 y3 y4, LeO (lemmalaw16_named.j1 k y0 y1 y2 y3 y4) (lemmalaw16_named.j1 (k + 1) y0 y1 y2 y3 y4)) ∧ (∀ y0 y1 y2 y3, LeO (lemmalaw16_named.j2 k y0 y1 y2 y3) (lemmalaw16_named.j2 (k + 1) y0 y1 y2 y3)) ∧ (∀ y0 y1 y2 y3 y4 y5, LeO (lemmalaw16_named.l1 k y0 y1 y2 y3 y4 y5) (lemmalaw16_named.l1 (k + 1) y0 y1 y2 y3 y4 y5)) ∧ (∀ y0 y1 y2 y3 y4 y5 y6 y7, LeO (lemmalaw16_named.j4 k y0 y1 y2 y3 y4 y5 y6 y7) (lemmalaw16_named.j4 (k + 1) y0 y1 y2 y3 y4 y5 y6 y7))
  | 0 => ⟨fun _ _ _ r h => by simp [lemmalaw16_named.l0] at h, fun _ _ _ _ _ r h => by simp [lemmalaw16_named.j1] at h, fun _ _ _ _ r h => by simp [lemmalaw16_named.j2] at h, fun _ _ _ _ _ _ r h => by simp [lemmalaw16_named.l1] at h, fun _ _ _ _ _ _ _ _ r h => by simp [lemmalaw16_named.j4] at h⟩
  | k + 1 => by
    obtain ⟨ih0, ih1, ih2, ih3, ih4⟩ := lemmalaw16_named.mono_l k
    refine ⟨?_, ?_, ?_, ?_, ?_⟩
    · intro y0 y1 y2
      unfold lemmalaw16_named.l0
      repeat' first
      | (with_reducible exact ih0 _ _ _)
      | (with_reducible exact ih1 _ _ _ _ _)
      | (with_reducible exact ih2 _ _ _ _)
      | (with_reducible exact ih3 _ _ _ _ _ _)
      | (with_reducible exact ih4 _ _ _ _ _ _ _ _)
      | (with_reducible exact LeO.refl _)
      | (with_reducible exact LeO.none _)
      | (with_reducible refine LeO.ite ?_ ?_)
      | (with_reducible refine LeO.bind ?_ (fun _ => ?_))
      | exact ih0 _ _ _
      | exact ih1 _ _ _ _ _
      | exact ih2 _ _ _ _
      | exact ih3 _ _ _ _ _ _
      | exact ih4 _ _ _ _ _ _ _ _
      | exact LeO.none _
      | refine LeO.ite ?_ ?_
      | refine LeO.bind ?_ (fun _ => ?_)
    · intro y0 y1 y2 y3 y4
      unfold lemmalaw16_named.j1
      repeat' first
      | (with_reducible exact ih0 _ _ _)
      | (with_reducible exact ih1 _ _ _ _ _)
      | (with_reducible exact ih2 _ _ _ _)
      | (with_reducible exact ih3 _ _ _ _ _ _)
      | (with_reducible exact ih4 _ _ _ _ _ _ _ _)
      | (with_reducible exact LeO.refl _)
      | (with_reducible exact LeO.none _)
      | (with_reducible refine LeO.ite ?_ ?_)
      | (with_reducible refine LeO.bind ?_ (fun _ => ?_))
      | exact ih0 _ _ _
      | exact ih1 _ _ _ _ _
      | exact ih2 _ _ _ _
      | exact ih3 _ _ _ _ _ _
      | exact ih4 _ _ _ _ _ _ _ _
      | exact LeO.none _
      | refine LeO.ite ?_ ?_
      | refine LeO.bind ?_ (fun _ => ?_)
    · intro y0 y1 y2 y3
      unfold lemmalaw16_named.j2
      repeat' first
      | (with_reducible exact ih0 _ _ _)
      | (with_reducible exact ih1 _ _ _ _ _)
      | (with_reducible exact ih2 _ _ _ _)
      | (with_reducible exact ih3 _ _ _ _ _ _)
      | (with_reducible exact ih4 _ _ _ _ _ _ _ _)
      | (with_reducible exact LeO.refl _)
      | (with_reducible exact LeO.none _)
      | (with_reducible refine LeO.ite ?_ ?_)
      | (with_reducible refine LeO.bind ?_ (fun _ => ?_))
      | exact ih0 _ _ _
      | exact ih1 _ _ _ _ _
      | exact ih2 _ _ _ _
      | exact ih3 _ _ _ _ _ _
      | exact ih4 _ _ _ _ _ _ _ _
      | exact LeO.none _
      | refine LeO.ite ?_ ?_
      | refine LeO.bind ?_ (fun _ => ?_)
    · intro y0 y1 y2 y3 y4 y5
      unfold lemmalaw16_named.l1
      repeat' first
      | (with_reducible exact ih0 _ _ _)
      | (with_reducible exact ih1 _ _ _ _ _)
      | (with_reducible exact ih2 _ _ _ _)
      | (with_reducible exact ih3 _ _ _ _ _ _)
      | (with_reducible exact ih4 _ _ _ _ _ _ _ _)
      | (with_reducible exact LeO.refl _)
      | (with_reducible exact LeO.none _)
      | (with_reducible refine LeO.ite ?_ ?_)
      | (with_reducible refine LeO.bind ?_ (fun _ => ?_))
      | exact ih0 _ _ _
      | exact ih1 _ _ _ _ _
      | exact ih2 _ _ _ _
      | exact ih3 _ _ _ _ _ _
      | exact ih4 _ _ _ _ _ _ _ _
      | exact LeO.none _
      | refine LeO.ite ?_ ?_
      | refine LeO.bind ?_ (fun _ => ?_)
    · intro y0 y1 y2 y3 y4 y5 y6 y7
      unfold lemmalaw16_named.j4
      repeat' first
      | (with_reducible exact ih0 _ _ _)
      | (with_reducible exact ih1 _ _ _ _ _)
      | (with_reducible exact ih2 _ _ _ _)
      | (with_reducible exact ih3 _ _ _ _ _ _)
      | (with_reducible exact ih4 _ _ _ _ _ _ _ _)
      | (with_reducible exact LeO.refl _)
      | (with_reducible exact LeO.none _)
      | (with_reducible refine LeO.ite ?_ ?_)
      | (with_reducible refine LeO.bind ?_ (fun _ => ?_))
      | exact ih0 _ _ _
      | exact ih1 _ _ _ _ _
      | exact ih2 _ _ _ _
      | exact ih3 _ _ _ _ _ _
      | exact ih4 _ _ _ _ _ _ _ _
      | exact LeO.none _
      | refine LeO.ite ?_ ?_
      | refine LeO.bind ?_ (fun _ => ?_)
theorem lemmalaw16_named.mono : ∀ a0 k, LeO (lemmalaw16_named.f k a0) (lemmalaw16_named.f (k + 1) a0) := by
  intro a0 k
  obtain ⟨ih0, ih1, ih2, ih3, ih4⟩ := lemmalaw16_named.mono_l k
  unfold lemmalaw16_named.f
  repeat' first
      | (with_reducible exact ih0 _ _ _)
      | (with_reducible exact ih1 _ _ _ _ _)
      | (with_reducible exact ih2 _ _ _ _)
      | (with_reducible exact ih3 _ _ _ _ _ _)
      | (with_reducible exact ih4 _ _ _ _ _ _ _ _)
      | (with_reducible exact LeO.refl _)
      | (with_reducible exact LeO.none _)
      | (with_reducible refine LeO.ite ?_ ?_)
      | (with_reducible refine LeO.bind ?_ (fun _ => ?_))
      | exact ih0 _ _ _
      | exact ih1 _ _ _ _ _
      | exact ih2 _ _ _ _
      | exact ih3 _ _ _ _ _ _
      | exact ih4 _ _ _ _ _ _ _ _
      | exact LeO.none _
      | refine LeO.ite ?_ ?_
      | refine LeO.bind ?_ (fun _ => ?_)
set_option maxHeartbeats 8000000 in
set_option maxRecDepth 100000 in
theorem lemmalaw16_named.calls (k : Nat) (A0 : Option Addr) (c0 : Nat) (l0 : List (S27)) (r : List (S27)) (w : World) (hr0 : Kd.C k27 w A0 l0.length l0) (hc0 : l0.length ≤ c0) (h : lemmalaw16_named.f k l0 = some r) :
    Calls Try.prog 13 #[.slice A0 l0.length c0] w fun e w' => ∃ v0_ : Value, e = .returned (v0_) ∧ Kd.S k27 27 w' w.heap.size (fun _ => True) v0_ r ∧ Below w.heap.size w w' := by
  have hu27 := Try.underlying27
  have HR0 := Aside0.mk hr0
  have HC0 := Aside0.mk hc0
  clear hr0 hc0
  have HB := Aside0.mk (Below.refl w.heap.size w)
  have H : (lemmalaw16_named.l0 k l0 ([] : List (S27)) 0) = some r := h
  clear h
  have H' := Aside0.mk H
  clear H
  go_enter Try.func13, Try.ntmps13
  go_wp2
  repeat (go_quiet (fail); try go_wp2)
  go_loopg [3, 4] k (fun kq v3 v4 w' => ∃ (x3_1 : List (S27)) (x4_1 : Int), v4 = .int .i64 x4_1 ∧ Aside0 (lemmalaw16_named.l0 kq l0 x3_1 x4_1 = some r) ∧ Aside0 (kq ≤ k) ∧ Aside0 (Kd.S k27 27 w' w.heap.size (fun _ => True) v3 x3_1) ∧ Aside0 (Below w.heap.size w w'))
  case atStart => exact ⟨(([] : List (S27))), (0), (by first | rfl | (simp; done) | (simp [*]; done)), H', ⟨Nat.le_refl _⟩, ⟨by first | exact Kd.S_nil _ _ _ _ _ | exact Kd.N_nil _ _ _ _ _ | exact Kd.V_nil _ _ _ _ _ | exact Kd.Q_nil _ _ _ _ _ | exact Kd.R_nil _ _ _ _ _⟩, ⟨by repeat (first | (with_reducible first | exact HB.out | apply below_alloc | apply pw_below_drewN | apply below_drew1) | exact HB.out)⟩⟩
  case round =>
    clear H'
    try clear c1
    obtain ⟨x3_1, x4_1, rfl, HA, HK1, HO_3, HB⟩ := hrel
    cases gk with
    | zero => exact absurd HA.out (by simp [lemmalaw16_named.l0])
    | succ k1 =>
      have H := HA.out
      clear HA
      simp only [lemmalaw16_named.l0] at H
      by_cases c2 : x4_1 < (l0.length : Int)
      · rw [if_pos c2] at H
        have c2b0 : decide (x4_1 < (l0.length : Int)) = true := decide_eq_true c2
        clear c2
        have HC3 := Aside0.mk H
        clear H
        go_upto_region 6 with (first | ((with_reducible refine gate_dst (N := 5) rfl ?_); refine box_event ?hg (N := 5) ?hd (cs := #[.string (⟨#[]⟩ : ByteArray), .slice none 0 0]) (t := 27) ?hr ?_; (case hd => rfl); (case hg => rfl); (case hr => first | (go_simp; done) | (go_simp; rfl)); intro gb151 hg w4 hbox hb; have n0_ := Aside0.mk (Kd.S_below (Kd.S_elderB (by (with_reducible repeat (first | apply Kd.S_alloc | apply Kd.S_drewN | apply Kd.S_drew)); exact HO_3.out) gb151 (Nat.le_of_eq hg.symm)) hb); have n1_ := Aside0.mk (below_step (by repeat (first | (with_reducible first | exact HB.out | apply below_alloc | apply pw_below_drewN | apply below_drew1) | exact HB.out)) hb); have n2_ := Aside0.mk (hbox); have n3_ := Aside0.mk ((by rw [hg]; exact (below_size (by repeat (first | (with_reducible first | exact HB.out | apply below_alloc | apply pw_below_drewN | apply below_drew1) | exact HB.out))) : w.heap.size ≤ gb151)); have n4_ := Aside0.mk ((by rw [hg]; exact (below_size (by repeat (first | (with_reducible first | exact HB.out | apply below_alloc | apply pw_below_drewN | apply below_drew1) | exact HB.out))) : w.heap.size ≤ gb151)); clear HO_3; clear HB; have HO_3 := n0_; have HB := n1_; have BK151 := n2_; have GW151 := n3_; have GE151 := n4_; clear n0_ n1_ n2_ n3_ n4_; clear hb hbox hg; have hcz5_0 : w4.cell? ⟨gb151, 0, none⟩ = some (.string (⟨#[]⟩ : ByteArray)) := (blk_cell BK151.out 0).trans rfl; have hcz5_1 : w4.cell? ⟨gb151, 1, none⟩ = some (.slice none 0 0) := (blk_cell BK151.out 1).trans rfl; have hfz5_0 := blk_frozen BK151.out 0; have hfz5_1 := blk_frozen BK151.out 1))
        repeat (go_quiet (first | ((with_reducible refine gate_dst (N := 5) rfl ?_); refine box_event ?hg (N := 5) ?hd (cs := #[.string (⟨#[]⟩ : ByteArray), .slice none 0 0]) (t := 27) ?hr ?_; (case hd => rfl); (case hg => rfl); (case hr => first | (go_simp; done) | (go_simp; rfl)); intro gb151 hg w4 hbox hb; have n0_ := Aside0.mk (Kd.S_below (Kd.S_elderB (by (with_reducible repeat (first | apply Kd.S_alloc | apply Kd.S_drewN | apply Kd.S_drew)); exact HO_3.out) gb151 (Nat.le_of_eq hg.symm)) hb); have n1_ := Aside0.mk (below_step (by repeat (first | (with_reducible first | exact HB.out | apply below_alloc | apply pw_below_drewN | apply below_drew1) | exact HB.out)) hb); have n2_ := Aside0.mk (hbox); have n3_ := Aside0.mk ((by rw [hg]; exact (below_size (by repeat (first | (with_reducible first | exact HB.out | apply below_alloc | apply pw_below_drewN | apply below_drew1) | exact HB.out))) : w.heap.size ≤ gb151)); have n4_ := Aside0.mk ((by rw [hg]; exact (below_size (by repeat (first | (with_reducible first | exact HB.out | apply below_alloc | apply pw_below_drewN | apply below_drew1) | exact HB.out))) : w.heap.size ≤ gb151)); clear HO_3; clear HB; have HO_3 := n0_; have HB := n1_; have BK151 := n2_; have GW151 := n3_; have GE151 := n4_; clear n0_ n1_ n2_ n3_ n4_; clear hb hbox hg; have hcz5_0 : w4.cell? ⟨gb151, 0, none⟩ = some (.string (⟨#[]⟩ : ByteArray)) := (blk_cell BK151.out 0).trans rfl; have hcz5_1 : w4.cell? ⟨gb151, 1, none⟩ = some (.slice none 0 0) := (blk_cell BK151.out 1).trans rfl; have hfz5_0 := blk_frozen BK151.out 0; have hfz5_1 := blk_frozen BK151.out 1)); go_upto_region 6 with (first | ((with_reducible refine gate_dst (N := 5) rfl ?_); refine box_event ?hg (N := 5) ?hd (cs := #[.string (⟨#[]⟩ : ByteArray), .slice none 0 0]) (t := 27) ?hr ?_; (case hd => rfl); (case hg => rfl); (case hr => first | (go_simp; done) | (go_simp; rfl)); intro gb151 hg w4 hbox hb; have n0_ := Aside0.mk (Kd.S_below (Kd.S_elderB (by (with_reducible repeat (first | apply Kd.S_alloc | apply Kd.S_drewN | apply Kd.S_drew)); exact HO_3.out) gb151 (Nat.le_of_eq hg.symm)) hb); have n1_ := Aside0.mk (below_step (by repeat (first | (with_reducible first | exact HB.out | apply below_alloc | apply pw_below_drewN | apply below_drew1) | exact HB.out)) hb); have n2_ := Aside0.mk (hbox); have n3_ := Aside0.mk ((by rw [hg]; exact (below_size (by repeat (first | (with_reducible first | exact HB.out | apply below_alloc | apply pw_below_drewN | apply below_drew1) | exact HB.out))) : w.heap.size ≤ gb151)); have n4_ := Aside0.mk ((by rw [hg]; exact (below_size (by repeat (first | (with_reducible first | exact HB.out | apply below_alloc | apply pw_below_drewN | apply below_drew1) | exact HB.out))) : w.heap.size ≤ gb151)); clear HO_3; clear HB; have HO_3 := n0_; have HB := n1_; have BK151 := n2_; have GW151 := n3_; have GE151 := n4_; clear n0_ n1_ n2_ n3_ n4_; clear hb hbox hg; have hcz5_0 : w4.cell? ⟨gb151, 0, none⟩ = some (.string (⟨#[]⟩ : ByteArray)) := (blk_cell BK151.out 0).trans rfl; have hcz5_1 : w4.cell? ⟨gb151, 1, none⟩ = some (.slice none 0 0) := (blk_cell BK151.out 1).trans rfl; have hfz5_0 := blk_frozen BK151.out 0; have hfz5_1 := blk_frozen BK151.out 1)))
        (try simp only [Act.put, List.setIfInBounds_toArray, List.set_cons_zero, List.set_cons_succ])
        go_cut [31] (fun v31 wc => ∃ (kq : Nat) (x31_2 : Bool), v31 = .bool x31_2 ∧ Aside0 (lemmalaw16_named.j1 kq l0 x3_1 x4_1 x31_2 (⟨#[115]⟩ : ByteArray) = some r) ∧ Aside0 (kq ≤ k1) ∧ Aside0 (Kd.S k27 27 wc w.heap.size (fun k_ => k_ ≠ gb151) u3 x3_1) ∧ Aside0 (wc.heap[gb151]? = some (.cells #[.string (⟨#[115]⟩ : ByteArray), (.slice none 0 0)] 27 (0, 0))) ∧ Aside0 (Below w.heap.size w wc))
        case first =>
          have H := HC3.out
          clear HC3
          by_cases c6 : 0 ≤ x4_1
          · rw [if_pos c6] at H
            have c6b0 : decide (0 ≤ x4_1) = true := decide_eq_true c6
            clear c6
            (first | rw [c6b0] | (simp only [i64_w, i32_w]; rw [c6b0]) | skip)
            by_cases c7 : (((rd_T27 l0 x4_1).f0).size : Int) > 0
            · rw [if_pos c7] at H
              have c7b0 : decide (0 < (((rd_T27 l0 x4_1).f0).size : Int)) = true := decide_eq_true c7
              have c7b1 : decide (0 < ((rd_T27 l0 x4_1).f0).size) = true := decide_eq_true (by omega)
              clear c7
              by_cases c8 : 0 < (((rd_T27 l0 x4_1).f0).size : Int)
              · rw [if_pos c8] at H
                have c8b0 : decide (0 < (((rd_T27 l0 x4_1).f0).size : Int)) = true := decide_eq_true c8
                have c8b1 : decide (0 < ((rd_T27 l0 x4_1).f0).size) = true := decide_eq_true (by omega)
                clear c8
                have H' := Aside0.mk H
                clear H
                have p152 : 0 ≤ (x4_1 : Int) := of_decide_eq_true (by first | (with_reducible assumption) | assumption)
                have q152 : x4_1 < (l0.length : Int) := of_decide_eq_true (by first | (with_reducible assumption) | assumption)
                obtain ⟨ad152, A152_1, c152_1, e152, hx152_0, hx152_1, hl152_1, hi152_1⟩ := at_T27 HR0.out x4_1 p152 q152
                cases e152
                have hn152_0 : ad152.block ≠ gb151 := Nat.ne_of_lt (Nat.lt_of_lt_of_le (by have := World.block_lt_of_cell? _ _ hx152_0; first | rwa [add_block] at this | exact this) GW151.out)
                have hn152_1 : ad152.block ≠ gb151 := Nat.ne_of_lt (Nat.lt_of_lt_of_le (by have := World.block_lt_of_cell? _ _ hx152_0; first | rwa [add_block] at this | exact this) GW151.out)
                replace hx152_0 := (HB.out.cell (World.block_lt_of_cell? w _ hx152_0)).trans hx152_0
                replace hx152_1 := (HB.out.cell (World.block_lt_of_cell? w _ hx152_1)).trans hx152_1
                have HR152_1 := Aside0.mk hi152_1
                have HC152_1 := Aside0.mk hl152_1
                clear hi152_1 hl152_1
                replace hx152_0 := (cell_far (p := ⟨gb151, 0, none⟩) (by first | (rw [add_block]; exact hn152_0) | (show (Addr.add _ _).block ≠ _; rw [add_block]; exact hn152_0) | exact hn152_0) (.string (⟨#[115]⟩ : ByteArray))).trans hx152_0
                replace hx152_1 := (cell_far (p := ⟨gb151, 0, none⟩) (by first | (rw [add_block]; exact hn152_0) | (show (Addr.add _ _).block ≠ _; rw [add_block]; exact hn152_0) | exact hn152_0) (.string (⟨#[115]⟩ : ByteArray))).trans hx152_1
                replace hx152_0 := (cell_far (p := ⟨gb151, 1, none⟩) (by first | (rw [add_block]; exact hn152_1) | (show (Addr.add _ _).block ≠ _; rw [add_block]; exact hn152_1) | exact hn152_1) (.slice none 0 0)).trans hx152_0
                replace hx152_1 := (cell_far (p := ⟨gb151, 1, none⟩) (by first | (rw [add_block]; exact hn152_1) | (show (Addr.add _ _).block ≠ _; rw [add_block]; exact hn152_1) | exact hn152_1) (.slice none 0 0)).trans hx152_1
                (try have hy152_0 := fun (n_ : Nat) => (show ((((w4.drewN n_).setCell ⟨gb151, 0, none⟩ (.string (⟨#[115]⟩ : ByteArray))).setCell ⟨gb151, 1, none⟩ (.slice none 0 0))).cell? _ = some _ from hx152_0))
                (try have hy152_1 := fun (n_ : Nat) => (show ((((w4.drewN n_).setCell ⟨gb151, 0, none⟩ (.string (⟨#[115]⟩ : ByteArray))).setCell ⟨gb151, 1, none⟩ (.slice none 0 0))).cell? _ = some _ from hx152_1))
                clear hn152_0
                clear hn152_1
                replace p152 := eq_true p152
                replace q152 := eq_true q152
                have p153 : 0 ≤ (x4_1 : Int) := of_decide_eq_true (by first | (with_reducible assumption) | assumption)
                have q153 : x4_1 < (l0.length : Int) := of_decide_eq_true (by first | (with_reducible assumption) | assumption)
                obtain ⟨ad153, A153_1, c153_1, e153, hx153_0, hx153_1, hl153_1, hi153_1⟩ := at_T27 HR0.out x4_1 p153 q153
                obtain rfl : ad152 = ad153 := (by injection e153)
                have hn153_0 : ad152.block ≠ gb151 := Nat.ne_of_lt (Nat.lt_of_lt_of_le (by have := World.block_lt_of_cell? _ _ hx153_0; first | rwa [add_block] at this | exact this) GW151.out)
                have hn153_1 : ad152.block ≠ gb151 := Nat.ne_of_lt (Nat.lt_of_lt_of_le (by have := World.block_lt_of_cell? _ _ hx153_0; first | rwa [add_block] at this | exact this) GW151.out)
                replace hx153_0 := (HB.out.cell (World.block_lt_of_cell? w _ hx153_0)).trans hx153_0
                replace hx153_1 := (HB.out.cell (World.block_lt_of_cell? w _ hx153_1)).trans hx153_1
                have HR153_1 := Aside0.mk hi153_1
                have HC153_1 := Aside0.mk hl153_1
                clear hi153_1 hl153_1
                replace hx153_0 := (cell_far (p := ⟨gb151, 0, none⟩) (by first | (rw [add_block]; exact hn153_0) | (show (Addr.add _ _).block ≠ _; rw [add_block]; exact hn153_0) | exact hn153_0) (.string (⟨#[115]⟩ : ByteArray))).trans hx153_0
                replace hx153_1 := (cell_far (p := ⟨gb151, 0, none⟩) (by first | (rw [add_block]; exact hn153_0) | (show (Addr.add _ _).block ≠ _; rw [add_block]; exact hn153_0) | exact hn153_0) (.string (⟨#[115]⟩ : ByteArray))).trans hx153_1
                replace hx153_0 := (cell_far (p := ⟨gb151, 1, none⟩) (by first | (rw [add_block]; exact hn153_1) | (show (Addr.add _ _).block ≠ _; rw [add_block]; exact hn153_1) | exact hn153_1) (.slice none 0 0)).trans hx153_0
                replace hx153_1 := (cell_far (p := ⟨gb151, 1, none⟩) (by first | (rw [add_block]; exact hn153_1) | (show (Addr.add _ _).block ≠ _; rw [add_block]; exact hn153_1) | exact hn153_1) (.slice none 0 0)).trans hx153_1
                (try have hy153_0 := fun (n_ : Nat) => (show ((((w4.drewN n_).setCell ⟨gb151, 0, none⟩ (.string (⟨#[115]⟩ : ByteArray))).setCell ⟨gb151, 1, none⟩ (.slice none 0 0))).cell? _ = some _ from hx153_0))
                (try have hy153_1 := fun (n_ : Nat) => (show ((((w4.drewN n_).setCell ⟨gb151, 0, none⟩ (.string (⟨#[115]⟩ : ByteArray))).setCell ⟨gb151, 1, none⟩ (.slice none 0 0))).cell? _ = some _ from hx153_1))
                clear hn153_0
                clear hn153_1
                replace p153 := eq_true p153
                replace q153 := eq_true q153
                have p9 : 0 ≤ (0 : Int) := (by omega)
                have q9 : 0 < ((rd_T27 l0 x4_1).f0).size := (by have : (0 : Int) < (((rd_T27 l0 x4_1).f0).size : Int) := of_decide_eq_true (by first | (with_reducible assumption) | assumption); omega)
                have hx9 : ∀ h : 0 < ((rd_T27 l0 x4_1).f0).size, ((((rd_T27 l0 x4_1).f0)[0]'h).toNat : Int) = bt ((rd_T27 l0 x4_1).f0) 0 := bt_at ((rd_T27 l0 x4_1).f0) 0
                clear p9
                have qi9 : (0 < (((rd_T27 l0 x4_1).f0).size : Int)) = True := eq_true (of_decide_eq_true (by first | (with_reducible assumption) | assumption))
                replace q9 := eq_true q9
                go_wp2
                repeat (go_quiet (fail); try go_wp2)
                go_meet
                case rel => exact ⟨_, (((Int.tmod (bt ((rd_T27 l0 x4_1).f0) 0) 2) == 0)), (by first | rfl | (simp; done) | (simp [*]; done)), H', ⟨by have := HK1.out; first | omega | exact Nat.le_refl _⟩, ⟨by (with_reducible repeat (first | apply Kd.S_alloc | apply Kd.S_drewN | apply Kd.S_drew)); exact Kd.S_mono (Kd.S_far (p := ⟨gb151, 1, none⟩) (Kd.S_far (p := ⟨gb151, 0, none⟩) (Kd.S_mono HO_3.out (fun k_ hk => (⟨hk, hk.2⟩ : _ ∧ k_ ≠ gb151))) (fun _ hk => hk.2) (.string (⟨#[115]⟩ : ByteArray))) (fun _ hk => hk.2) (.slice none 0 0)) (fun _ hk => hk.1.2)⟩, ⟨by (with_reducible repeat (first | refine blk_drewN ?_ _ | refine blk_drew ?_ | refine blk_alloc ?_ _)); refine blk_put (cs := #[.string (⟨#[115]⟩ : ByteArray), .slice none 0 0]) ?_ 1 _ rfl; (with_reducible repeat (first | refine blk_drewN ?_ _ | refine blk_drew ?_ | refine blk_alloc ?_ _)); refine blk_put (cs := #[.string (⟨#[]⟩ : ByteArray), .slice none 0 0]) ?_ 0 _ rfl; (with_reducible repeat (first | refine blk_drewN ?_ _ | refine blk_drew ?_ | refine blk_alloc ?_ _)); exact BK151.out⟩, ⟨by repeat (first | (with_reducible first | exact HB.out | apply below_alloc | apply pw_below_drewN | apply below_drew1 | refine below_set ?_ GE151.out) | exact HB.out)⟩⟩
              · rw [if_neg c8] at H
                exact absurd H (by simp)
            · rw [if_neg c7] at H
              have c7b0 : decide (0 < (((rd_T27 l0 x4_1).f0).size : Int)) = false := decide_eq_false c7
              have c7b1 : decide (0 < ((rd_T27 l0 x4_1).f0).size) = false := decide_eq_false (by omega)
              clear c7
              have H' := Aside0.mk H
              clear H
              have p152 : 0 ≤ (x4_1 : Int) := of_decide_eq_true (by first | (with_reducible assumption) | assumption)
              have q152 : x4_1 < (l0.length : Int) := of_decide_eq_true (by first | (with_reducible assumption) | assumption)
              obtain ⟨ad152, A152_1, c152_1, e152, hx152_0, hx152_1, hl152_1, hi152_1⟩ := at_T27 HR0.out x4_1 p152 q152
              cases e152
              have hn152_0 : ad152.block ≠ gb151 := Nat.ne_of_lt (Nat.lt_of_lt_of_le (by have := World.block_lt_of_cell? _ _ hx152_0; first | rwa [add_block] at this | exact this) GW151.out)
              have hn152_1 : ad152.block ≠ gb151 := Nat.ne_of_lt (Nat.lt_of_lt_of_le (by have := World.block_lt_of_cell? _ _ hx152_0; first | rwa [add_block] at this | exact this) GW151.out)
              replace hx152_0 := (HB.out.cell (World.block_lt_of_cell? w _ hx152_0)).trans hx152_0
              replace hx152_1 := (HB.out.cell (World.block_lt_of_cell? w _ hx152_1)).trans hx152_1
              have HR152_1 := Aside0.mk hi152_1
              have HC152_1 := Aside0.mk hl152_1
              clear hi152_1 hl152_1
              replace hx152_0 := (cell_far (p := ⟨gb151, 0, none⟩) (by first | (rw [add_block]; exact hn152_0) | (show (Addr.add _ _).block ≠ _; rw [add_block]; exact hn152_0) | exact hn152_0) (.string (⟨#[115]⟩ : ByteArray))).trans hx152_0
              replace hx152_1 := (cell_far (p := ⟨gb151, 0, none⟩) (by first | (rw [add_block]; exact hn152_0) | (show (Addr.add _ _).block ≠ _; rw [add_block]; exact hn152_0) | exact hn152_0) (.string (⟨#[115]⟩ : ByteArray))).trans hx152_1
              replace hx152_0 := (cell_far (p := ⟨gb151, 1, none⟩) (by first | (rw [add_block]; exact hn152_1) | (show (Addr.add _ _).block ≠ _; rw [add_block]; exact hn152_1) | exact hn152_1) (.slice none 0 0)).trans hx152_0
              replace hx152_1 := (cell_far (p := ⟨gb151, 1, none⟩) (by first | (rw [add_block]; exact hn152_1) | (show (Addr.add _ _).block ≠ _; rw [add_block]; exact hn152_1) | exact hn152_1) (.slice none 0 0)).trans hx152_1
              (try have hy152_0 := fun (n_ : Nat) => (show ((((w4.drewN n_).setCell ⟨gb151, 0, none⟩ (.string (⟨#[115]⟩ : ByteArray))).setCell ⟨gb151, 1, none⟩ (.slice none 0 0))).cell? _ = some _ from hx152_0))
              (try have hy152_1 := fun (n_ : Nat) => (show ((((w4.drewN n_).setCell ⟨gb151, 0, none⟩ (.string (⟨#[115]⟩ : ByteArray))).setCell ⟨gb151, 1, none⟩ (.slice none 0 0))).cell? _ = some _ from hx152_1))
              clear hn152_0
              clear hn152_1
              replace p152 := eq_true p152
              replace q152 := eq_true q152
              go_wp2
              repeat (go_quiet (fail); try go_wp2)
              go_meet
              case rel => exact ⟨_, (false), (by first | rfl | (simp; done) | (simp [*]; done)), H', ⟨by have := HK1.out; first | omega | exact Nat.le_refl _⟩, ⟨by (with_reducible repeat (first | apply Kd.S_alloc | apply Kd.S_drewN | apply Kd.S_drew)); exact Kd.S_mono (Kd.S_far (p := ⟨gb151, 1, none⟩) (Kd.S_far (p := ⟨gb151, 0, none⟩) (Kd.S_mono HO_3.out (fun k_ hk => (⟨hk, hk.2⟩ : _ ∧ k_ ≠ gb151))) (fun _ hk => hk.2) (.string (⟨#[115]⟩ : ByteArray))) (fun _ hk => hk.2) (.slice none 0 0)) (fun _ hk => hk.1.2)⟩, ⟨by (with_reducible repeat (first | refine blk_drewN ?_ _ | refine blk_drew ?_ | refine blk_alloc ?_ _)); refine blk_put (cs := #[.string (⟨#[115]⟩ : ByteArray), .slice none 0 0]) ?_ 1 _ rfl; (with_reducible repeat (first | refine blk_drewN ?_ _ | refine blk_drew ?_ | refine blk_alloc ?_ _)); refine blk_put (cs := #[.string (⟨#[]⟩ : ByteArray), .slice none 0 0]) ?_ 0 _ rfl; (with_reducible repeat (first | refine blk_drewN ?_ _ | refine blk_drew ?_ | refine blk_alloc ?_ _)); exact BK151.out⟩, ⟨by repeat (first | (with_reducible first | exact HB.out | apply below_alloc | apply pw_below_drewN | apply below_drew1 | refine below_set ?_ GE151.out) | exact HB.out)⟩⟩
          · rw [if_neg c6] at H
            exact absurd H (by simp)
        case rest =>
          clear HC3
          try clear c1
          try clear p1
          try clear q1
          try clear hx1
          try clear c2
          try clear c2b0
          try clear p2
          try clear c6
          try clear c6b0
          try clear c7
          try clear c7b0
          try clear c7b1
          try clear c8
          try clear c8b0
          try clear c8b1
          try clear p9
          try clear q9
          try clear hx9
          try clear qi9
          try clear hcz5_0
          try clear hcz5_1
          try clear hfz5_0
          try clear hfz5_1
          try clear hx152_0
          try clear hx152_1
          try clear hx153_0
          try clear hx153_1
          try clear p152
          try clear p153
          try clear p9
          try clear q152
          try clear q153
          try clear q9
          obtain ⟨kq, x31_2, rfl, HA, HJ2, HO_3, BK151, HB⟩ := hcut
          cases kq with
          | zero => exact absurd HA.out (by simp [lemmalaw16_named.j1])
          | succ kj2 =>
            have H := HA.out
            clear HA
            simp only [lemmalaw16_named.j1] at H
            have HC10 := Aside0.mk H
            clear H
            go_upto_if 31 with (fail)
            repeat (go_quiet (fail); go_upto_if 31 with (fail))
            go_cut [] (fun wc => ∃ (kq : Nat) (x152000_9 : ByteArray), Aside0 (lemmalaw16_named.j2 kq l0 x3_1 x4_1 x152000_9 = some r) ∧ Aside0 (kq ≤ kj2) ∧ Aside0 (Kd.S k27 27 wc w.heap.size (fun k_ => k_ ≠ gb151) u3 x3_1) ∧ Aside0 (wc.heap[gb151]? = some (.cells #[.string x152000_9, (.slice none 0 0)] 27 (0, 0))) ∧ Aside0 (Below w.heap.size w wc))
            case first =>
              have H := HC10.out
              clear HC10
              by_cases c11 : x31_2 = true
              · subst c11
                have H1 : (lemmalaw16_named.j2 kj2 l0 x3_1 x4_1 (⟨#[116]⟩ : ByteArray)) = some r := by rw [if_pos rfl] at H; exact H
                clear H
                have H := H1
                clear H1
                have H' := Aside0.mk H
                clear H
                have hcz12_0 : wc.cell? ⟨gb151, 0, none⟩ = some (.string (⟨#[115]⟩ : ByteArray)) := (blk_cell BK151.out 0).trans rfl
                have hcz12_1 : wc.cell? ⟨gb151, 1, none⟩ = some (.slice none 0 0) := (blk_cell BK151.out 1).trans rfl
                have hfz12_0 := blk_frozen BK151.out 0
                have hfz12_1 := blk_frozen BK151.out 1
                go_wp2
                repeat (go_quiet (fail); try go_wp2)
                go_meet
                case rel => exact ⟨_, ((⟨#[116]⟩ : ByteArray)), H', ⟨by have := HK1.out; have := HJ2.out; first | omega | exact Nat.le_refl _⟩, ⟨by (with_reducible repeat (first | apply Kd.S_alloc | apply Kd.S_drewN | apply Kd.S_drew)); exact Kd.S_mono (Kd.S_far (p := ⟨gb151, 0, none⟩) (Kd.S_mono HO_3.out (fun k_ hk => (⟨hk, hk⟩ : _ ∧ k_ ≠ gb151))) (fun _ hk => hk.2) (.string (⟨#[116]⟩ : ByteArray))) (fun _ hk => hk.1)⟩, ⟨by (with_reducible repeat (first | refine blk_drewN ?_ _ | refine blk_drew ?_ | refine blk_alloc ?_ _)); refine blk_put (cs := #[.string (⟨#[115]⟩ : ByteArray), .slice none 0 0]) ?_ 0 _ rfl; (with_reducible repeat (first | refine blk_drewN ?_ _ | refine blk_drew ?_ | refine blk_alloc ?_ _)); exact BK151.out⟩, ⟨by repeat (first | (with_reducible first | exact HB.out | apply below_alloc | apply pw_below_drewN | apply below_drew1 | refine below_set ?_ GE151.out) | exact HB.out)⟩⟩
              · replace c11 := Bool.eq_false_iff.mpr c11
                subst c11
                have H1 : (lemmalaw16_named.j2 kj2 l0 x3_1 x4_1 (⟨#[115]⟩ : ByteArray)) = some r := by rw [if_neg (show ¬ (false = true) by decide)] at H; exact H
                clear H
                have H := H1
                clear H1
                have H' := Aside0.mk H
                clear H
                go_wp2
                repeat (go_quiet (fail); try go_wp2)
                go_meet
                case rel => exact ⟨_, ((⟨#[115]⟩ : ByteArray)), H', ⟨by have := HK1.out; have := HJ2.out; first | omega | exact Nat.le_refl _⟩, ⟨by (with_reducible repeat (first | apply Kd.S_alloc | apply Kd.S_drewN | apply Kd.S_drew)); exact HO_3.out⟩, ⟨by (with_reducible repeat (first | refine blk_drewN ?_ _ | refine blk_drew ?_ | refine blk_alloc ?_ _)); exact BK151.out⟩, ⟨by repeat (first | (with_reducible first | exact HB.out | apply below_alloc | apply pw_below_drewN | apply below_drew1 | refine below_set ?_ GE151.out) | exact HB.out)⟩⟩
            case rest =>
              clear HC10
              try clear c1
              try clear p1
              try clear q1
              try clear hx1
              try clear c2
              try clear c2b0
              try clear p2
              try clear c6
              try clear c6b0
              try clear c7
              try clear c7b0
              try clear c7b1
              try clear c8
              try clear c8b0
              try clear c8b1
              try clear p9
              try clear q9
              try clear hx9
              try clear qi9
              try clear c11
              try clear hcz12_0
              try clear hcz12_1
              try clear hcz5_0
              try clear hcz5_1
              try clear hfz12_0
              try clear hfz12_1
              try clear hfz5_0
              try clear hfz5_1
              try clear hx152_0
              try clear hx152_1
              try clear hx153_0
              try clear hx153_1
              try clear p1
              try clear p152
              try clear p153
              try clear p2
              try clear p9
              try clear q1
              try clear q152
              try clear q153
              try clear q9
              obtain ⟨kq, x152000_9, HA, HJ9, HO_3, BK151, HB⟩ := hcut
              cases kq with
              | zero => exact absurd HA.out (by simp [lemmalaw16_named.j2])
              | succ kj9 =>
                have H := HA.out
                clear HA
                simp only [lemmalaw16_named.j2] at H
                have H' := Aside0.mk H
                clear H
                go_wp2
                repeat (go_quiet (fail); try go_wp2)
                go_loopg [6] kj9 (fun kq v6 w' => ∃ (x6_4 : Int) (x152000_4 : ByteArray) (x152001_4 : List Int) (u152001 : Value), v6 = .int .i64 x6_4 ∧ Aside0 (lemmalaw16_named.l1 kq l0 x3_1 x4_1 x6_4 x152000_4 x152001_4 = some r) ∧ Aside0 (kq ≤ kj9) ∧ Aside0 (Kd.S k27 27 w' w.heap.size (fun k_ => some k_ ≠ (u152001 : Value).ownBlock ∧ k_ ≠ gb151) u3 x3_1) ∧ Aside0 (Kd.R (Kd.int .i64) 3 w' w.heap.size (fun _ => True) u152001 x152001_4) ∧ Aside0 (w'.heap[gb151]? = some (.cells #[.string x152000_4, u152001] 27 (0, 0))) ∧ Aside0 (Below w.heap.size w w'))
                case atStart => exact ⟨(0), (x152000_9), (([] : List Int)), (.slice none 0 0), (by first | rfl | (simp; done) | (simp [*]; done)), H', ⟨Nat.le_refl _⟩, ⟨by (with_reducible repeat (first | apply Kd.S_alloc | apply Kd.S_drewN | apply Kd.S_drew)); exact Kd.S_mono HO_3.out (fun _ hk => ⟨(by simp [Value.ownBlock]), hk⟩)⟩, ⟨by first | exact Kd.R_nil _ _ _ _ _ | exact Kd.N_nil _ _ _ _ _ | exact Kd.V_nil _ _ _ _ _ | exact Kd.Q_nil _ _ _ _ _ | exact Kd.S_nil _ _ _ _ _⟩, ⟨by (with_reducible repeat (first | refine blk_drewN ?_ _ | refine blk_drew ?_ | refine blk_alloc ?_ _)); exact BK151.out⟩, ⟨by repeat (first | (with_reducible first | exact HB.out | apply below_alloc | apply pw_below_drewN | apply below_drew1 | refine below_set ?_ GE151.out) | exact HB.out)⟩⟩
                case round =>
                  clear H'
                  try clear c1
                  try clear p1
                  try clear q1
                  try clear hx1
                  try clear c2
                  try clear c2b0
                  try clear p2
                  try clear c6
                  try clear c6b0
                  try clear c7
                  try clear c7b0
                  try clear c7b1
                  try clear c8
                  try clear c8b0
                  try clear c8b1
                  try clear p9
                  try clear q9
                  try clear hx9
                  try clear qi9
                  try clear c11
                  try clear hcz12_0
                  try clear hcz12_1
                  try clear hcz5_0
                  try clear hcz5_1
                  try clear hfz12_0
                  try clear hfz12_1
                  try clear hfz5_0
                  try clear hfz5_1
                  try clear hx152_0
                  try clear hx152_1
                  try clear hx153_0
                  try clear hx153_1
                  try clear p1
                  try clear p152
                  try clear p153
                  try clear p2
                  try clear p9
                  try clear q1
                  try clear q152
                  try clear q153
                  try clear q9
                  obtain ⟨x6_4, x152000_4, x152001_4, u152001, rfl, HA, HK4, HO_3, HO_152001, BK151, HB⟩ := hrel
                  cases gk with
                  | zero => exact absurd HA.out (by simp [lemmalaw16_named.l1])
                  | succ k4 =>
                    have H := HA.out
                    clear HA
                    simp only [lemmalaw16_named.l1] at H
                    by_cases c13 : 0 ≤ x4_1
                    · rw [if_pos c13] at H
                      have c13b0 : decide (0 ≤ x4_1) = true := decide_eq_true c13
                      clear c13
                      by_cases c14 : x4_1 < (l0.length : Int)
                      · rw [if_pos c14] at H
                        have c14b0 : decide (x4_1 < (l0.length : Int)) = true := decide_eq_true c14
                        clear c14
                        by_cases c15 : x6_4 < (((rd_T27 l0 x4_1).f1).length : Int)
                        · rw [if_pos c15] at H
                          have c15b0 : decide (x6_4 < (((rd_T27 l0 x4_1).f1).length : Int)) = true := decide_eq_true c15
                          clear c15
                          by_cases c16 : x152000_4.size + 1 ≤ 9223372036854775807
                          · rw [if_pos c16] at H
                            have c16b0 := eq_true c16
                            have c16b1 : decide (x152000_4.size + 1 ≤ 9223372036854775807) = true := decide_eq_true c16
                            try have c16b2 : (9223372036854775807 < x152000_4.size + 1) = False := eq_false (Nat.not_lt.2 c16)
                            by_cases c17 : 0 ≤ x6_4
                            · rw [if_pos c17] at H
                              have c17b0 : decide (0 ≤ x6_4) = true := decide_eq_true c17
                              clear c17
                              have HC18 := Aside0.mk H
                              clear H
                              have p154 : 0 ≤ (x4_1 : Int) := of_decide_eq_true (by first | (with_reducible assumption) | assumption)
                              have q154 : x4_1 < (l0.length : Int) := of_decide_eq_true (by first | (with_reducible assumption) | assumption)
                              obtain ⟨ad154, A154_1, c154_1, e154, hx154_0, hx154_1, hl154_1, hi154_1⟩ := at_T27 HR0.out x4_1 p154 q154
                              cases e154
                              replace hx154_0 := (HB.out.cell (World.block_lt_of_cell? w _ hx154_0)).trans hx154_0
                              replace hx154_1 := (HB.out.cell (World.block_lt_of_cell? w _ hx154_1)).trans hx154_1
                              have HR154_1 := Aside0.mk hi154_1
                              have HC154_1 := Aside0.mk hl154_1
                              clear hi154_1 hl154_1
                              replace p154 := eq_true p154
                              replace q154 := eq_true q154
                              have hcz19_0 : wr.cell? ⟨gb151, 0, none⟩ = some (.string x152000_4) := (blk_cell BK151.out 0).trans rfl
                              have hcz19_1 : wr.cell? ⟨gb151, 1, none⟩ = some (u152001) := (blk_cell BK151.out 1).trans rfl
                              have hfz19_0 := blk_frozen BK151.out 0
                              have hfz19_1 := blk_frozen BK151.out 1
                              have p162 : 0 ≤ (x4_1 : Int) := of_decide_eq_true (by first | (with_reducible assumption) | assumption)
                              have q162 : x4_1 < (l0.length : Int) := of_decide_eq_true (by first | (with_reducible assumption) | assumption)
                              obtain ⟨ad162, A162_1, c162_1, e162, hx162_0, hx162_1, hl162_1, hi162_1⟩ := at_T27 HR0.out x4_1 p162 q162
                              obtain rfl : ad154 = ad162 := (by injection e162)
                              have hn162_0 : ad154.block ≠ gb151 := Nat.ne_of_lt (Nat.lt_of_lt_of_le (by have := World.block_lt_of_cell? _ _ hx162_0; first | rwa [add_block] at this | exact this) GW151.out)
                              replace hx162_0 := (HB.out.cell (World.block_lt_of_cell? w _ hx162_0)).trans hx162_0
                              replace hx162_1 := (HB.out.cell (World.block_lt_of_cell? w _ hx162_1)).trans hx162_1
                              have HR162_1 := Aside0.mk hi162_1
                              have HC162_1 := Aside0.mk hl162_1
                              clear hi162_1 hl162_1
                              replace hx162_0 := (cell_far (p := ⟨gb151, 0, none⟩) (by first | (rw [add_block]; exact hn162_0) | (show (Addr.add _ _).block ≠ _; rw [add_block]; exact hn162_0) | exact hn162_0) (.string (x152000_4 ++ (⟨#[105]⟩ : ByteArray)))).trans hx162_0
                              replace hx162_1 := (cell_far (p := ⟨gb151, 0, none⟩) (by first | (rw [add_block]; exact hn162_0) | (show (Addr.add _ _).block ≠ _; rw [add_block]; exact hn162_0) | exact hn162_0) (.string (x152000_4 ++ (⟨#[105]⟩ : ByteArray)))).trans hx162_1
                              (try have hy162_0 := fun (n_ : Nat) => (show (((wr.drewN n_).setCell ⟨gb151, 0, none⟩ (.string (x152000_4 ++ (⟨#[105]⟩ : ByteArray))))).cell? _ = some _ from hx162_0))
                              (try have hy162_1 := fun (n_ : Nat) => (show (((wr.drewN n_).setCell ⟨gb151, 0, none⟩ (.string (x152000_4 ++ (⟨#[105]⟩ : ByteArray))))).cell? _ = some _ from hx162_1))
                              clear hn162_0
                              replace p162 := eq_true p162
                              replace q162 := eq_true q162
                              have p163 : 0 ≤ (x6_4 : Int) := of_decide_eq_true (by first | (with_reducible assumption) | assumption)
                              have q163 : x6_4 < (((rd_T27 l0 x4_1).f1).length : Int) := of_decide_eq_true (by first | (with_reducible assumption) | assumption)
                              obtain ⟨ad163, e163, hx163_0⟩ := Kd.at_int HR162_1.out x6_4 p163 q163
                              cases e163
                              have hn163_0 : ad163.block ≠ gb151 := Nat.ne_of_lt (Nat.lt_of_lt_of_le (by have := World.block_lt_of_cell? _ _ hx163_0; first | rwa [add_block] at this | exact this) GW151.out)
                              replace hx163_0 := (HB.out.cell (World.block_lt_of_cell? w _ hx163_0)).trans hx163_0
                              replace hx163_0 := (cell_far (p := ⟨gb151, 0, none⟩) (by first | (rw [add_block]; exact hn163_0) | (show (Addr.add _ _).block ≠ _; rw [add_block]; exact hn163_0) | exact hn163_0) (.string (x152000_4 ++ (⟨#[105]⟩ : ByteArray)))).trans hx163_0
                              (try have hy163_0 := fun (n_ : Nat) => (show (((wr.drewN n_).setCell ⟨gb151, 0, none⟩ (.string (x152000_4 ++ (⟨#[105]⟩ : ByteArray))))).cell? _ = some _ from hx163_0))
                              clear hn163_0
                              replace p163 := eq_true p163
                              replace q163 := eq_true q163
                              go_upto_region 13 with (fail)
                              repeat (go_quiet (fail); go_upto_region 13 with (fail))
                              go_cut [61] (fun v61 wc => ∃ (kq : Nat) (x61_17 : Bool), v61 = .bool x61_17 ∧ Aside0 (lemmalaw16_named.j4 kq l0 x3_1 x4_1 x6_4 (rd ((rd_T27 l0 x4_1).f1) x6_4) x61_17 (x152000_4 ++ (⟨#[105]⟩ : ByteArray)) x152001_4 = some r) ∧ Aside0 (kq ≤ k4) ∧ Aside0 (Kd.S k27 27 wc w.heap.size (fun k_ => some k_ ≠ (u152001 : Value).ownBlock ∧ k_ ≠ gb151) u3 x3_1) ∧ Aside0 (Kd.R (Kd.int .i64) 3 wc w.heap.size (fun _ => True) u152001 x152001_4) ∧ Aside0 (wc.heap[gb151]? = some (.cells #[.string (x152000_4 ++ (⟨#[105]⟩ : ByteArray)), u152001] 27 (0, 0))) ∧ Aside0 (Below w.heap.size w wc))
                              case first =>
                                have H := HC18.out
                                clear HC18
                                by_cases c20 : (rd ((rd_T27 l0 x4_1).f1) x6_4) < 0
                                · rw [if_pos c20] at H
                                  have c20b0 : decide ((rd ((rd_T27 l0 x4_1).f1) x6_4) < 0) = true := decide_eq_true c20
                                  clear c20
                                  (first | rw [c20b0] | (simp only [i64_w, i32_w]; rw [c20b0]) | skip)
                                  have H' := Aside0.mk H
                                  clear H
                                  go_wp2
                                  repeat (go_quiet (fail); try go_wp2)
                                  go_meet
                                  case rel => exact ⟨_, (true), (by first | rfl | (simp; done) | (simp [*]; done)), H', ⟨by have := HK1.out; have := HJ2.out; have := HJ9.out; have := HK4.out; first | omega | exact Nat.le_refl _⟩, ⟨by (with_reducible repeat (first | apply Kd.S_alloc | apply Kd.S_drewN | apply Kd.S_drew)); exact Kd.S_mono (Kd.S_far (p := ⟨gb151, 0, none⟩) (Kd.S_mono HO_3.out (fun k_ hk => (⟨hk, hk.2⟩ : _ ∧ k_ ≠ gb151))) (fun _ hk => hk.2) (.string (x152000_4 ++ (⟨#[105]⟩ : ByteArray)))) (fun _ hk => ⟨hk.1.1, hk.1.2⟩)⟩, ⟨by (with_reducible repeat (first | apply Kd.R_alloc | apply Kd.R_drewN | apply Kd.R_drew)); exact Kd.R_mono (Kd.R_far (p := ⟨gb151, 0, none⟩) (Kd.R_types HO_152001.out BK151.out (by decide)) (fun _ hk => hk.2) (.string (x152000_4 ++ (⟨#[105]⟩ : ByteArray)))) (fun _ hk => trivial)⟩, ⟨by (with_reducible repeat (first | refine blk_drewN ?_ _ | refine blk_drew ?_ | refine blk_alloc ?_ _)); refine blk_put (cs := #[.string x152000_4, u152001]) ?_ 0 _ rfl; (with_reducible repeat (first | refine blk_drewN ?_ _ | refine blk_drew ?_ | refine blk_alloc ?_ _)); exact BK151.out⟩, ⟨by repeat (first | (with_reducible first | exact HB.out | apply below_alloc | apply pw_below_drewN | apply below_drew1 | refine below_set ?_ GE151.out) | exact HB.out)⟩⟩
                                · rw [if_neg c20] at H
                                  have c20b0 : decide ((rd ((rd_T27 l0 x4_1).f1) x6_4) < 0) = false := decide_eq_false c20
                                  clear c20
                                  (first | rw [c20b0] | (simp only [i64_w, i32_w]; rw [c20b0]) | skip)
                                  have H' := Aside0.mk H
                                  clear H
                                  go_wp2
                                  repeat (go_quiet (fail); try go_wp2)
                                  go_meet
                                  case rel => exact ⟨_, (decide ((rd ((rd_T27 l0 x4_1).f1) x6_4) ≥ x4_1)), (by first | rfl | (simp; done) | (simp [*]; done)), H', ⟨by have := HK1.out; have := HJ2.out; have := HJ9.out; have := HK4.out; first | omega | exact Nat.le_refl _⟩, ⟨by (with_reducible repeat (first | apply Kd.S_alloc | apply Kd.S_drewN | apply Kd.S_drew)); exact Kd.S_mono (Kd.S_far (p := ⟨gb151, 0, none⟩) (Kd.S_mono HO_3.out (fun k_ hk => (⟨hk, hk.2⟩ : _ ∧ k_ ≠ gb151))) (fun _ hk => hk.2) (.string (x152000_4 ++ (⟨#[105]⟩ : ByteArray)))) (fun _ hk => ⟨hk.1.1, hk.1.2⟩)⟩, ⟨by (with_reducible repeat (first | apply Kd.R_alloc | apply Kd.R_drewN | apply Kd.R_drew)); exact Kd.R_mono (Kd.R_far (p := ⟨gb151, 0, none⟩) (Kd.R_types HO_152001.out BK151.out (by decide)) (fun _ hk => hk.2) (.string (x152000_4 ++ (⟨#[105]⟩ : ByteArray)))) (fun _ hk => trivial)⟩, ⟨by (with_reducible repeat (first | refine blk_drewN ?_ _ | refine blk_drew ?_ | refine blk_alloc ?_ _)); refine blk_put (cs := #[.string x152000_4, u152001]) ?_ 0 _ rfl; (with_reducible repeat (first | refine blk_drewN ?_ _ | refine blk_drew ?_ | refine blk_alloc ?_ _)); exact BK151.out⟩, ⟨by repeat (first | (with_reducible first | exact HB.out | apply below_alloc | apply pw_below_drewN | apply below_drew1 | refine below_set ?_ GE151.out) | exact HB.out)⟩⟩
                              case rest =>
                                clear HC18
                                try clear c1
                                try clear p1
                                try clear q1
                                try clear hx1
                                try clear c2
                                try clear c2b0
                                try clear p2
                                try clear c6
                                try clear c6b0
                                try clear c7
                                try clear c7b0
                                try clear c7b1
                                try clear c8
                                try clear c8b0
                                try clear c8b1
                                try clear p9
                                try clear q9
                                try clear hx9
                                try clear qi9
                                try clear c11
                                try clear c13
                                try clear c13b0
                                try clear c14
                                try clear c14b0
                                try clear c15
                                try clear c15b0
                                try clear p15
                                try clear q15
                                try clear hx15
                                try clear c16
                                try clear c16b0
                                try clear c16b1
                                try clear c16b2
                                try clear p16
                                try clear q16
                                try clear hx16
                                try clear c17
                                try clear c17b0
                                try clear c20
                                try clear c20b0
                                try clear hcz12_0
                                try clear hcz12_1
                                try clear hcz19_0
                                try clear hcz19_1
                                try clear hcz5_0
                                try clear hcz5_1
                                try clear hfz12_0
                                try clear hfz12_1
                                try clear hfz19_0
                                try clear hfz19_1
                                try clear hfz5_0
                                try clear hfz5_1
                                try clear hx152_0
                                try clear hx152_1
                                try clear hx153_0
                                try clear hx153_1
                                try clear hx154_0
                                try clear hx154_1
                                try clear hx162_0
                                try clear hx162_1
                                try clear hx163_0
                                try clear p1
                                try clear p152
                                try clear p153
                                try clear p154
                                try clear p162
                                try clear p163
                                try clear p2
                                try clear p9
                                try clear q1
                                try clear q152
                                try clear q153
                                try clear q154
                                try clear q162
                                try clear q163
                                try clear q9
                                obtain ⟨kq, x61_17, rfl, HA, HJ17, HO_3, HO_152001, BK151, HB⟩ := hcut
                                cases kq with
                                | zero => exact absurd HA.out (by simp [lemmalaw16_named.j4])
                                | succ kj17 =>
                                  have H := HA.out
                                  clear HA
                                  simp only [lemmalaw16_named.j4] at H
                                  by_cases c21 : x61_17 = true
                                  · subst c21
                                    have H1 : (if (wrap64 (x4_1 - 1)) ≥ 0 then (if x152001_4.length < 17592186044416 then (lemmalaw16_named.l1 kj17 l0 x3_1 x4_1 (wrap64 (x6_4 + 1)) (x152000_4 ++ (⟨#[105]⟩ : ByteArray)) (x152001_4 ++ [wrap64 (x4_1 - 1)])) else (none)) else (lemmalaw16_named.l1 kj17 l0 x3_1 x4_1 (wrap64 (x6_4 + 1)) (x152000_4 ++ (⟨#[105]⟩ : ByteArray)) x152001_4)) = some r := by rw [if_pos rfl] at H; exact H
                                    clear H
                                    have H := H1
                                    clear H1
                                    by_cases c22 : (wrap64 (x4_1 - 1)) ≥ 0
                                    · rw [if_pos c22] at H
                                      have c22b0 : decide (0 ≤ (wrap64 (x4_1 - 1))) = true := decide_eq_true c22
                                      clear c22
                                      by_cases c23 : x152001_4.length < 17592186044416
                                      · rw [if_pos c23] at H
                                        have LMc23 := Aside0.mk c23
                                        clear c23
                                        obtain ⟨y164, hy164⟩ : ∃ y_ : List Int, y_ = (x152001_4 ++ [wrap64 (x4_1 - 1)]) := ⟨_, rfl⟩
                                        replace H : (lemmalaw16_named.l1 kj17 l0 x3_1 x4_1 (wrap64 (x6_4 + 1)) (x152000_4 ++ (⟨#[105]⟩ : ByteArray)) y164) = some r := by first | (rw [hy164]; with_reducible exact H) | (have H2_ := (Option.bind_some _ _).symm.trans H; rw [hy164]; with_reducible exact H2_) | (have H2_ := (Option.bind_some _ _).symm.trans H; with_reducible exact H2_) | with_reducible exact H | (rw [hy164]; exact H) | exact H
                                        have Ny164 := Aside0.mk hy164
                                        clear hy164
                                        have H' := Aside0.mk H
                                        clear H
                                        have hcz24_0 : wc.cell? ⟨gb151, 0, none⟩ = some (.string (x152000_4 ++ (⟨#[105]⟩ : ByteArray))) := (blk_cell BK151.out 0).trans rfl
                                        have hcz24_1 : wc.cell? ⟨gb151, 1, none⟩ = some (u152001) := (blk_cell BK151.out 1).trans rfl
                                        have hfz24_0 := blk_frozen BK151.out 0
                                        have hfz24_1 := blk_frozen BK151.out 1
                                        go_wp2_with (first | ((with_reducible refine gate_builtin (b := .append) (xs := #[.tmp 67, .tmp 69]) rfl ?_); at_builtin; refine Kd.R_append (Kd.int .i64) (w0 := w) w.heap.size rfl (.tmp 67) (.tmp 69) 25 3 (.int .i64 0) 8 rfl Try.underlying25 info3 rfl (by decide) (by omega) u152001 x152001_4 (wrap64 (x4_1 - 1)) [.int .i64 (wrap64 (x4_1 - 1))] (fun _ => True) (fun _ => False) rfl rfl ?aP (fun _ hk => hk.elim) ?aF ?aO ?aB ?aS ?aL ?_; (case aP => exact rfl); (case aB => exact (by repeat (first | (with_reducible first | exact HB.out | apply below_alloc | apply pw_below_drewN | apply below_drew1 | refine below_set ?_ GE151.out) | exact HB.out))); (case aF => exact (fun _ _ => trivial)); (case aO => exact (by (with_reducible repeat (first | apply Kd.R_alloc | apply Kd.R_drewN | apply Kd.R_drew)); exact HO_152001.out)); (case aS => exact (below_size (by repeat (first | (with_reducible first | exact HB.out | apply below_alloc | apply pw_below_drewN | apply below_drew1 | refine below_set ?_ GE151.out) | exact HB.out)))); (case aL => have := LMc23.out; omega); intro v165 w25 ho hb hg hat; rw [← Ny164.out] at ho; have n0_ := Aside0.mk (Kd.S_after (ok := (fun k_ => k_ ≠ gb151)) (by (with_reducible repeat (first | apply Kd.S_alloc | apply Kd.S_drewN | apply Kd.S_drew)); exact Kd.S_mono HO_3.out (fun _ hk => ⟨hk.2, hk.1⟩)) hg hat); have n1_ := Aside0.mk (blk_grown (g := gb151) (o := .cells #[.string (x152000_4 ++ (⟨#[105]⟩ : ByteArray)), u152001] 27 (0, 0)) (by (with_reducible repeat (first | refine blk_drewN ?_ _ | refine blk_drew ?_ | refine blk_alloc ?_ _)); exact BK151.out) hg (Kd.R_ne HO_152001.out BK151.out (by decide))); have n2_ := Aside0.mk (hb); have n3_ := Aside0.mk (ho); clear HO_3; clear BK151; clear HB; clear HO_152001; have HO_3 := n0_; have BK151 := n1_; have HB := n2_; have HO166 := n3_; clear n0_ n1_ n2_ n3_; clear ho hb hg hat; obtain ⟨Ao26, co26, eo26⟩ := Kd.R_slice HO166.out; subst eo26; have hcz27_0 : w25.cell? ⟨gb151, 0, none⟩ = some (.string (x152000_4 ++ (⟨#[105]⟩ : ByteArray))) := (blk_cell BK151.out 0).trans rfl; have hcz27_1 : w25.cell? ⟨gb151, 1, none⟩ = some (u152001) := (blk_cell BK151.out 1).trans rfl; have hfz27_0 := blk_frozen BK151.out 0; have hfz27_1 := blk_frozen BK151.out 1))
                                        repeat (go_quiet (first | ((with_reducible refine gate_builtin (b := .append) (xs := #[.tmp 67, .tmp 69]) rfl ?_); at_builtin; refine Kd.R_append (Kd.int .i64) (w0 := w) w.heap.size rfl (.tmp 67) (.tmp 69) 25 3 (.int .i64 0) 8 rfl Try.underlying25 info3 rfl (by decide) (by omega) u152001 x152001_4 (wrap64 (x4_1 - 1)) [.int .i64 (wrap64 (x4_1 - 1))] (fun _ => True) (fun _ => False) rfl rfl ?aP (fun _ hk => hk.elim) ?aF ?aO ?aB ?aS ?aL ?_; (case aP => exact rfl); (case aB => exact (by repeat (first | (with_reducible first | exact HB.out | apply below_alloc | apply pw_below_drewN | apply below_drew1 | refine below_set ?_ GE151.out) | exact HB.out))); (case aF => exact (fun _ _ => trivial)); (case aO => exact (by (with_reducible repeat (first | apply Kd.R_alloc | apply Kd.R_drewN | apply Kd.R_drew)); exact HO_152001.out)); (case aS => exact (below_size (by repeat (first | (with_reducible first | exact HB.out | apply below_alloc | apply pw_below_drewN | apply below_drew1 | refine below_set ?_ GE151.out) | exact HB.out)))); (case aL => have := LMc23.out; omega); intro v165 w25 ho hb hg hat; rw [← Ny164.out] at ho; have n0_ := Aside0.mk (Kd.S_after (ok := (fun k_ => k_ ≠ gb151)) (by (with_reducible repeat (first | apply Kd.S_alloc | apply Kd.S_drewN | apply Kd.S_drew)); exact Kd.S_mono HO_3.out (fun _ hk => ⟨hk.2, hk.1⟩)) hg hat); have n1_ := Aside0.mk (blk_grown (g := gb151) (o := .cells #[.string (x152000_4 ++ (⟨#[105]⟩ : ByteArray)), u152001] 27 (0, 0)) (by (with_reducible repeat (first | refine blk_drewN ?_ _ | refine blk_drew ?_ | refine blk_alloc ?_ _)); exact BK151.out) hg (Kd.R_ne HO_152001.out BK151.out (by decide))); have n2_ := Aside0.mk (hb); have n3_ := Aside0.mk (ho); clear HO_3; clear BK151; clear HB; clear HO_152001; have HO_3 := n0_; have BK151 := n1_; have HB := n2_; have HO166 := n3_; clear n0_ n1_ n2_ n3_; clear ho hb hg hat; obtain ⟨Ao26, co26, eo26⟩ := Kd.R_slice HO166.out; subst eo26; have hcz27_0 : w25.cell? ⟨gb151, 0, none⟩ = some (.string (x152000_4 ++ (⟨#[105]⟩ : ByteArray))) := (blk_cell BK151.out 0).trans rfl; have hcz27_1 : w25.cell? ⟨gb151, 1, none⟩ = some (u152001) := (blk_cell BK151.out 1).trans rfl; have hfz27_0 := blk_frozen BK151.out 0; have hfz27_1 := blk_frozen BK151.out 1)); try go_wp2_with (first | ((with_reducible refine gate_builtin (b := .append) (xs := #[.tmp 67, .tmp 69]) rfl ?_); at_builtin; refine Kd.R_append (Kd.int .i64) (w0 := w) w.heap.size rfl (.tmp 67) (.tmp 69) 25 3 (.int .i64 0) 8 rfl Try.underlying25 info3 rfl (by decide) (by omega) u152001 x152001_4 (wrap64 (x4_1 - 1)) [.int .i64 (wrap64 (x4_1 - 1))] (fun _ => True) (fun _ => False) rfl rfl ?aP (fun _ hk => hk.elim) ?aF ?aO ?aB ?aS ?aL ?_; (case aP => exact rfl); (case aB => exact (by repeat (first | (with_reducible first | exact HB.out | apply below_alloc | apply pw_below_drewN | apply below_drew1 | refine below_set ?_ GE151.out) | exact HB.out))); (case aF => exact (fun _ _ => trivial)); (case aO => exact (by (with_reducible repeat (first | apply Kd.R_alloc | apply Kd.R_drewN | apply Kd.R_drew)); exact HO_152001.out)); (case aS => exact (below_size (by repeat (first | (with_reducible first | exact HB.out | apply below_alloc | apply pw_below_drewN | apply below_drew1 | refine below_set ?_ GE151.out) | exact HB.out)))); (case aL => have := LMc23.out; omega); intro v165 w25 ho hb hg hat; rw [← Ny164.out] at ho; have n0_ := Aside0.mk (Kd.S_after (ok := (fun k_ => k_ ≠ gb151)) (by (with_reducible repeat (first | apply Kd.S_alloc | apply Kd.S_drewN | apply Kd.S_drew)); exact Kd.S_mono HO_3.out (fun _ hk => ⟨hk.2, hk.1⟩)) hg hat); have n1_ := Aside0.mk (blk_grown (g := gb151) (o := .cells #[.string (x152000_4 ++ (⟨#[105]⟩ : ByteArray)), u152001] 27 (0, 0)) (by (with_reducible repeat (first | refine blk_drewN ?_ _ | refine blk_drew ?_ | refine blk_alloc ?_ _)); exact BK151.out) hg (Kd.R_ne HO_152001.out BK151.out (by decide))); have n2_ := Aside0.mk (hb); have n3_ := Aside0.mk (ho); clear HO_3; clear BK151; clear HB; clear HO_152001; have HO_3 := n0_; have BK151 := n1_; have HB := n2_; have HO166 := n3_; clear n0_ n1_ n2_ n3_; clear ho hb hg hat; obtain ⟨Ao26, co26, eo26⟩ := Kd.R_slice HO166.out; subst eo26; have hcz27_0 : w25.cell? ⟨gb151, 0, none⟩ = some (.string (x152000_4 ++ (⟨#[105]⟩ : ByteArray))) := (blk_cell BK151.out 0).trans rfl; have hcz27_1 : w25.cell? ⟨gb151, 1, none⟩ = some (u152001) := (blk_cell BK151.out 1).trans rfl; have hfz27_0 := blk_frozen BK151.out 0; have hfz27_1 := blk_frozen BK151.out 1)))
                                        go_roundg kj17
                                        case measure => have := HK1.out; have := HJ2.out; have := HJ9.out; have := HK4.out; have := HJ17.out; omega
                                        case rel => exact ⟨(wrap64 (x6_4 + 1)), ((x152000_4 ++ (⟨#[105]⟩ : ByteArray))), (y164), (.slice Ao26 y164.length co26), (by first | rfl | (simp; done) | (simp [*]; done)), H', ⟨by have := HK1.out; have := HJ2.out; have := HJ9.out; have := HK4.out; have := HJ17.out; omega⟩, ⟨by (with_reducible repeat (first | apply Kd.S_alloc | apply Kd.S_drewN | apply Kd.S_drew)); exact Kd.S_mono (Kd.S_far (p := ⟨gb151, 1, none⟩) (Kd.S_mono HO_3.out (fun k_ hk => (⟨hk, hk.1⟩ : _ ∧ k_ ≠ gb151))) (fun _ hk => hk.2) (.slice Ao26 y164.length co26)) (fun _ hk => ⟨hk.1.2, hk.1.1⟩)⟩, ⟨by (with_reducible repeat (first | apply Kd.R_alloc | apply Kd.R_drewN | apply Kd.R_drew)); exact Kd.R_mono (Kd.R_far (p := ⟨gb151, 1, none⟩) (Kd.R_types HO166.out BK151.out (by decide)) (fun _ hk => hk.2) (.slice Ao26 y164.length co26)) (fun _ hk => trivial)⟩, ⟨by (with_reducible repeat (first | refine blk_drewN ?_ _ | refine blk_drew ?_ | refine blk_alloc ?_ _)); refine blk_put (cs := #[.string (x152000_4 ++ (⟨#[105]⟩ : ByteArray)), u152001]) ?_ 1 _ rfl; (with_reducible repeat (first | refine blk_drewN ?_ _ | refine blk_drew ?_ | refine blk_alloc ?_ _)); exact BK151.out⟩, ⟨by repeat (first | (with_reducible first | exact HB.out | apply below_alloc | apply pw_below_drewN | apply below_drew1 | refine below_set ?_ GE151.out) | exact HB.out)⟩⟩
                                      · rw [if_neg c23] at H
                                        exact absurd H (by simp)
                                    · rw [if_neg c22] at H
                                      have c22b0 : decide (0 ≤ (wrap64 (x4_1 - 1))) = false := decide_eq_false c22
                                      clear c22
                                      have H' := Aside0.mk H
                                      clear H
                                      go_wp2
                                      repeat (go_quiet (fail); try go_wp2)
                                      go_roundg kj17
                                      case measure => have := HK1.out; have := HJ2.out; have := HJ9.out; have := HK4.out; have := HJ17.out; omega
                                      case rel => exact ⟨(wrap64 (x6_4 + 1)), ((x152000_4 ++ (⟨#[105]⟩ : ByteArray))), (x152001_4), (u152001), (by first | rfl | (simp; done) | (simp [*]; done)), H', ⟨by have := HK1.out; have := HJ2.out; have := HJ9.out; have := HK4.out; have := HJ17.out; omega⟩, ⟨by (with_reducible repeat (first | apply Kd.S_alloc | apply Kd.S_drewN | apply Kd.S_drew)); exact HO_3.out⟩, ⟨by (with_reducible repeat (first | apply Kd.R_alloc | apply Kd.R_drewN | apply Kd.R_drew)); exact HO_152001.out⟩, ⟨by (with_reducible repeat (first | refine blk_drewN ?_ _ | refine blk_drew ?_ | refine blk_alloc ?_ _)); exact BK151.out⟩, ⟨by repeat (first | (with_reducible first | exact HB.out | apply below_alloc | apply pw_below_drewN | apply below_drew1 | refine below_set ?_ GE151.out) | exact HB.out)⟩⟩
                                  · replace c21 := Bool.eq_false_iff.mpr c21
                                    subst c21
                                    have H1 : (if (rd ((rd_T27 l0 x4_1).f1) x6_4) ≥ 0 then (if x152001_4.length < 17592186044416 then (lemmalaw16_named.l1 kj17 l0 x3_1 x4_1 (wrap64 (x6_4 + 1)) (x152000_4 ++ (⟨#[105]⟩ : ByteArray)) (x152001_4 ++ [(rd ((rd_T27 l0 x4_1).f1) x6_4)])) else (none)) else (lemmalaw16_named.l1 kj17 l0 x3_1 x4_1 (wrap64 (x6_4 + 1)) (x152000_4 ++ (⟨#[105]⟩ : ByteArray)) x152001_4)) = some r := by rw [if_neg (show ¬ (false = true) by decide)] at H; exact H
                                    clear H
                                    have H := H1
                                    clear H1
                                    by_cases c28 : (rd ((rd_T27 l0 x4_1).f1) x6_4) ≥ 0
                                    · rw [if_pos c28] at H
                                      have c28b0 : decide (0 ≤ (rd ((rd_T27 l0 x4_1).f1) x6_4)) = true := decide_eq_true c28
                                      clear c28
                                      by_cases c29 : x152001_4.length < 17592186044416
                                      · rw [if_pos c29] at H
                                        have LMc29 := Aside0.mk c29
                                        clear c29
                                        obtain ⟨y167, hy167⟩ : ∃ y_ : List Int, y_ = (x152001_4 ++ [(rd ((rd_T27 l0 x4_1).f1) x6_4)]) := ⟨_, rfl⟩
                                        replace H : (lemmalaw16_named.l1 kj17 l0 x3_1 x4_1 (wrap64 (x6_4 + 1)) (x152000_4 ++ (⟨#[105]⟩ : ByteArray)) y167) = some r := by first | (rw [hy167]; with_reducible exact H) | (have H2_ := (Option.bind_some _ _).symm.trans H; rw [hy167]; with_reducible exact H2_) | (have H2_ := (Option.bind_some _ _).symm.trans H; with_reducible exact H2_) | with_reducible exact H | (rw [hy167]; exact H) | exact H
                                        have Ny167 := Aside0.mk hy167
                                        clear hy167
                                        have H' := Aside0.mk H
                                        clear H
                                        have hcz30_0 : wc.cell? ⟨gb151, 0, none⟩ = some (.string (x152000_4 ++ (⟨#[105]⟩ : ByteArray))) := (blk_cell BK151.out 0).trans rfl
                                        have hcz30_1 : wc.cell? ⟨gb151, 1, none⟩ = some (u152001) := (blk_cell BK151.out 1).trans rfl
                                        have hfz30_0 := blk_frozen BK151.out 0
                                        have hfz30_1 := blk_frozen BK151.out 1
                                        go_wp2_with (first | ((with_reducible refine gate_builtin (b := .append) (xs := #[.tmp 67, .tmp 69]) rfl ?_); at_builtin; refine Kd.R_append (Kd.int .i64) (w0 := w) w.heap.size rfl (.tmp 67) (.tmp 69) 25 3 (.int .i64 0) 8 rfl Try.underlying25 info3 rfl (by decide) (by omega) u152001 x152001_4 (rd ((rd_T27 l0 x4_1).f1) x6_4) [.int .i64 (rd ((rd_T27 l0 x4_1).f1) x6_4)] (fun _ => True) (fun _ => False) rfl rfl ?aP (fun _ hk => hk.elim) ?aF ?aO ?aB ?aS ?aL ?_; (case aP => exact rfl); (case aB => exact (by repeat (first | (with_reducible first | exact HB.out | apply below_alloc | apply pw_below_drewN | apply below_drew1 | refine below_set ?_ GE151.out) | exact HB.out))); (case aF => exact (fun _ _ => trivial)); (case aO => exact (by (with_reducible repeat (first | apply Kd.R_alloc | apply Kd.R_drewN | apply Kd.R_drew)); exact HO_152001.out)); (case aS => exact (below_size (by repeat (first | (with_reducible first | exact HB.out | apply below_alloc | apply pw_below_drewN | apply below_drew1 | refine below_set ?_ GE151.out) | exact HB.out)))); (case aL => have := LMc29.out; omega); intro v168 w31 ho hb hg hat; rw [← Ny167.out] at ho; have n0_ := Aside0.mk (Kd.S_after (ok := (fun k_ => k_ ≠ gb151)) (by (with_reducible repeat (first | apply Kd.S_alloc | apply Kd.S_drewN | apply Kd.S_drew)); exact Kd.S_mono HO_3.out (fun _ hk => ⟨hk.2, hk.1⟩)) hg hat); have n1_ := Aside0.mk (blk_grown (g := gb151) (o := .cells #[.string (x152000_4 ++ (⟨#[105]⟩ : ByteArray)), u152001] 27 (0, 0)) (by (with_reducible repeat (first | refine blk_drewN ?_ _ | refine blk_drew ?_ | refine blk_alloc ?_ _)); exact BK151.out) hg (Kd.R_ne HO_152001.out BK151.out (by decide))); have n2_ := Aside0.mk (hb); have n3_ := Aside0.mk (ho); clear HO_3; clear BK151; clear HB; clear HO_152001; have HO_3 := n0_; have BK151 := n1_; have HB := n2_; have HO169 := n3_; clear n0_ n1_ n2_ n3_; clear ho hb hg hat; obtain ⟨Ao32, co32, eo32⟩ := Kd.R_slice HO169.out; subst eo32; have hcz33_0 : w31.cell? ⟨gb151, 0, none⟩ = some (.string (x152000_4 ++ (⟨#[105]⟩ : ByteArray))) := (blk_cell BK151.out 0).trans rfl; have hcz33_1 : w31.cell? ⟨gb151, 1, none⟩ = some (u152001) := (blk_cell BK151.out 1).trans rfl; have hfz33_0 := blk_frozen BK151.out 0; have hfz33_1 := blk_frozen BK151.out 1))
                                        repeat (go_quiet (first | ((with_reducible refine gate_builtin (b := .append) (xs := #[.tmp 67, .tmp 69]) rfl ?_); at_builtin; refine Kd.R_append (Kd.int .i64) (w0 := w) w.heap.size rfl (.tmp 67) (.tmp 69) 25 3 (.int .i64 0) 8 rfl Try.underlying25 info3 rfl (by decide) (by omega) u152001 x152001_4 (rd ((rd_T27 l0 x4_1).f1) x6_4) [.int .i64 (rd ((rd_T27 l0 x4_1).f1) x6_4)] (fun _ => True) (fun _ => False) rfl rfl ?aP (fun _ hk => hk.elim) ?aF ?aO ?aB ?aS ?aL ?_; (case aP => exact rfl); (case aB => exact (by repeat (first | (with_reducible first | exact HB.out | apply below_alloc | apply pw_below_drewN | apply below_drew1 | refine below_set ?_ GE151.out) | exact HB.out))); (case aF => exact (fun _ _ => trivial)); (case aO => exact (by (with_reducible repeat (first | apply Kd.R_alloc | apply Kd.R_drewN | apply Kd.R_drew)); exact HO_152001.out)); (case aS => exact (below_size (by repeat (first | (with_reducible first | exact HB.out | apply below_alloc | apply pw_below_drewN | apply below_drew1 | refine below_set ?_ GE151.out) | exact HB.out)))); (case aL => have := LMc29.out; omega); intro v168 w31 ho hb hg hat; rw [← Ny167.out] at ho; have n0_ := Aside0.mk (Kd.S_after (ok := (fun k_ => k_ ≠ gb151)) (by (with_reducible repeat (first | apply Kd.S_alloc | apply Kd.S_drewN | apply Kd.S_drew)); exact Kd.S_mono HO_3.out (fun _ hk => ⟨hk.2, hk.1⟩)) hg hat); have n1_ := Aside0.mk (blk_grown (g := gb151) (o := .cells #[.string (x152000_4 ++ (⟨#[105]⟩ : ByteArray)), u152001] 27 (0, 0)) (by (with_reducible repeat (first | refine blk_drewN ?_ _ | refine blk_drew ?_ | refine blk_alloc ?_ _)); exact BK151.out) hg (Kd.R_ne HO_152001.out BK151.out (by decide))); have n2_ := Aside0.mk (hb); have n3_ := Aside0.mk (ho); clear HO_3; clear BK151; clear HB; clear HO_152001; have HO_3 := n0_; have BK151 := n1_; have HB := n2_; have HO169 := n3_; clear n0_ n1_ n2_ n3_; clear ho hb hg hat; obtain ⟨Ao32, co32, eo32⟩ := Kd.R_slice HO169.out; subst eo32; have hcz33_0 : w31.cell? ⟨gb151, 0, none⟩ = some (.string (x152000_4 ++ (⟨#[105]⟩ : ByteArray))) := (blk_cell BK151.out 0).trans rfl; have hcz33_1 : w31.cell? ⟨gb151, 1, none⟩ = some (u152001) := (blk_cell BK151.out 1).trans rfl; have hfz33_0 := blk_frozen BK151.out 0; have hfz33_1 := blk_frozen BK151.out 1)); try go_wp2_with (first | ((with_reducible refine gate_builtin (b := .append) (xs := #[.tmp 67, .tmp 69]) rfl ?_); at_builtin; refine Kd.R_append (Kd.int .i64) (w0 := w) w.heap.size rfl (.tmp 67) (.tmp 69) 25 3 (.int .i64 0) 8 rfl Try.underlying25 info3 rfl (by decide) (by omega) u152001 x152001_4 (rd ((rd_T27 l0 x4_1).f1) x6_4) [.int .i64 (rd ((rd_T27 l0 x4_1).f1) x6_4)] (fun _ => True) (fun _ => False) rfl rfl ?aP (fun _ hk => hk.elim) ?aF ?aO ?aB ?aS ?aL ?_; (case aP => exact rfl); (case aB => exact (by repeat (first | (with_reducible first | exact HB.out | apply below_alloc | apply pw_below_drewN | apply below_drew1 | refine below_set ?_ GE151.out) | exact HB.out))); (case aF => exact (fun _ _ => trivial)); (case aO => exact (by (with_reducible repeat (first | apply Kd.R_alloc | apply Kd.R_drewN | apply Kd.R_drew)); exact HO_152001.out)); (case aS => exact (below_size (by repeat (first | (with_reducible first | exact HB.out | apply below_alloc | apply pw_below_drewN | apply below_drew1 | refine below_set ?_ GE151.out) | exact HB.out)))); (case aL => have := LMc29.out; omega); intro v168 w31 ho hb hg hat; rw [← Ny167.out] at ho; have n0_ := Aside0.mk (Kd.S_after (ok := (fun k_ => k_ ≠ gb151)) (by (with_reducible repeat (first | apply Kd.S_alloc | apply Kd.S_drewN | apply Kd.S_drew)); exact Kd.S_mono HO_3.out (fun _ hk => ⟨hk.2, hk.1⟩)) hg hat); have n1_ := Aside0.mk (blk_grown (g := gb151) (o := .cells #[.string (x152000_4 ++ (⟨#[105]⟩ : ByteArray)), u152001] 27 (0, 0)) (by (with_reducible repeat (first | refine blk_drewN ?_ _ | refine blk_drew ?_ | refine blk_alloc ?_ _)); exact BK151.out) hg (Kd.R_ne HO_152001.out BK151.out (by decide))); have n2_ := Aside0.mk (hb); have n3_ := Aside0.mk (ho); clear HO_3; clear BK151; clear HB; clear HO_152001; have HO_3 := n0_; have BK151 := n1_; have HB := n2_; have HO169 := n3_; clear n0_ n1_ n2_ n3_; clear ho hb hg hat; obtain ⟨Ao32, co32, eo32⟩ := Kd.R_slice HO169.out; subst eo32; have hcz33_0 : w31.cell? ⟨gb151, 0, none⟩ = some (.string (x152000_4 ++ (⟨#[105]⟩ : ByteArray))) := (blk_cell BK151.out 0).trans rfl; have hcz33_1 : w31.cell? ⟨gb151, 1, none⟩ = some (u152001) := (blk_cell BK151.out 1).trans rfl; have hfz33_0 := blk_frozen BK151.out 0; have hfz33_1 := blk_frozen BK151.out 1)))
                                        go_roundg kj17
                                        case measure => have := HK1.out; have := HJ2.out; have := HJ9.out; have := HK4.out; have := HJ17.out; omega
                                        case rel => exact ⟨(wrap64 (x6_4 + 1)), ((x152000_4 ++ (⟨#[105]⟩ : ByteArray))), (y167), (.slice Ao32 y167.length co32), (by first | rfl | (simp; done) | (simp [*]; done)), H', ⟨by have := HK1.out; have := HJ2.out; have := HJ9.out; have := HK4.out; have := HJ17.out; omega⟩, ⟨by (with_reducible repeat (first | apply Kd.S_alloc | apply Kd.S_drewN | apply Kd.S_drew)); exact Kd.S_mono (Kd.S_far (p := ⟨gb151, 1, none⟩) (Kd.S_mono HO_3.out (fun k_ hk => (⟨hk, hk.1⟩ : _ ∧ k_ ≠ gb151))) (fun _ hk => hk.2) (.slice Ao32 y167.length co32)) (fun _ hk => ⟨hk.1.2, hk.1.1⟩)⟩, ⟨by (with_reducible repeat (first | apply Kd.R_alloc | apply Kd.R_drewN | apply Kd.R_drew)); exact Kd.R_mono (Kd.R_far (p := ⟨gb151, 1, none⟩) (Kd.R_types HO169.out BK151.out (by decide)) (fun _ hk => hk.2) (.slice Ao32 y167.length co32)) (fun _ hk => trivial)⟩, ⟨by (with_reducible repeat (first | refine blk_drewN ?_ _ | refine blk_drew ?_ | refine blk_alloc ?_ _)); refine blk_put (cs := #[.string (x152000_4 ++ (⟨#[105]⟩ : ByteArray)), u152001]) ?_ 1 _ rfl; (with_reducible repeat (first | refine blk_drewN ?_ _ | refine blk_drew ?_ | refine blk_alloc ?_ _)); exact BK151.out⟩, ⟨by repeat (first | (with_reducible first | exact HB.out | apply below_alloc | apply pw_below_drewN | apply below_drew1 | refine below_set ?_ GE151.out) | exact HB.out)⟩⟩
                                      · rw [if_neg c29] at H
                                        exact absurd H (by simp)
                                    · rw [if_neg c28] at H
                                      have c28b0 : decide (0 ≤ (rd ((rd_T27 l0 x4_1).f1) x6_4)) = false := decide_eq_false c28
                                      clear c28
                                      have H' := Aside0.mk H
                                      clear H
                                      go_wp2
                                      repeat (go_quiet (fail); try go_wp2)
                                      go_roundg kj17
                                      case measure => have := HK1.out; have := HJ2.out; have := HJ9.out; have := HK4.out; have := HJ17.out; omega
                                      case rel => exact ⟨(wrap64 (x6_4 + 1)), ((x152000_4 ++ (⟨#[105]⟩ : ByteArray))), (x152001_4), (u152001), (by first | rfl | (simp; done) | (simp [*]; done)), H', ⟨by have := HK1.out; have := HJ2.out; have := HJ9.out; have := HK4.out; have := HJ17.out; omega⟩, ⟨by (with_reducible repeat (first | apply Kd.S_alloc | apply Kd.S_drewN | apply Kd.S_drew)); exact HO_3.out⟩, ⟨by (with_reducible repeat (first | apply Kd.R_alloc | apply Kd.R_drewN | apply Kd.R_drew)); exact HO_152001.out⟩, ⟨by (with_reducible repeat (first | refine blk_drewN ?_ _ | refine blk_drew ?_ | refine blk_alloc ?_ _)); exact BK151.out⟩, ⟨by repeat (first | (with_reducible first | exact HB.out | apply below_alloc | apply pw_below_drewN | apply below_drew1 | refine below_set ?_ GE151.out) | exact HB.out)⟩⟩
                            · rw [if_neg c17] at H
                              exact absurd H (by simp)
                          · rw [if_neg c16] at H
                            exact absurd H (by simp)
                        · rw [if_neg c15] at H
                          have c15b0 : decide (x6_4 < (((rd_T27 l0 x4_1).f1).length : Int)) = false := decide_eq_false c15
                          clear c15
                          by_cases c34 : (x152001_4.length : Int) = (((rd_T27 l0 x4_1).f1).length : Int)
                          · rw [if_pos c34] at H
                            have c34b0 : ((x152001_4.length : Int) == (((rd_T27 l0 x4_1).f1).length : Int)) = true := beq_iff_eq.mpr c34
                            have c34b1 : ((x152001_4.length : Int) != (((rd_T27 l0 x4_1).f1).length : Int)) = false := bne_eq_false_iff_eq.mpr c34
                            have c34b2 : (x152001_4.length == ((rd_T27 l0 x4_1).f1).length) = true := by first | simpa using c34 | (simp at c34 ⊢; omega)
                            clear c34
                            by_cases c35 : x3_1.length < 3518437208883
                            · rw [if_pos c35] at H
                              have LMc35 := Aside0.mk c35
                              clear c35
                              obtain ⟨y156, hy156⟩ : ∃ y_ : List (S27), y_ = (x3_1 ++ [(⟨x152000_4, x152001_4⟩ : S27)]) := ⟨_, rfl⟩
                              replace H : (lemmalaw16_named.l0 k4 l0 y156 (wrap64 (x4_1 + 1))) = some r := by first | (rw [hy156]; with_reducible exact H) | (have H2_ := (Option.bind_some _ _).symm.trans H; rw [hy156]; with_reducible exact H2_) | (have H2_ := (Option.bind_some _ _).symm.trans H; with_reducible exact H2_) | with_reducible exact H | (rw [hy156]; exact H) | exact H
                              have Ny156 := Aside0.mk hy156
                              clear hy156
                              have H' := Aside0.mk H
                              clear H
                              have p154 : 0 ≤ (x4_1 : Int) := of_decide_eq_true (by first | (with_reducible assumption) | assumption)
                              have q154 : x4_1 < (l0.length : Int) := of_decide_eq_true (by first | (with_reducible assumption) | assumption)
                              obtain ⟨ad154, A154_1, c154_1, e154, hx154_0, hx154_1, hl154_1, hi154_1⟩ := at_T27 HR0.out x4_1 p154 q154
                              cases e154
                              replace hx154_0 := (HB.out.cell (World.block_lt_of_cell? w _ hx154_0)).trans hx154_0
                              replace hx154_1 := (HB.out.cell (World.block_lt_of_cell? w _ hx154_1)).trans hx154_1
                              have HR154_1 := Aside0.mk hi154_1
                              have HC154_1 := Aside0.mk hl154_1
                              clear hi154_1 hl154_1
                              replace p154 := eq_true p154
                              replace q154 := eq_true q154
                              have hcz36_0 : wr.cell? ⟨gb151, 0, none⟩ = some (.string x152000_4) := (blk_cell BK151.out 0).trans rfl
                              have hcz36_1 : wr.cell? ⟨gb151, 1, none⟩ = some (u152001) := (blk_cell BK151.out 1).trans rfl
                              have hfz36_0 := blk_frozen BK151.out 0
                              have hfz36_1 := blk_frozen BK151.out 1
                              obtain ⟨Ao37, co37, eo37⟩ := Kd.R_slice HO_152001.out
                              subst eo37
                              have p155 : 0 ≤ (x4_1 : Int) := of_decide_eq_true (by first | (with_reducible assumption) | assumption)
                              have q155 : x4_1 < (l0.length : Int) := of_decide_eq_true (by first | (with_reducible assumption) | assumption)
                              obtain ⟨ad155, A155_1, c155_1, e155, hx155_0, hx155_1, hl155_1, hi155_1⟩ := at_T27 HR0.out x4_1 p155 q155
                              obtain rfl : ad154 = ad155 := (by injection e155)
                              replace hx155_0 := (HB.out.cell (World.block_lt_of_cell? w _ hx155_0)).trans hx155_0
                              replace hx155_1 := (HB.out.cell (World.block_lt_of_cell? w _ hx155_1)).trans hx155_1
                              have HR155_1 := Aside0.mk hi155_1
                              have HC155_1 := Aside0.mk hl155_1
                              clear hi155_1 hl155_1
                              replace p155 := eq_true p155
                              replace q155 := eq_true q155
                              have ea_ := Option.some.inj (hx154_1.symm.trans hx155_1)
                              injection ea_ with ea_ en_ ec_
                              subst ea_
                              subst ec_
                              clear en_
                              go_wp2_with (first | ((with_reducible refine gate_builtin (b := .append) (xs := #[.tmp 83, .tmp 85]) rfl ?_); at_builtin; refine Kd.S_append k27 (w0 := w) w.heap.size rfl (.tmp 83) (.tmp 85) 24 27 (.agg #[(.string ⟨#[]⟩), (.slice none 0 0)]) 40 rfl Try.underlying24 info27 rfl (by decide) (by omega) u3 x3_1 (⟨x152000_4, x152001_4⟩ : S27) [.string x152000_4, .slice Ao37 x152001_4.length co37] (fun k_ => k_ ≠ gb151) (fun k_ => some k_ = (.slice Ao37 x152001_4.length co37 : Value).ownBlock) rfl rfl ?aP (fun k_ hk_ => ((Kd.R_mono (ok' := fun k_ => ((fun k_ => k_ ≠ gb151)) k_ ∧ some k_ ≠ (u3 : Value).ownBlock) (Kd.R_types (Kd.R_apart' (HO_152001.out) (Kd.S_typed HO_3.out) (by decide)) BK151.out (by decide)) (fun k_ hk => ⟨hk.2, hk.1.2⟩))).1 k_ hk_.symm) ?aF ?aO ?aB ?aS ?aL ?_; (case aP => exact k27_mkM _ _ _ (⟨x152000_4, x152001_4⟩ : S27) (Kd.R_mono (Kd.R_tight rfl (Kd.R_mono (ok' := fun k_ => ((fun k_ => k_ ≠ gb151)) k_ ∧ some k_ ≠ (u3 : Value).ownBlock) (Kd.R_types (Kd.R_apart' (HO_152001.out) (Kd.S_typed HO_3.out) (by decide)) BK151.out (by decide)) (fun k_ hk => ⟨hk.2, hk.1.2⟩))) (fun _ h_ => h_))); (case aB => exact (by repeat (first | (with_reducible first | exact HB.out | apply below_alloc | apply pw_below_drewN | apply below_drew1 | refine below_set ?_ GE151.out) | exact HB.out))); (case aF => exact (fun k_ hk => Kd.freshB (g := gb151) (o := .cells #[.string x152000_4, .slice Ao37 x152001_4.length co37] 27 (0, 0)) (by (with_reducible repeat (first | refine blk_drewN ?_ _ | refine blk_drew ?_ | refine blk_alloc ?_ _)); exact BK151.out) k_ hk)); (case aO => exact (by (with_reducible repeat (first | apply Kd.S_alloc | apply Kd.S_drewN | apply Kd.S_drew)); exact Kd.S_mono HO_3.out (fun k_ hk => ⟨hk.2, fun e_ => hk.1 e_⟩))); (case aS => exact (below_size (by repeat (first | (with_reducible first | exact HB.out | apply below_alloc | apply pw_below_drewN | apply below_drew1 | refine below_set ?_ GE151.out) | exact HB.out)))); (case aL => have := LMc35.out; omega); intro v157 w38 ho hb hg hat; rw [← Ny156.out] at ho; have n0_ := Aside0.mk (blk_grown (g := gb151) (o := .cells #[.string x152000_4, .slice Ao37 x152001_4.length co37] 27 (0, 0)) (by (with_reducible repeat (first | refine blk_drewN ?_ _ | refine blk_drew ?_ | refine blk_alloc ?_ _)); exact BK151.out) hg (Kd.S_away HO_3.out (fun _ hk => hk.2))); have n1_ := Aside0.mk (hb); have n2_ := Aside0.mk (ho); clear BK151; clear HB; clear HO_3; clear HO_152001; have BK151 := n0_; have HB := n1_; have HO158 := n2_; clear n0_ n1_ n2_; clear ho hb hg hat))
                              repeat (go_quiet (first | ((with_reducible refine gate_builtin (b := .append) (xs := #[.tmp 83, .tmp 85]) rfl ?_); at_builtin; refine Kd.S_append k27 (w0 := w) w.heap.size rfl (.tmp 83) (.tmp 85) 24 27 (.agg #[(.string ⟨#[]⟩), (.slice none 0 0)]) 40 rfl Try.underlying24 info27 rfl (by decide) (by omega) u3 x3_1 (⟨x152000_4, x152001_4⟩ : S27) [.string x152000_4, .slice Ao37 x152001_4.length co37] (fun k_ => k_ ≠ gb151) (fun k_ => some k_ = (.slice Ao37 x152001_4.length co37 : Value).ownBlock) rfl rfl ?aP (fun k_ hk_ => ((Kd.R_mono (ok' := fun k_ => ((fun k_ => k_ ≠ gb151)) k_ ∧ some k_ ≠ (u3 : Value).ownBlock) (Kd.R_types (Kd.R_apart' (HO_152001.out) (Kd.S_typed HO_3.out) (by decide)) BK151.out (by decide)) (fun k_ hk => ⟨hk.2, hk.1.2⟩))).1 k_ hk_.symm) ?aF ?aO ?aB ?aS ?aL ?_; (case aP => exact k27_mkM _ _ _ (⟨x152000_4, x152001_4⟩ : S27) (Kd.R_mono (Kd.R_tight rfl (Kd.R_mono (ok' := fun k_ => ((fun k_ => k_ ≠ gb151)) k_ ∧ some k_ ≠ (u3 : Value).ownBlock) (Kd.R_types (Kd.R_apart' (HO_152001.out) (Kd.S_typed HO_3.out) (by decide)) BK151.out (by decide)) (fun k_ hk => ⟨hk.2, hk.1.2⟩))) (fun _ h_ => h_))); (case aB => exact (by repeat (first | (with_reducible first | exact HB.out | apply below_alloc | apply pw_below_drewN | apply below_drew1 | refine below_set ?_ GE151.out) | exact HB.out))); (case aF => exact (fun k_ hk => Kd.freshB (g := gb151) (o := .cells #[.string x152000_4, .slice Ao37 x152001_4.length co37] 27 (0, 0)) (by (with_reducible repeat (first | refine blk_drewN ?_ _ | refine blk_drew ?_ | refine blk_alloc ?_ _)); exact BK151.out) k_ hk)); (case aO => exact (by (with_reducible repeat (first | apply Kd.S_alloc | apply Kd.S_drewN | apply Kd.S_drew)); exact Kd.S_mono HO_3.out (fun k_ hk => ⟨hk.2, fun e_ => hk.1 e_⟩))); (case aS => exact (below_size (by repeat (first | (with_reducible first | exact HB.out | apply below_alloc | apply pw_below_drewN | apply below_drew1 | refine below_set ?_ GE151.out) | exact HB.out)))); (case aL => have := LMc35.out; omega); intro v157 w38 ho hb hg hat; rw [← Ny156.out] at ho; have n0_ := Aside0.mk (blk_grown (g := gb151) (o := .cells #[.string x152000_4, .slice Ao37 x152001_4.length co37] 27 (0, 0)) (by (with_reducible repeat (first | refine blk_drewN ?_ _ | refine blk_drew ?_ | refine blk_alloc ?_ _)); exact BK151.out) hg (Kd.S_away HO_3.out (fun _ hk => hk.2))); have n1_ := Aside0.mk (hb); have n2_ := Aside0.mk (ho); clear BK151; clear HB; clear HO_3; clear HO_152001; have BK151 := n0_; have HB := n1_; have HO158 := n2_; clear n0_ n1_ n2_; clear ho hb hg hat)); try go_wp2_with (first | ((with_reducible refine gate_builtin (b := .append) (xs := #[.tmp 83, .tmp 85]) rfl ?_); at_builtin; refine Kd.S_append k27 (w0 := w) w.heap.size rfl (.tmp 83) (.tmp 85) 24 27 (.agg #[(.string ⟨#[]⟩), (.slice none 0 0)]) 40 rfl Try.underlying24 info27 rfl (by decide) (by omega) u3 x3_1 (⟨x152000_4, x152001_4⟩ : S27) [.string x152000_4, .slice Ao37 x152001_4.length co37] (fun k_ => k_ ≠ gb151) (fun k_ => some k_ = (.slice Ao37 x152001_4.length co37 : Value).ownBlock) rfl rfl ?aP (fun k_ hk_ => ((Kd.R_mono (ok' := fun k_ => ((fun k_ => k_ ≠ gb151)) k_ ∧ some k_ ≠ (u3 : Value).ownBlock) (Kd.R_types (Kd.R_apart' (HO_152001.out) (Kd.S_typed HO_3.out) (by decide)) BK151.out (by decide)) (fun k_ hk => ⟨hk.2, hk.1.2⟩))).1 k_ hk_.symm) ?aF ?aO ?aB ?aS ?aL ?_; (case aP => exact k27_mkM _ _ _ (⟨x152000_4, x152001_4⟩ : S27) (Kd.R_mono (Kd.R_tight rfl (Kd.R_mono (ok' := fun k_ => ((fun k_ => k_ ≠ gb151)) k_ ∧ some k_ ≠ (u3 : Value).ownBlock) (Kd.R_types (Kd.R_apart' (HO_152001.out) (Kd.S_typed HO_3.out) (by decide)) BK151.out (by decide)) (fun k_ hk => ⟨hk.2, hk.1.2⟩))) (fun _ h_ => h_))); (case aB => exact (by repeat (first | (with_reducible first | exact HB.out | apply below_alloc | apply pw_below_drewN | apply below_drew1 | refine below_set ?_ GE151.out) | exact HB.out))); (case aF => exact (fun k_ hk => Kd.freshB (g := gb151) (o := .cells #[.string x152000_4, .slice Ao37 x152001_4.length co37] 27 (0, 0)) (by (with_reducible repeat (first | refine blk_drewN ?_ _ | refine blk_drew ?_ | refine blk_alloc ?_ _)); exact BK151.out) k_ hk)); (case aO => exact (by (with_reducible repeat (first | apply Kd.S_alloc | apply Kd.S_drewN | apply Kd.S_drew)); exact Kd.S_mono HO_3.out (fun k_ hk => ⟨hk.2, fun e_ => hk.1 e_⟩))); (case aS => exact (below_size (by repeat (first | (with_reducible first | exact HB.out | apply below_alloc | apply pw_below_drewN | apply below_drew1 | refine below_set ?_ GE151.out) | exact HB.out)))); (case aL => have := LMc35.out; omega); intro v157 w38 ho hb hg hat; rw [← Ny156.out] at ho; have n0_ := Aside0.mk (blk_grown (g := gb151) (o := .cells #[.string x152000_4, .slice Ao37 x152001_4.length co37] 27 (0, 0)) (by (with_reducible repeat (first | refine blk_drewN ?_ _ | refine blk_drew ?_ | refine blk_alloc ?_ _)); exact BK151.out) hg (Kd.S_away HO_3.out (fun _ hk => hk.2))); have n1_ := Aside0.mk (hb); have n2_ := Aside0.mk (ho); clear BK151; clear HB; clear HO_3; clear HO_152001; have BK151 := n0_; have HB := n1_; have HO158 := n2_; clear n0_ n1_ n2_; clear ho hb hg hat)))
                              go_roundg k4
                              case measure => have := HK1.out; have := HJ2.out; have := HJ9.out; have := HK4.out; omega
                              case rel => exact ⟨(y156), (wrap64 (x4_1 + 1)), (by first | rfl | (simp; done) | (simp [*]; done)), H', ⟨by have := HK1.out; have := HJ2.out; have := HJ9.out; have := HK4.out; omega⟩, ⟨by (with_reducible repeat (first | apply Kd.S_alloc | apply Kd.S_drewN | apply Kd.S_drew)); exact Kd.S_mono HO158.out (fun _ hk => trivial)⟩, ⟨by repeat (first | (with_reducible first | exact HB.out | apply below_alloc | apply pw_below_drewN | apply below_drew1 | refine below_set ?_ GE151.out) | exact HB.out)⟩⟩
                            · rw [if_neg c35] at H
                              exact absurd H (by simp)
                          · rw [if_neg c34] at H
                            have c34b0 : ((x152001_4.length : Int) == (((rd_T27 l0 x4_1).f1).length : Int)) = false := beq_eq_false_iff_ne.mpr c34
                            have c34b1 : ((x152001_4.length : Int) != (((rd_T27 l0 x4_1).f1).length : Int)) = true := bne_iff_ne.mpr c34
                            have c34b2 : (x152001_4.length == ((rd_T27 l0 x4_1).f1).length) = false := by first | simpa using c34 | (simp at c34 ⊢; omega)
                            by_cases c39 : x3_1.length < 3518437208883
                            · rw [if_pos c39] at H
                              have LMc39 := Aside0.mk c39
                              clear c39
                              obtain ⟨y159, hy159⟩ : ∃ y_ : List (S27), y_ = (x3_1 ++ [(⟨(⟨#[115]⟩ : ByteArray), ([] : List Int)⟩ : S27)]) := ⟨_, rfl⟩
                              replace H : (lemmalaw16_named.l0 k4 l0 y159 (wrap64 (x4_1 + 1))) = some r := by first | (rw [hy159]; with_reducible exact H) | (have H2_ := (Option.bind_some _ _).symm.trans H; rw [hy159]; with_reducible exact H2_) | (have H2_ := (Option.bind_some _ _).symm.trans H; with_reducible exact H2_) | with_reducible exact H | (rw [hy159]; exact H) | exact H
                              have Ny159 := Aside0.mk hy159
                              clear hy159
                              have H' := Aside0.mk H
                              clear H
                              have p154 : 0 ≤ (x4_1 : Int) := of_decide_eq_true (by first | (with_reducible assumption) | assumption)
                              have q154 : x4_1 < (l0.length : Int) := of_decide_eq_true (by first | (with_reducible assumption) | assumption)
                              obtain ⟨ad154, A154_1, c154_1, e154, hx154_0, hx154_1, hl154_1, hi154_1⟩ := at_T27 HR0.out x4_1 p154 q154
                              cases e154
                              replace hx154_0 := (HB.out.cell (World.block_lt_of_cell? w _ hx154_0)).trans hx154_0
                              replace hx154_1 := (HB.out.cell (World.block_lt_of_cell? w _ hx154_1)).trans hx154_1
                              have HR154_1 := Aside0.mk hi154_1
                              have HC154_1 := Aside0.mk hl154_1
                              clear hi154_1 hl154_1
                              replace p154 := eq_true p154
                              replace q154 := eq_true q154
                              have hcz40_0 : wr.cell? ⟨gb151, 0, none⟩ = some (.string x152000_4) := (blk_cell BK151.out 0).trans rfl
                              have hcz40_1 : wr.cell? ⟨gb151, 1, none⟩ = some (u152001) := (blk_cell BK151.out 1).trans rfl
                              have hfz40_0 := blk_frozen BK151.out 0
                              have hfz40_1 := blk_frozen BK151.out 1
                              obtain ⟨Ao41, co41, eo41⟩ := Kd.R_slice HO_152001.out
                              subst eo41
                              have p155 : 0 ≤ (x4_1 : Int) := of_decide_eq_true (by first | (with_reducible assumption) | assumption)
                              have q155 : x4_1 < (l0.length : Int) := of_decide_eq_true (by first | (with_reducible assumption) | assumption)
                              obtain ⟨ad155, A155_1, c155_1, e155, hx155_0, hx155_1, hl155_1, hi155_1⟩ := at_T27 HR0.out x4_1 p155 q155
                              obtain rfl : ad154 = ad155 := (by injection e155)
                              replace hx155_0 := (HB.out.cell (World.block_lt_of_cell? w _ hx155_0)).trans hx155_0
                              replace hx155_1 := (HB.out.cell (World.block_lt_of_cell? w _ hx155_1)).trans hx155_1
                              have HR155_1 := Aside0.mk hi155_1
                              have HC155_1 := Aside0.mk hl155_1
                              clear hi155_1 hl155_1
                              replace p155 := eq_true p155
                              replace q155 := eq_true q155
                              have ea_ := Option.some.inj (hx154_1.symm.trans hx155_1)
                              injection ea_ with ea_ en_ ec_
                              subst ea_
                              subst ec_
                              clear en_
                              go_wp2_with (first | ((with_reducible refine gate_builtin (b := .append) (xs := #[.tmp 83, .tmp 85]) rfl ?_); at_builtin; refine Kd.S_append k27 (w0 := w) w.heap.size rfl (.tmp 83) (.tmp 85) 24 27 (.agg #[(.string ⟨#[]⟩), (.slice none 0 0)]) 40 rfl Try.underlying24 info27 rfl (by decide) (by omega) u3 x3_1 (⟨(⟨#[115]⟩ : ByteArray), ([] : List Int)⟩ : S27) [.string (⟨#[115]⟩ : ByteArray), .slice none 0 0] (fun k_ => some k_ ≠ (.slice Ao41 x152001_4.length co41 : Value).ownBlock ∧ k_ ≠ gb151) (fun _ => False) rfl (by first | (go_simp; done) | (go_simp; rfl)) ?aP (fun k_ hk_ => hk_.elim) ?aF ?aO ?aB ?aS ?aL ?_; (case aP => exact k27_mkM _ _ _ (⟨(⟨#[115]⟩ : ByteArray), ([] : List Int)⟩ : S27) (Kd.R_nil _ _ _ _ _)); (case aB => exact (by repeat (first | (with_reducible first | exact HB.out | apply below_alloc | apply pw_below_drewN | apply below_drew1 | refine below_set ?_ GE151.out) | exact HB.out))); (case aF => exact (fun k_ hk => ⟨Kd.fresh' (Kd.R_lt (by (with_reducible repeat (first | apply Kd.R_alloc | apply Kd.R_drewN | apply Kd.R_drew)); exact (Kd.R_mono (Kd.R_far (p := ⟨gb151, 1, none⟩) (Kd.R_far (p := ⟨gb151, 0, none⟩) (Kd.R_types HO_152001.out BK151.out (by decide)) (fun _ hk => hk.2) (.string (⟨#[115]⟩ : ByteArray))) (fun _ hk => hk.2) (.slice none 0 0)) (fun _ h_ => h_.1)))) k_ hk, Kd.freshB (g := gb151) (o := .cells #[.string (⟨#[115]⟩ : ByteArray), .slice none 0 0] 27 (0, 0)) (by (with_reducible repeat (first | refine blk_drewN ?_ _ | refine blk_drew ?_ | refine blk_alloc ?_ _)); refine blk_put (cs := #[.string (⟨#[115]⟩ : ByteArray), .slice Ao41 x152001_4.length co41]) ?_ 1 _ rfl; (with_reducible repeat (first | refine blk_drewN ?_ _ | refine blk_drew ?_ | refine blk_alloc ?_ _)); refine blk_put (cs := #[.string x152000_4, .slice Ao41 x152001_4.length co41]) ?_ 0 _ rfl; (with_reducible repeat (first | refine blk_drewN ?_ _ | refine blk_drew ?_ | refine blk_alloc ?_ _)); exact BK151.out) k_ hk⟩)); (case aO => exact (by (with_reducible repeat (first | apply Kd.S_alloc | apply Kd.S_drewN | apply Kd.S_drew)); exact Kd.S_mono (Kd.S_far (p := ⟨gb151, 1, none⟩) (Kd.S_far (p := ⟨gb151, 0, none⟩) (Kd.S_mono HO_3.out (fun k_ hk => (⟨hk, hk.2⟩ : _ ∧ k_ ≠ gb151))) (fun _ hk => hk.2) (.string (⟨#[115]⟩ : ByteArray))) (fun _ hk => hk.2) (.slice none 0 0)) (fun k_ hk => ⟨⟨hk.1.1, hk.1.2⟩, fun e_ => e_⟩))); (case aS => exact (below_size (by repeat (first | (with_reducible first | exact HB.out | apply below_alloc | apply pw_below_drewN | apply below_drew1 | refine below_set ?_ GE151.out) | exact HB.out)))); (case aL => have := LMc39.out; omega); intro v160 w42 ho hb hg hat; rw [← Ny159.out] at ho; have n0_ := Aside0.mk (Kd.R_over' (by (with_reducible repeat (first | apply Kd.R_alloc | apply Kd.R_drewN | apply Kd.R_drew)); exact (Kd.R_mono (Kd.R_far (p := ⟨gb151, 1, none⟩) (Kd.R_far (p := ⟨gb151, 0, none⟩) (Kd.R_types HO_152001.out BK151.out (by decide)) (fun _ hk => hk.2) (.string (⟨#[115]⟩ : ByteArray))) (fun _ hk => hk.2) (.slice none 0 0)) (fun _ h_ => h_.1))) (Kd.S_typed (by (with_reducible repeat (first | apply Kd.S_alloc | apply Kd.S_drewN | apply Kd.S_drew)); exact (Kd.S_mono (Kd.S_far (p := ⟨gb151, 1, none⟩) (Kd.S_far (p := ⟨gb151, 0, none⟩) (Kd.S_mono HO_3.out (fun k_ hk => (⟨hk, hk.2⟩ : _ ∧ k_ ≠ gb151))) (fun _ hk => hk.2) (.string (⟨#[115]⟩ : ByteArray))) (fun _ hk => hk.2) (.slice none 0 0)) (fun _ h_ => h_.1)))) (by decide) hg); have n1_ := Aside0.mk (blk_grown (g := gb151) (o := .cells #[.string (⟨#[115]⟩ : ByteArray), .slice none 0 0] 27 (0, 0)) (by (with_reducible repeat (first | refine blk_drewN ?_ _ | refine blk_drew ?_ | refine blk_alloc ?_ _)); refine blk_put (cs := #[.string (⟨#[115]⟩ : ByteArray), .slice Ao41 x152001_4.length co41]) ?_ 1 _ rfl; (with_reducible repeat (first | refine blk_drewN ?_ _ | refine blk_drew ?_ | refine blk_alloc ?_ _)); refine blk_put (cs := #[.string x152000_4, .slice Ao41 x152001_4.length co41]) ?_ 0 _ rfl; (with_reducible repeat (first | refine blk_drewN ?_ _ | refine blk_drew ?_ | refine blk_alloc ?_ _)); exact BK151.out) hg (Kd.S_away HO_3.out (fun _ hk => hk.2))); have n2_ := Aside0.mk (hb); have n3_ := Aside0.mk (ho); clear HO_152001; clear BK151; clear HB; clear HO_3; have HO_152001 := n0_; have BK151 := n1_; have HB := n2_; have HO161 := n3_; clear n0_ n1_ n2_ n3_; clear ho hb hg hat))
                              repeat (go_quiet (first | ((with_reducible refine gate_builtin (b := .append) (xs := #[.tmp 83, .tmp 85]) rfl ?_); at_builtin; refine Kd.S_append k27 (w0 := w) w.heap.size rfl (.tmp 83) (.tmp 85) 24 27 (.agg #[(.string ⟨#[]⟩), (.slice none 0 0)]) 40 rfl Try.underlying24 info27 rfl (by decide) (by omega) u3 x3_1 (⟨(⟨#[115]⟩ : ByteArray), ([] : List Int)⟩ : S27) [.string (⟨#[115]⟩ : ByteArray), .slice none 0 0] (fun k_ => some k_ ≠ (.slice Ao41 x152001_4.length co41 : Value).ownBlock ∧ k_ ≠ gb151) (fun _ => False) rfl (by first | (go_simp; done) | (go_simp; rfl)) ?aP (fun k_ hk_ => hk_.elim) ?aF ?aO ?aB ?aS ?aL ?_; (case aP => exact k27_mkM _ _ _ (⟨(⟨#[115]⟩ : ByteArray), ([] : List Int)⟩ : S27) (Kd.R_nil _ _ _ _ _)); (case aB => exact (by repeat (first | (with_reducible first | exact HB.out | apply below_alloc | apply pw_below_drewN | apply below_drew1 | refine below_set ?_ GE151.out) | exact HB.out))); (case aF => exact (fun k_ hk => ⟨Kd.fresh' (Kd.R_lt (by (with_reducible repeat (first | apply Kd.R_alloc | apply Kd.R_drewN | apply Kd.R_drew)); exact (Kd.R_mono (Kd.R_far (p := ⟨gb151, 1, none⟩) (Kd.R_far (p := ⟨gb151, 0, none⟩) (Kd.R_types HO_152001.out BK151.out (by decide)) (fun _ hk => hk.2) (.string (⟨#[115]⟩ : ByteArray))) (fun _ hk => hk.2) (.slice none 0 0)) (fun _ h_ => h_.1)))) k_ hk, Kd.freshB (g := gb151) (o := .cells #[.string (⟨#[115]⟩ : ByteArray), .slice none 0 0] 27 (0, 0)) (by (with_reducible repeat (first | refine blk_drewN ?_ _ | refine blk_drew ?_ | refine blk_alloc ?_ _)); refine blk_put (cs := #[.string (⟨#[115]⟩ : ByteArray), .slice Ao41 x152001_4.length co41]) ?_ 1 _ rfl; (with_reducible repeat (first | refine blk_drewN ?_ _ | refine blk_drew ?_ | refine blk_alloc ?_ _)); refine blk_put (cs := #[.string x152000_4, .slice Ao41 x152001_4.length co41]) ?_ 0 _ rfl; (with_reducible repeat (first | refine blk_drewN ?_ _ | refine blk_drew ?_ | refine blk_alloc ?_ _)); exact BK151.out) k_ hk⟩)); (case aO => exact (by (with_reducible repeat (first | apply Kd.S_alloc | apply Kd.S_drewN | apply Kd.S_drew)); exact Kd.S_mono (Kd.S_far (p := ⟨gb151, 1, none⟩) (Kd.S_far (p := ⟨gb151, 0, none⟩) (Kd.S_mono HO_3.out (fun k_ hk => (⟨hk, hk.2⟩ : _ ∧ k_ ≠ gb151))) (fun _ hk => hk.2) (.string (⟨#[115]⟩ : ByteArray))) (fun _ hk => hk.2) (.slice none 0 0)) (fun k_ hk => ⟨⟨hk.1.1, hk.1.2⟩, fun e_ => e_⟩))); (case aS => exact (below_size (by repeat (first | (with_reducible first | exact HB.out | apply below_alloc | apply pw_below_drewN | apply below_drew1 | refine below_set ?_ GE151.out) | exact HB.out)))); (case aL => have := LMc39.out; omega); intro v160 w42 ho hb hg hat; rw [← Ny159.out] at ho; have n0_ := Aside0.mk (Kd.R_over' (by (with_reducible repeat (first | apply Kd.R_alloc | apply Kd.R_drewN | apply Kd.R_drew)); exact (Kd.R_mono (Kd.R_far (p := ⟨gb151, 1, none⟩) (Kd.R_far (p := ⟨gb151, 0, none⟩) (Kd.R_types HO_152001.out BK151.out (by decide)) (fun _ hk => hk.2) (.string (⟨#[115]⟩ : ByteArray))) (fun _ hk => hk.2) (.slice none 0 0)) (fun _ h_ => h_.1))) (Kd.S_typed (by (with_reducible repeat (first | apply Kd.S_alloc | apply Kd.S_drewN | apply Kd.S_drew)); exact (Kd.S_mono (Kd.S_far (p := ⟨gb151, 1, none⟩) (Kd.S_far (p := ⟨gb151, 0, none⟩) (Kd.S_mono HO_3.out (fun k_ hk => (⟨hk, hk.2⟩ : _ ∧ k_ ≠ gb151))) (fun _ hk => hk.2) (.string (⟨#[115]⟩ : ByteArray))) (fun _ hk => hk.2) (.slice none 0 0)) (fun _ h_ => h_.1)))) (by decide) hg); have n1_ := Aside0.mk (blk_grown (g := gb151) (o := .cells #[.string (⟨#[115]⟩ : ByteArray), .slice none 0 0] 27 (0, 0)) (by (with_reducible repeat (first | refine blk_drewN ?_ _ | refine blk_drew ?_ | refine blk_alloc ?_ _)); refine blk_put (cs := #[.string (⟨#[115]⟩ : ByteArray), .slice Ao41 x152001_4.length co41]) ?_ 1 _ rfl; (with_reducible repeat (first | refine blk_drewN ?_ _ | refine blk_drew ?_ | refine blk_alloc ?_ _)); refine blk_put (cs := #[.string x152000_4, .slice Ao41 x152001_4.length co41]) ?_ 0 _ rfl; (with_reducible repeat (first | refine blk_drewN ?_ _ | refine blk_drew ?_ | refine blk_alloc ?_ _)); exact BK151.out) hg (Kd.S_away HO_3.out (fun _ hk => hk.2))); have n2_ := Aside0.mk (hb); have n3_ := Aside0.mk (ho); clear HO_152001; clear BK151; clear HB; clear HO_3; have HO_152001 := n0_; have BK151 := n1_; have HB := n2_; have HO161 := n3_; clear n0_ n1_ n2_ n3_; clear ho hb hg hat)); try go_wp2_with (first | ((with_reducible refine gate_builtin (b := .append) (xs := #[.tmp 83, .tmp 85]) rfl ?_); at_builtin; refine Kd.S_append k27 (w0 := w) w.heap.size rfl (.tmp 83) (.tmp 85) 24 27 (.agg #[(.string ⟨#[]⟩), (.slice none 0 0)]) 40 rfl Try.underlying24 info27 rfl (by decide) (by omega) u3 x3_1 (⟨(⟨#[115]⟩ : ByteArray), ([] : List Int)⟩ : S27) [.string (⟨#[115]⟩ : ByteArray), .slice none 0 0] (fun k_ => some k_ ≠ (.slice Ao41 x152001_4.length co41 : Value).ownBlock ∧ k_ ≠ gb151) (fun _ => False) rfl (by first | (go_simp; done) | (go_simp; rfl)) ?aP (fun k_ hk_ => hk_.elim) ?aF ?aO ?aB ?aS ?aL ?_; (case aP => exact k27_mkM _ _ _ (⟨(⟨#[115]⟩ : ByteArray), ([] : List Int)⟩ : S27) (Kd.R_nil _ _ _ _ _)); (case aB => exact (by repeat (first | (with_reducible first | exact HB.out | apply below_alloc | apply pw_below_drewN | apply below_drew1 | refine below_set ?_ GE151.out) | exact HB.out))); (case aF => exact (fun k_ hk => ⟨Kd.fresh' (Kd.R_lt (by (with_reducible repeat (first | apply Kd.R_alloc | apply Kd.R_drewN | apply Kd.R_drew)); exact (Kd.R_mono (Kd.R_far (p := ⟨gb151, 1, none⟩) (Kd.R_far (p := ⟨gb151, 0, none⟩) (Kd.R_types HO_152001.out BK151.out (by decide)) (fun _ hk => hk.2) (.string (⟨#[115]⟩ : ByteArray))) (fun _ hk => hk.2) (.slice none 0 0)) (fun _ h_ => h_.1)))) k_ hk, Kd.freshB (g := gb151) (o := .cells #[.string (⟨#[115]⟩ : ByteArray), .slice none 0 0] 27 (0, 0)) (by (with_reducible repeat (first | refine blk_drewN ?_ _ | refine blk_drew ?_ | refine blk_alloc ?_ _)); refine blk_put (cs := #[.string (⟨#[115]⟩ : ByteArray), .slice Ao41 x152001_4.length co41]) ?_ 1 _ rfl; (with_reducible repeat (first | refine blk_drewN ?_ _ | refine blk_drew ?_ | refine blk_alloc ?_ _)); refine blk_put (cs := #[.string x152000_4, .slice Ao41 x152001_4.length co41]) ?_ 0 _ rfl; (with_reducible repeat (first | refine blk_drewN ?_ _ | refine blk_drew ?_ | refine blk_alloc ?_ _)); exact BK151.out) k_ hk⟩)); (case aO => exact (by (with_reducible repeat (first | apply Kd.S_alloc | apply Kd.S_drewN | apply Kd.S_drew)); exact Kd.S_mono (Kd.S_far (p := ⟨gb151, 1, none⟩) (Kd.S_far (p := ⟨gb151, 0, none⟩) (Kd.S_mono HO_3.out (fun k_ hk => (⟨hk, hk.2⟩ : _ ∧ k_ ≠ gb151))) (fun _ hk => hk.2) (.string (⟨#[115]⟩ : ByteArray))) (fun _ hk => hk.2) (.slice none 0 0)) (fun k_ hk => ⟨⟨hk.1.1, hk.1.2⟩, fun e_ => e_⟩))); (case aS => exact (below_size (by repeat (first | (with_reducible first | exact HB.out | apply below_alloc | apply pw_below_drewN | apply below_drew1 | refine below_set ?_ GE151.out) | exact HB.out)))); (case aL => have := LMc39.out; omega); intro v160 w42 ho hb hg hat; rw [← Ny159.out] at ho; have n0_ := Aside0.mk (Kd.R_over' (by (with_reducible repeat (first | apply Kd.R_alloc | apply Kd.R_drewN | apply Kd.R_drew)); exact (Kd.R_mono (Kd.R_far (p := ⟨gb151, 1, none⟩) (Kd.R_far (p := ⟨gb151, 0, none⟩) (Kd.R_types HO_152001.out BK151.out (by decide)) (fun _ hk => hk.2) (.string (⟨#[115]⟩ : ByteArray))) (fun _ hk => hk.2) (.slice none 0 0)) (fun _ h_ => h_.1))) (Kd.S_typed (by (with_reducible repeat (first | apply Kd.S_alloc | apply Kd.S_drewN | apply Kd.S_drew)); exact (Kd.S_mono (Kd.S_far (p := ⟨gb151, 1, none⟩) (Kd.S_far (p := ⟨gb151, 0, none⟩) (Kd.S_mono HO_3.out (fun k_ hk => (⟨hk, hk.2⟩ : _ ∧ k_ ≠ gb151))) (fun _ hk => hk.2) (.string (⟨#[115]⟩ : ByteArray))) (fun _ hk => hk.2) (.slice none 0 0)) (fun _ h_ => h_.1)))) (by decide) hg); have n1_ := Aside0.mk (blk_grown (g := gb151) (o := .cells #[.string (⟨#[115]⟩ : ByteArray), .slice none 0 0] 27 (0, 0)) (by (with_reducible repeat (first | refine blk_drewN ?_ _ | refine blk_drew ?_ | refine blk_alloc ?_ _)); refine blk_put (cs := #[.string (⟨#[115]⟩ : ByteArray), .slice Ao41 x152001_4.length co41]) ?_ 1 _ rfl; (with_reducible repeat (first | refine blk_drewN ?_ _ | refine blk_drew ?_ | refine blk_alloc ?_ _)); refine blk_put (cs := #[.string x152000_4, .slice Ao41 x152001_4.length co41]) ?_ 0 _ rfl; (with_reducible repeat (first | refine blk_drewN ?_ _ | refine blk_drew ?_ | refine blk_alloc ?_ _)); exact BK151.out) hg (Kd.S_away HO_3.out (fun _ hk => hk.2))); have n2_ := Aside0.mk (hb); have n3_ := Aside0.mk (ho); clear HO_152001; clear BK151; clear HB; clear HO_3; have HO_152001 := n0_; have BK151 := n1_; have HB := n2_; have HO161 := n3_; clear n0_ n1_ n2_ n3_; clear ho hb hg hat)))
                              go_roundg k4
                              case measure => have := HK1.out; have := HJ2.out; have := HJ9.out; have := HK4.out; omega
                              case rel => exact ⟨(y159), (wrap64 (x4_1 + 1)), (by first | rfl | (simp; done) | (simp [*]; done)), H', ⟨by have := HK1.out; have := HJ2.out; have := HJ9.out; have := HK4.out; omega⟩, ⟨by (with_reducible repeat (first | apply Kd.S_alloc | apply Kd.S_drewN | apply Kd.S_drew)); exact Kd.S_mono HO161.out (fun _ hk => trivial)⟩, ⟨by repeat (first | (with_reducible first | exact HB.out | apply below_alloc | apply pw_below_drewN | apply below_drew1 | refine below_set ?_ GE151.out) | exact HB.out)⟩⟩
                            · rw [if_neg c39] at H
                              exact absurd H (by simp)
                      · rw [if_neg c14] at H
                        exact absurd H (by simp)
                    · rw [if_neg c13] at H
                      exact absurd H (by simp)
      · rw [if_neg c2] at H
        have c2b0 : decide (x4_1 < (l0.length : Int)) = false := decide_eq_false c2
        clear c2
        obtain rfl := Option.some.inj H
        go_wp2
        repeat (go_quiet (fail); try go_wp2)
        go_ret
        exact ⟨_, by first | rfl | (simp [errW_none, errW_some] <;> rfl) | (simp [*, errW_none, errW_some] <;> rfl), by (with_reducible repeat (first | apply Kd.S_alloc | apply Kd.S_drewN | apply Kd.S_drew)); exact HO_3.out, by repeat (first | (with_reducible first | exact HB.out | apply below_alloc | apply pw_below_drewN | apply below_drew1) | exact HB.out)⟩

end Go.Proofs.Ytkonloadedbpkaa.PFoldLossless
