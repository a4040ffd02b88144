-- PRINTED BY print.sh 35421559b90ae4d0a3588c463048766b98c2df88dd9212a6774a882060cdf62d: not written by this session
import Derived.Test.YtpoojimmponklaaDoorPExprKeepsx0
namespace Go.Proofs.YtpoojimmponklaaDoor.PExprKeeps
open Go.RowKit Go.Proofs.YtpoojimmponklaaDoorW.PrintWords Go.Proofs.YtpoojimmponklaaDoorW.PrintLast Go.Proofs.YtpoojimmponklaaDoorW.PrintMore
attribute [local go_sem] max2_int min2_int max_two min_two max_three min_three max_four min_four   -- for this text's walks alone
set_option linter.unusedVariables false
set_option linter.unusedSimpArgs false

/-! ### lemmalaw03_Handed_stands: function 52 -/
def lemmalaw03_Handed_stands.l0 : Nat → Int → Int → List Int → List Int → Int → Option (Bool)
  | 0, _, _, _, _, _ => none
  | k + 1, x3, x4, x163000, x163001, x163002 => if x4 < x3 then (if 0 ≤ x4 then (if x4 < (x163000.length : Int) then (if (rd x163000 x4) = x163002 then (if x4 < (x163001.length : Int) then (if (rd x163001 x4) = x163002 then (lemmalaw03_Handed_stands.l0 k x3 (wrap64 (x4 + 1)) x163000 x163001 x163002) else (some false)) else (none)) else (some false)) else (none)) else (none)) else (if (x163001.length : Int) = (wrap64 (x3 + 2)) then (if 0 ≤ x3 then (if x3 < (x163001.length : Int) then (if (rd x163001 x3) = (wrap64 (x163002 + 1)) then (if 0 ≤ (wrap64 (x3 + 1)) then (if (wrap64 (x3 + 1)) < (x163001.length : Int) then (some ((rd x163001 (wrap64 (x3 + 1))) == (wrap64 (x163002 + 2)))) else (none)) else (none)) else (some false)) else (none)) else (none)) else (some false))
def lemmalaw03_Handed_stands.f (k : Nat) (l0_0 : List Int) (l0_1 : List Int) (a0_2 : Int) : Option (Bool) := lemmalaw03_Handed_stands.l0 k (l0_0.length : Int) 0 l0_0 l0_1 a0_2
theorem lemmalaw03_Handed_stands.mono_l : ∀ k, (∀ y0 y1 y2 y3 y4, LeO (lemmalaw03_Handed_stands.l0 k y0 y1 y2 y3 y4) (lemmalaw03_Handed_stands.l0 (k + 1) y0 y1 y2 y3 y4))
  | 0 => fun _ _ _ _ _ r h => by simp [lemmalaw03_Handed_stands.l0] at h
  | k + 1 => by
    have ih0 := lemmalaw03_Handed_stands.mono_l k
    · intro y0 y1 y2 y3 y4
      unfold lemmalaw03_Handed_stands.l0
      repeat' first
      | (with_reducible exact ih0 _ _ _ _ _)
      | (with_reducible exact LeO.refl _)
      | (with_reducible exact LeO.none _)
      | (with_reducible refine LeO.ite ?_ ?_)
      | (with_reducible refine LeO.bind ?_ (fun _ => ?_))
      | exact ih0 _ _ _ _ _
      | exact LeO.none _
      | refine LeO.ite ?_ ?_
      | refine LeO.bind ?_ (fun _ => ?_)
theorem lemmalaw03_Handed_stands.mono : ∀ a0 a1 a2 k, LeO (lemmalaw03_Handed_stands.f k a0 a1 a2) (lemmalaw03_Handed_stands.f (k + 1) a0 a1 a2) := by
  intro a0 a1 a2 k
  have ih0 := lemmalaw03_Handed_stands.mono_l k
  unfold lemmalaw03_Handed_stands.f
  repeat' first
      | (with_reducible exact ih0 _ _ _ _ _)
      | (with_reducible exact LeO.refl _)
      | (with_reducible exact LeO.none _)
      | (with_reducible refine LeO.ite ?_ ?_)
      | (with_reducible refine LeO.bind ?_ (fun _ => ?_))
      | exact ih0 _ _ _ _ _
      | exact LeO.none _
      | refine LeO.ite ?_ ?_
      | refine LeO.bind ?_ (fun _ => ?_)
set_option maxHeartbeats 8000000 in
set_option maxRecDepth 100000 in
theorem lemmalaw03_Handed_stands.calls (k : Nat) (A0_0 : Option Addr) (c0_0 : Nat) (l0_0 : List Int) (A0_1 : Option Addr) (c0_1 : Nat) (l0_1 : List Int) (a0_2 : Int) (r : Bool) (w : World) (hr0_0 : Kd.C (Kd.int .i64) w A0_0 l0_0.length l0_0) (hc0_0 : l0_0.length ≤ c0_0) (hr0_1 : Kd.C (Kd.int .i64) w A0_1 l0_1.length l0_1) (hc0_1 : l0_1.length ≤ c0_1) (h : lemmalaw03_Handed_stands.f k l0_0 l0_1 a0_2 = some r) :
    Calls Tryd.prog 52 #[.agg #[.slice A0_0 l0_0.length c0_0, .slice A0_1 l0_1.length c0_1, .int .i64 a0_2]] w fun e w' => e = .returned (.bool r) ∧ Below w.heap.size w w' := by
  have hu65 := Tryd.underlying65
  have HR0_0 := Aside0.mk hr0_0
  have HC0_0 := Aside0.mk hc0_0
  clear hr0_0 hc0_0
  have HR0_1 := Aside0.mk hr0_1
  have HC0_1 := Aside0.mk hc0_1
  clear hr0_1 hc0_1
  have HB := Aside0.mk (Below.refl w.heap.size w)
  have H : (lemmalaw03_Handed_stands.l0 k (l0_0.length : Int) 0 l0_0 l0_1 a0_2) = some r := h
  clear h
  have H' := Aside0.mk H
  clear H
  go_enter Tryd.func52, Tryd.ntmps52
  go_wp2_with (first | ((with_reducible refine gate_dst (N := 1) rfl ?_); refine box_event ?hg (N := 1) ?hd (cs := #[.slice A0_0 l0_0.length c0_0, .slice A0_1 l0_1.length c0_1, .int .i64 a0_2]) (t := 65) ?hr ?_; (case hd => rfl); (case hg => rfl); (case hr => first | (go_simp; done) | (go_simp; rfl)); intro gb162 hg w2 hbox hb; have n0_ := Aside0.mk (below_step (by repeat (first | (with_reducible first | exact HB.out | apply below_alloc | apply pw_below_drewN | apply below_drew1) | exact HB.out)) hb); have n1_ := Aside0.mk (hbox); have n2_ := Aside0.mk ((by rw [hg]; exact (below_size (by repeat (first | (with_reducible first | exact HB.out | apply below_alloc | apply pw_below_drewN | apply below_drew1) | exact HB.out))) : w.heap.size ≤ gb162)); have n3_ := Aside0.mk ((by rw [hg]; exact (below_size (by repeat (first | (with_reducible first | exact HB.out | apply below_alloc | apply pw_below_drewN | apply below_drew1) | exact HB.out))) : w.heap.size ≤ gb162)); clear HB; have HB := n0_; have BK162 := n1_; have GW162 := n2_; have GE162 := n3_; clear n0_ n1_ n2_ n3_; clear hb hbox hg; have hcz3_0 : w2.cell? ⟨gb162, 0, none⟩ = some (.slice A0_0 l0_0.length c0_0) := (blk_cell BK162.out 0).trans rfl; have hcz3_1 : w2.cell? ⟨gb162, 1, none⟩ = some (.slice A0_1 l0_1.length c0_1) := (blk_cell BK162.out 1).trans rfl; have hcz3_2 : w2.cell? ⟨gb162, 2, none⟩ = some (.int .i64 a0_2) := (blk_cell BK162.out 2).trans rfl; have hfz3_0 := blk_frozen BK162.out 0; have hfz3_1 := blk_frozen BK162.out 1; have hfz3_2 := blk_frozen BK162.out 2))
  repeat (go_quiet (first | ((with_reducible refine gate_dst (N := 1) rfl ?_); refine box_event ?hg (N := 1) ?hd (cs := #[.slice A0_0 l0_0.length c0_0, .slice A0_1 l0_1.length c0_1, .int .i64 a0_2]) (t := 65) ?hr ?_; (case hd => rfl); (case hg => rfl); (case hr => first | (go_simp; done) | (go_simp; rfl)); intro gb162 hg w2 hbox hb; have n0_ := Aside0.mk (below_step (by repeat (first | (with_reducible first | exact HB.out | apply below_alloc | apply pw_below_drewN | apply below_drew1) | exact HB.out)) hb); have n1_ := Aside0.mk (hbox); have n2_ := Aside0.mk ((by rw [hg]; exact (below_size (by repeat (first | (with_reducible first | exact HB.out | apply below_alloc | apply pw_below_drewN | apply below_drew1) | exact HB.out))) : w.heap.size ≤ gb162)); have n3_ := Aside0.mk ((by rw [hg]; exact (below_size (by repeat (first | (with_reducible first | exact HB.out | apply below_alloc | apply pw_below_drewN | apply below_drew1) | exact HB.out))) : w.heap.size ≤ gb162)); clear HB; have HB := n0_; have BK162 := n1_; have GW162 := n2_; have GE162 := n3_; clear n0_ n1_ n2_ n3_; clear hb hbox hg; have hcz3_0 : w2.cell? ⟨gb162, 0, none⟩ = some (.slice A0_0 l0_0.length c0_0) := (blk_cell BK162.out 0).trans rfl; have hcz3_1 : w2.cell? ⟨gb162, 1, none⟩ = some (.slice A0_1 l0_1.length c0_1) := (blk_cell BK162.out 1).trans rfl; have hcz3_2 : w2.cell? ⟨gb162, 2, none⟩ = some (.int .i64 a0_2) := (blk_cell BK162.out 2).trans rfl; have hfz3_0 := blk_frozen BK162.out 0; have hfz3_1 := blk_frozen BK162.out 1; have hfz3_2 := blk_frozen BK162.out 2)); try go_wp2_with (first | ((with_reducible refine gate_dst (N := 1) rfl ?_); refine box_event ?hg (N := 1) ?hd (cs := #[.slice A0_0 l0_0.length c0_0, .slice A0_1 l0_1.length c0_1, .int .i64 a0_2]) (t := 65) ?hr ?_; (case hd => rfl); (case hg => rfl); (case hr => first | (go_simp; done) | (go_simp; rfl)); intro gb162 hg w2 hbox hb; have n0_ := Aside0.mk (below_step (by repeat (first | (with_reducible first | exact HB.out | apply below_alloc | apply pw_below_drewN | apply below_drew1) | exact HB.out)) hb); have n1_ := Aside0.mk (hbox); have n2_ := Aside0.mk ((by rw [hg]; exact (below_size (by repeat (first | (with_reducible first | exact HB.out | apply below_alloc | apply pw_below_drewN | apply below_drew1) | exact HB.out))) : w.heap.size ≤ gb162)); have n3_ := Aside0.mk ((by rw [hg]; exact (below_size (by repeat (first | (with_reducible first | exact HB.out | apply below_alloc | apply pw_below_drewN | apply below_drew1) | exact HB.out))) : w.heap.size ≤ gb162)); clear HB; have HB := n0_; have BK162 := n1_; have GW162 := n2_; have GE162 := n3_; clear n0_ n1_ n2_ n3_; clear hb hbox hg; have hcz3_0 : w2.cell? ⟨gb162, 0, none⟩ = some (.slice A0_0 l0_0.length c0_0) := (blk_cell BK162.out 0).trans rfl; have hcz3_1 : w2.cell? ⟨gb162, 1, none⟩ = some (.slice A0_1 l0_1.length c0_1) := (blk_cell BK162.out 1).trans rfl; have hcz3_2 : w2.cell? ⟨gb162, 2, none⟩ = some (.int .i64 a0_2) := (blk_cell BK162.out 2).trans rfl; have hfz3_0 := blk_frozen BK162.out 0; have hfz3_1 := blk_frozen BK162.out 1; have hfz3_2 := blk_frozen BK162.out 2)))
  go_loopg [4] k (fun kq v4 w' => ∃ (x4_1 : Int), v4 = .int .i64 x4_1 ∧ Aside0 (lemmalaw03_Handed_stands.l0 kq (l0_0.length : Int) x4_1 l0_0 l0_1 a0_2 = some r) ∧ Aside0 (kq ≤ k) ∧ Aside0 (w'.heap[gb162]? = some (.cells #[(.slice A0_0 l0_0.length c0_0), (.slice A0_1 l0_1.length c0_1), .int .i64 a0_2] 65 (0, 0))) ∧ Aside0 (Below w.heap.size w w'))
  case atStart => exact ⟨(0), (by first | rfl | (simp; done) | (simp [*]; done)), H', ⟨Nat.le_refl _⟩, ⟨by (with_reducible repeat (first | refine blk_drewN ?_ _ | refine blk_drew ?_ | refine blk_alloc ?_ _)); exact BK162.out⟩, ⟨by repeat (first | (with_reducible first | exact HB.out | apply below_alloc | apply pw_below_drewN | apply below_drew1 | refine below_set ?_ GE162.out) | exact HB.out)⟩⟩
  case round =>
    clear H'
    try clear p2
    try clear hcz3_0
    try clear hcz3_1
    try clear hcz3_2
    try clear hfz3_0
    try clear hfz3_1
    try clear hfz3_2
    obtain ⟨x4_1, rfl, HA, HK1, BK162, HB⟩ := hrel
    cases gk with
    | zero => exact absurd HA.out (by simp [lemmalaw03_Handed_stands.l0])
    | succ k1 =>
      have H := HA.out
      clear HA
      simp only [lemmalaw03_Handed_stands.l0] at H
      by_cases c4 : x4_1 < (l0_0.length : Int)
      · rw [if_pos c4] at H
        have c4b0 : decide (x4_1 < (l0_0.length : Int)) = true := decide_eq_true c4
        clear c4
        by_cases c5 : 0 ≤ x4_1
        · rw [if_pos c5] at H
          have c5b0 : decide (0 ≤ x4_1) = true := decide_eq_true c5
          clear c5
          by_cases c6 : x4_1 < (l0_0.length : Int)
          · rw [if_pos c6] at H
            have c6b0 : decide (x4_1 < (l0_0.length : Int)) = true := decide_eq_true c6
            clear c6
            by_cases c7 : (rd l0_0 x4_1) = a0_2
            · rw [if_pos c7] at H
              have c7b0 : ((rd l0_0 x4_1) == a0_2) = true := beq_iff_eq.mpr c7
              have c7b1 : ((rd l0_0 x4_1) != a0_2) = false := bne_eq_false_iff_eq.mpr c7
              clear c7
              by_cases c8 : x4_1 < (l0_1.length : Int)
              · rw [if_pos c8] at H
                have c8b0 : decide (x4_1 < (l0_1.length : Int)) = true := decide_eq_true c8
                clear c8
                by_cases c9 : (rd l0_1 x4_1) = a0_2
                · rw [if_pos c9] at H
                  have c9b0 : ((rd l0_1 x4_1) == a0_2) = true := beq_iff_eq.mpr c9
                  have c9b1 : ((rd l0_1 x4_1) != a0_2) = false := bne_eq_false_iff_eq.mpr c9
                  clear c9
                  have H' := Aside0.mk H
                  clear H
                  have hcz10_0 : wr.cell? ⟨gb162, 0, none⟩ = some (.slice A0_0 l0_0.length c0_0) := (blk_cell BK162.out 0).trans rfl
                  have hcz10_1 : wr.cell? ⟨gb162, 1, none⟩ = some (.slice A0_1 l0_1.length c0_1) := (blk_cell BK162.out 1).trans rfl
                  have hcz10_2 : wr.cell? ⟨gb162, 2, none⟩ = some (.int .i64 a0_2) := (blk_cell BK162.out 2).trans rfl
                  have hfz10_0 := blk_frozen BK162.out 0
                  have hfz10_1 := blk_frozen BK162.out 1
                  have hfz10_2 := blk_frozen BK162.out 2
                  have p163 : 0 ≤ (x4_1 : Int) := of_decide_eq_true (by first | (with_reducible assumption) | assumption)
                  have q163 : x4_1 < (l0_0.length : Int) := of_decide_eq_true (by first | (with_reducible assumption) | assumption)
                  obtain ⟨ad163, e163, hx163_0⟩ := Kd.at_int HR0_0.out x4_1 p163 q163
                  cases e163
                  replace hx163_0 := (HB.out.cell (World.block_lt_of_cell? w _ hx163_0)).trans hx163_0
                  replace p163 := eq_true p163
                  replace q163 := eq_true q163
                  have p164 : 0 ≤ (x4_1 : Int) := of_decide_eq_true (by first | (with_reducible assumption) | assumption)
                  have q164 : x4_1 < (l0_1.length : Int) := of_decide_eq_true (by first | (with_reducible assumption) | assumption)
                  obtain ⟨ad164, e164, hx164_0⟩ := Kd.at_int HR0_1.out x4_1 p164 q164
                  cases e164
                  replace hx164_0 := (HB.out.cell (World.block_lt_of_cell? w _ hx164_0)).trans hx164_0
                  replace p164 := eq_true p164
                  replace q164 := eq_true q164
                  go_wp2
                  repeat (go_quiet (fail); try go_wp2)
                  go_roundg k1
                  case measure => have := HK1.out; omega
                  case rel => exact ⟨(wrap64 (x4_1 + 1)), (by first | rfl | (simp; done) | (simp [*]; done)), H', ⟨by have := HK1.out; omega⟩, ⟨by (with_reducible repeat (first | refine blk_drewN ?_ _ | refine blk_drew ?_ | refine blk_alloc ?_ _)); exact BK162.out⟩, ⟨by repeat (first | (with_reducible first | exact HB.out | apply below_alloc | apply pw_below_drewN | apply below_drew1 | refine below_set ?_ GE162.out) | exact HB.out)⟩⟩
                · rw [if_neg c9] at H
                  have c9b0 : ((rd l0_1 x4_1) == a0_2) = false := beq_eq_false_iff_ne.mpr c9
                  have c9b1 : ((rd l0_1 x4_1) != a0_2) = true := bne_iff_ne.mpr c9
                  obtain rfl := Option.some.inj H
                  have hcz11_0 : wr.cell? ⟨gb162, 0, none⟩ = some (.slice A0_0 l0_0.length c0_0) := (blk_cell BK162.out 0).trans rfl
                  have hcz11_1 : wr.cell? ⟨gb162, 1, none⟩ = some (.slice A0_1 l0_1.length c0_1) := (blk_cell BK162.out 1).trans rfl
                  have hcz11_2 : wr.cell? ⟨gb162, 2, none⟩ = some (.int .i64 a0_2) := (blk_cell BK162.out 2).trans rfl
                  have hfz11_0 := blk_frozen BK162.out 0
                  have hfz11_1 := blk_frozen BK162.out 1
                  have hfz11_2 := blk_frozen BK162.out 2
                  have p163 : 0 ≤ (x4_1 : Int) := of_decide_eq_true (by first | (with_reducible assumption) | assumption)
                  have q163 : x4_1 < (l0_0.length : Int) := of_decide_eq_true (by first | (with_reducible assumption) | assumption)
                  obtain ⟨ad163, e163, hx163_0⟩ := Kd.at_int HR0_0.out x4_1 p163 q163
                  cases e163
                  replace hx163_0 := (HB.out.cell (World.block_lt_of_cell? w _ hx163_0)).trans hx163_0
                  replace p163 := eq_true p163
                  replace q163 := eq_true q163
                  have p164 : 0 ≤ (x4_1 : Int) := of_decide_eq_true (by first | (with_reducible assumption) | assumption)
                  have q164 : x4_1 < (l0_1.length : Int) := of_decide_eq_true (by first | (with_reducible assumption) | assumption)
                  obtain ⟨ad164, e164, hx164_0⟩ := Kd.at_int HR0_1.out x4_1 p164 q164
                  cases e164
                  replace hx164_0 := (HB.out.cell (World.block_lt_of_cell? w _ hx164_0)).trans hx164_0
                  replace p164 := eq_true p164
                  replace q164 := eq_true q164
                  go_wp2
                  repeat (go_quiet (fail); try go_wp2)
                  go_ret
                  exact ⟨by first | rfl | (simp [errW_none, errW_some] <;> rfl) | (simp [*, errW_none, errW_some] <;> rfl), by repeat (first | (with_reducible first | exact HB.out | apply below_alloc | apply pw_below_drewN | apply below_drew1 | refine below_set ?_ GE162.out) | exact HB.out)⟩
              · rw [if_neg c8] at H
                exact absurd H (by simp)
            · rw [if_neg c7] at H
              have c7b0 : ((rd l0_0 x4_1) == a0_2) = false := beq_eq_false_iff_ne.mpr c7
              have c7b1 : ((rd l0_0 x4_1) != a0_2) = true := bne_iff_ne.mpr c7
              obtain rfl := Option.some.inj H
              have hcz12_0 : wr.cell? ⟨gb162, 0, none⟩ = some (.slice A0_0 l0_0.length c0_0) := (blk_cell BK162.out 0).trans rfl
              have hcz12_1 : wr.cell? ⟨gb162, 1, none⟩ = some (.slice A0_1 l0_1.length c0_1) := (blk_cell BK162.out 1).trans rfl
              have hcz12_2 : wr.cell? ⟨gb162, 2, none⟩ = some (.int .i64 a0_2) := (blk_cell BK162.out 2).trans rfl
              have hfz12_0 := blk_frozen BK162.out 0
              have hfz12_1 := blk_frozen BK162.out 1
              have hfz12_2 := blk_frozen BK162.out 2
              have p163 : 0 ≤ (x4_1 : Int) := of_decide_eq_true (by first | (with_reducible assumption) | assumption)
              have q163 : x4_1 < (l0_0.length : Int) := of_decide_eq_true (by first | (with_reducible assumption) | assumption)
              obtain ⟨ad163, e163, hx163_0⟩ := Kd.at_int HR0_0.out x4_1 p163 q163
              cases e163
              replace hx163_0 := (HB.out.cell (World.block_lt_of_cell? w _ hx163_0)).trans hx163_0
              replace p163 := eq_true p163
              replace q163 := eq_true q163
              go_wp2
              repeat (go_quiet (fail); try go_wp2)
              go_ret
              exact ⟨by first | rfl | (simp [errW_none, errW_some] <;> rfl) | (simp [*, errW_none, errW_some] <;> rfl), by repeat (first | (with_reducible first | exact HB.out | apply below_alloc | apply pw_below_drewN | apply below_drew1 | refine below_set ?_ GE162.out) | exact HB.out)⟩
          · rw [if_neg c6] at H
            exact absurd H (by simp)
        · rw [if_neg c5] at H
          exact absurd H (by simp)
      · rw [if_neg c4] at H
        have c4b0 : decide (x4_1 < (l0_0.length : Int)) = false := decide_eq_false c4
        clear c4
        by_cases c13 : (l0_1.length : Int) = (wrap64 ((l0_0.length : Int) + 2))
        · rw [if_pos c13] at H
          have c13b0 : ((l0_1.length : Int) == (wrap64 ((l0_0.length : Int) + 2))) = true := beq_iff_eq.mpr c13
          have c13b1 : ((l0_1.length : Int) != (wrap64 ((l0_0.length : Int) + 2))) = false := bne_eq_false_iff_eq.mpr c13
          clear c13
          by_cases c14 : 0 ≤ (l0_0.length : Int)
          · rw [if_pos c14] at H
            have c14b0 : decide (0 ≤ (l0_0.length : Int)) = true := decide_eq_true c14
            have c14b1 : decide (0 ≤ l0_0.length) = true := decide_eq_true (by omega)
            clear c14
            by_cases c15 : (l0_0.length : Int) < (l0_1.length : Int)
            · rw [if_pos c15] at H
              have c15b0 : decide ((l0_0.length : Int) < (l0_1.length : Int)) = true := decide_eq_true c15
              have c15b1 : decide (l0_0.length < l0_1.length) = true := decide_eq_true (Int.ofNat_lt.mp c15)
              clear c15
              by_cases c16 : (rd l0_1 (l0_0.length : Int)) = (wrap64 (a0_2 + 1))
              · rw [if_pos c16] at H
                have c16b0 : ((rd l0_1 (l0_0.length : Int)) == (wrap64 (a0_2 + 1))) = true := beq_iff_eq.mpr c16
                have c16b1 : ((rd l0_1 (l0_0.length : Int)) != (wrap64 (a0_2 + 1))) = false := bne_eq_false_iff_eq.mpr c16
                clear c16
                obtain ⟨ji17, hji17⟩ : ∃ j_ : Int, (wrap64 ((l0_0.length : Int) + 1)) = j_ := ⟨_, rfl⟩
                replace H : (if 0 ≤ (ji17) then (if (ji17) < (l0_1.length : Int) then (some ((rd l0_1 (ji17)) == (wrap64 (a0_2 + 2)))) else (none)) else (none)) = some r := by first | (rw [hji17] at H; exact H) | (simp only [hji17] at H ⊢; exact H)
                have hji17w : (IntKind.i64.wrap ((l0_0.length : Int) + 1)) = ji17 := (i64_w _).trans hji17
                by_cases c18 : 0 ≤ (ji17)
                · rw [if_pos c18] at H
                  have c18b0 : decide (0 ≤ (ji17)) = true := decide_eq_true c18
                  clear c18
                  by_cases c19 : (ji17) < (l0_1.length : Int)
                  · rw [if_pos c19] at H
                    have c19b0 : decide ((ji17) < (l0_1.length : Int)) = true := decide_eq_true c19
                    clear c19
                    obtain rfl := Option.some.inj H
                    have hcz20_0 : wr.cell? ⟨gb162, 0, none⟩ = some (.slice A0_0 l0_0.length c0_0) := (blk_cell BK162.out 0).trans rfl
                    have hcz20_1 : wr.cell? ⟨gb162, 1, none⟩ = some (.slice A0_1 l0_1.length c0_1) := (blk_cell BK162.out 1).trans rfl
                    have hcz20_2 : wr.cell? ⟨gb162, 2, none⟩ = some (.int .i64 a0_2) := (blk_cell BK162.out 2).trans rfl
                    have hfz20_0 := blk_frozen BK162.out 0
                    have hfz20_1 := blk_frozen BK162.out 1
                    have hfz20_2 := blk_frozen BK162.out 2
                    have p165 : 0 ≤ ((l0_0.length : Int) : Int) := of_decide_eq_true (by first | (with_reducible assumption) | assumption)
                    have q165 : (l0_0.length : Int) < (l0_1.length : Int) := of_decide_eq_true (by first | (with_reducible assumption) | assumption)
                    obtain ⟨ad165, e165, hx165_0⟩ := Kd.at_int HR0_1.out (l0_0.length : Int) p165 q165
                    cases e165
                    replace hx165_0 := (HB.out.cell (World.block_lt_of_cell? w _ hx165_0)).trans hx165_0
                    (try simp only [Go.IntWalk.toNatUp] at hx165_0)
                    replace p165 := eq_true p165
                    replace q165 := eq_true q165
                    have p166 : 0 ≤ ((ji17) : Int) := of_decide_eq_true (by first | (with_reducible assumption) | assumption)
                    have q166 : (ji17) < (l0_1.length : Int) := of_decide_eq_true (by first | (with_reducible assumption) | assumption)
                    obtain ⟨ad166, e166, hx166_0⟩ := Kd.at_int HR0_1.out (ji17) p166 q166
                    obtain rfl : ad165 = ad166 := (by injection e166)
                    replace hx166_0 := (HB.out.cell (World.block_lt_of_cell? w _ hx166_0)).trans hx166_0
                    replace p166 := eq_true p166
                    replace q166 := eq_true q166
                    go_wp2
                    repeat (go_quiet (fail); try go_wp2)
                    go_ret
                    exact ⟨by first | rfl | (simp [errW_none, errW_some] <;> rfl) | (simp only [← hji17]; first | rfl | (simp [errW_none, errW_some] <;> rfl)) | (simp [*, errW_none, errW_some] <;> rfl), by repeat (first | (with_reducible first | exact HB.out | apply below_alloc | apply pw_below_drewN | apply below_drew1 | refine below_set ?_ GE162.out) | exact HB.out)⟩
                  · rw [if_neg c19] at H
                    exact absurd H (by simp)
                · rw [if_neg c18] at H
                  exact absurd H (by simp)
              · rw [if_neg c16] at H
                have c16b0 : ((rd l0_1 (l0_0.length : Int)) == (wrap64 (a0_2 + 1))) = false := beq_eq_false_iff_ne.mpr c16
                have c16b1 : ((rd l0_1 (l0_0.length : Int)) != (wrap64 (a0_2 + 1))) = true := bne_iff_ne.mpr c16
                obtain rfl := Option.some.inj H
                have hcz21_0 : wr.cell? ⟨gb162, 0, none⟩ = some (.slice A0_0 l0_0.length c0_0) := (blk_cell BK162.out 0).trans rfl
                have hcz21_1 : wr.cell? ⟨gb162, 1, none⟩ = some (.slice A0_1 l0_1.length c0_1) := (blk_cell BK162.out 1).trans rfl
                have hcz21_2 : wr.cell? ⟨gb162, 2, none⟩ = some (.int .i64 a0_2) := (blk_cell BK162.out 2).trans rfl
                have hfz21_0 := blk_frozen BK162.out 0
                have hfz21_1 := blk_frozen BK162.out 1
                have hfz21_2 := blk_frozen BK162.out 2
                have p165 : 0 ≤ ((l0_0.length : Int) : Int) := of_decide_eq_true (by first | (with_reducible assumption) | assumption)
                have q165 : (l0_0.length : Int) < (l0_1.length : Int) := of_decide_eq_true (by first | (with_reducible assumption) | assumption)
                obtain ⟨ad165, e165, hx165_0⟩ := Kd.at_int HR0_1.out (l0_0.length : Int) p165 q165
                cases e165
                replace hx165_0 := (HB.out.cell (World.block_lt_of_cell? w _ hx165_0)).trans hx165_0
                (try simp only [Go.IntWalk.toNatUp] at hx165_0)
                replace p165 := eq_true p165
                replace q165 := eq_true q165
                go_wp2
                repeat (go_quiet (fail); try go_wp2)
                go_ret
                exact ⟨by first | rfl | (simp [errW_none, errW_some] <;> rfl) | (simp [*, errW_none, errW_some] <;> rfl), by repeat (first | (with_reducible first | exact HB.out | apply below_alloc | apply pw_below_drewN | apply below_drew1 | refine below_set ?_ GE162.out) | exact HB.out)⟩
            · rw [if_neg c15] at H
              exact absurd H (by simp)
          · rw [if_neg c14] at H
            exact absurd H (by simp)
        · rw [if_neg c13] at H
          have c13b0 : ((l0_1.length : Int) == (wrap64 ((l0_0.length : Int) + 2))) = false := beq_eq_false_iff_ne.mpr c13
          have c13b1 : ((l0_1.length : Int) != (wrap64 ((l0_0.length : Int) + 2))) = true := bne_iff_ne.mpr c13
          obtain rfl := Option.some.inj H
          have hcz22_0 : wr.cell? ⟨gb162, 0, none⟩ = some (.slice A0_0 l0_0.length c0_0) := (blk_cell BK162.out 0).trans rfl
          have hcz22_1 : wr.cell? ⟨gb162, 1, none⟩ = some (.slice A0_1 l0_1.length c0_1) := (blk_cell BK162.out 1).trans rfl
          have hcz22_2 : wr.cell? ⟨gb162, 2, none⟩ = some (.int .i64 a0_2) := (blk_cell BK162.out 2).trans rfl
          have hfz22_0 := blk_frozen BK162.out 0
          have hfz22_1 := blk_frozen BK162.out 1
          have hfz22_2 := blk_frozen BK162.out 2
          go_wp2
          repeat (go_quiet (fail); try go_wp2)
          go_ret
          exact ⟨by first | rfl | (simp [errW_none, errW_some] <;> rfl) | (simp [*, errW_none, errW_some] <;> rfl), by repeat (first | (with_reducible first | exact HB.out | apply below_alloc | apply pw_below_drewN | apply below_drew1 | refine below_set ?_ GE162.out) | exact HB.out)⟩

-- NOT PRINTED: function 10 (lemmalaw03_ExprKeeps)

end Go.Proofs.YtpoojimmponklaaDoor.PExprKeeps
