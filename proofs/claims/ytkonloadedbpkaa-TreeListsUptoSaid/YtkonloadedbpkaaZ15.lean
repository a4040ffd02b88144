/- NoneF, NoneT. -/
import Derived.Test.YtkonloadedbpkaaPTreeListsx0
import Derived.Test.YtkonloadedbpkaaZ14
namespace Go.Proofs.Ytkonloadedbpkaa.PTreeLists
open Go.RowKit Go.Proofs.YtkonloadedbpkaaW.PrintWords Go.Proofs.YtkonloadedbpkaaW.PrintLast Go.Proofs.YtkonloadedbpkaaW.PrintMore
attribute [local go_sem] max2_int min2_int max_two min_two max_three min_three max_four min_four   -- for this text's walks alone
set_option linter.unusedVariables false
set_option linter.unusedSimpArgs false

/-! ### tree_none: function 46 -/
mutual
def tree_none.l0 : Nat → List (S27) → List (S27) → Int → Int → Option (Bool)
  | 0, _, _, _, _ => none
  | k + 1, x0, x7, x8, x9 => if x9 < x8 then (if 0 ≤ x9 then (if x9 < (x7.length : Int) then (tree_none.l1 k x0 x9 x7 x8 x9 ((rd_T27 x7 x9).f1) (((rd_T27 x7 x9).f1).length : Int) 0) else (none)) else (none)) else (some ((x0.length : Int) == 0))
def tree_none.l1 : Nat → List (S27) → Int → List (S27) → Int → Int → List Int → Int → Int → Option (Bool)
  | 0, _, _, _, _, _, _, _, _ => none
  | k + 1, x0, x3, x7, x8, x9, x15, x16, x17 => if x17 < x16 then (if 0 ≤ x17 then (if x17 < (x15.length : Int) then (if (rd x15 x17) < 0 then (some true) else (if (rd x15 x17) ≥ x3 then (some true) else (tree_none.l1 k x0 x3 x7 x8 x9 x15 x16 (wrap64 (x17 + 1))))) else (none)) else (none)) else (tree_none.l0 k x0 x7 x8 (wrap64 (x9 + 1)))
end
def tree_none.f (k : Nat) (l0 : List (S27)) : Option (Bool) := tree_none.l0 k l0 l0 (l0.length : Int) 0
theorem tree_none.mono_l : ∀ k, (∀ y0 y1 y2 y3, LeO (tree_none.l0 k y0 y1 y2 y3) (tree_none.l0 (k + 1) y0 y1 y2 y3)) ∧ (∀ y0 y1 y2 y3 y4 y5 y6 y7, LeO (tree_none.l1 k y0 y1 y2 y3 y4 y5 y6 y7) (tree_none.l1 (k + 1) y0 y1 y2 y3 y4 y5 y6 y7))
  | 0 => ⟨fun _ _ _ _ r h => by simp [tree_none.l0] at h, fun _ _ _ _ _ _ _ _ r h => by simp [tree_none.l1] at h⟩
  | k + 1 => by
    obtain ⟨ih0, ih1⟩ := tree_none.mono_l k
    refine ⟨?_, ?_⟩
    · intro y0 y1 y2 y3
      unfold tree_none.l0
      repeat' first
      | (with_reducible exact ih0 _ _ _ _)
      | (with_reducible exact ih1 _ _ _ _ _ _ _ _)
      | (with_reducible exact LeO.refl _)
      | (with_reducible exact LeO.none _)
      | (with_reducible refine LeO.ite ?_ ?_)
      | (with_reducible refine LeO.bind ?_ (fun _ => ?_))
      | exact ih0 _ _ _ _
      | exact ih1 _ _ _ _ _ _ _ _
      | exact LeO.none _
      | refine LeO.ite ?_ ?_
      | refine LeO.bind ?_ (fun _ => ?_)
    · intro y0 y1 y2 y3 y4 y5 y6 y7
      unfold tree_none.l1
      repeat' first
      | (with_reducible exact ih0 _ _ _ _)
      | (with_reducible exact ih1 _ _ _ _ _ _ _ _)
      | (with_reducible exact LeO.refl _)
      | (with_reducible exact LeO.none _)
      | (with_reducible refine LeO.ite ?_ ?_)
      | (with_reducible refine LeO.bind ?_ (fun _ => ?_))
      | exact ih0 _ _ _ _
      | exact ih1 _ _ _ _ _ _ _ _
      | exact LeO.none _
      | refine LeO.ite ?_ ?_
      | refine LeO.bind ?_ (fun _ => ?_)
theorem tree_none.mono : ∀ a0 k, LeO (tree_none.f k a0) (tree_none.f (k + 1) a0) := by
  intro a0 k
  obtain ⟨ih0, ih1⟩ := tree_none.mono_l k
  unfold tree_none.f
  repeat' first
      | (with_reducible exact ih0 _ _ _ _)
      | (with_reducible exact ih1 _ _ _ _ _ _ _ _)
      | (with_reducible exact LeO.refl _)
      | (with_reducible exact LeO.none _)
      | (with_reducible refine LeO.ite ?_ ?_)
      | (with_reducible refine LeO.bind ?_ (fun _ => ?_))
      | exact ih0 _ _ _ _
      | exact ih1 _ _ _ _ _ _ _ _
      | exact LeO.none _
      | refine LeO.ite ?_ ?_
      | refine LeO.bind ?_ (fun _ => ?_)
set_option maxHeartbeats 8000000 in
set_option maxRecDepth 100000 in
theorem tree_none.calls (k : Nat) (A0 : Option Addr) (c0 : Nat) (l0 : List (S27)) (r : Bool) (w : World) (hr0 : Kd.C k27 w A0 l0.length l0) (hc0 : l0.length ≤ c0) (h : tree_none.f k l0 = some r) :
    Calls Try.prog 46 #[.slice A0 l0.length c0] w fun e w' => e = .returned (.bool r) ∧ Below w.heap.size w w' := by
  have hu27 := Try.underlying27
  have HR0 := Aside0.mk hr0
  have HC0 := Aside0.mk hc0
  clear hr0 hc0
  have HB := Aside0.mk (Below.refl w.heap.size w)
  have H : (tree_none.l0 k l0 l0 (l0.length : Int) 0) = some r := h
  clear h
  have H' := Aside0.mk H
  clear H
  go_enter Try.func46, Try.ntmps46
  go_wp2
  go_loopg [9] k (fun kq v9 w' => ∃ (x9_1 : Int), v9 = .int .i64 x9_1 ∧ Aside0 (tree_none.l0 kq l0 l0 (l0.length : Int) x9_1 = some r) ∧ Aside0 (kq ≤ k) ∧ Aside0 (Below w.heap.size w w'))
  case atStart => exact ⟨(0), (by first | rfl | (simp; done) | (simp [*]; done)), H', ⟨Nat.le_refl _⟩, ⟨by repeat (first | (with_reducible first | exact HB.out | apply below_alloc | apply pw_below_drewN | apply below_drew1) | exact HB.out)⟩⟩
  case round =>
    clear H'
    obtain ⟨x9_1, rfl, HA, HK1, HB⟩ := hrel
    cases gk with
    | zero => exact absurd HA.out (by simp [tree_none.l0])
    | succ k1 =>
      have H := HA.out
      clear HA
      simp only [tree_none.l0] at H
      by_cases c2 : x9_1 < (l0.length : Int)
      · rw [if_pos c2] at H
        have c2b0 : decide (x9_1 < (l0.length : Int)) = true := decide_eq_true c2
        clear c2
        by_cases c3 : 0 ≤ x9_1
        · rw [if_pos c3] at H
          have c3b0 : decide (0 ≤ x9_1) = true := decide_eq_true c3
          clear c3
          by_cases c4 : x9_1 < (l0.length : Int)
          · rw [if_pos c4] at H
            have c4b0 : decide (x9_1 < (l0.length : Int)) = true := decide_eq_true c4
            clear c4
            have H' := Aside0.mk H
            clear H
            have p186 : 0 ≤ (x9_1 : Int) := of_decide_eq_true (by first | (with_reducible assumption) | assumption)
            have q186 : x9_1 < (l0.length : Int) := of_decide_eq_true (by first | (with_reducible assumption) | assumption)
            obtain ⟨ad186, A186_1, c186_1, e186, hx186_0, hx186_1, hl186_1, hi186_1⟩ := at_T27 HR0.out x9_1 p186 q186
            cases e186
            replace hx186_0 := (HB.out.cell (World.block_lt_of_cell? w _ hx186_0)).trans hx186_0
            replace hx186_1 := (HB.out.cell (World.block_lt_of_cell? w _ hx186_1)).trans hx186_1
            have HR186_1 := Aside0.mk hi186_1
            have HC186_1 := Aside0.mk hl186_1
            clear hi186_1 hl186_1
            replace p186 := eq_true p186
            replace q186 := eq_true q186
            go_wp2_with (first | ((with_reducible refine gate_dst (N := 4) rfl ?_); refine box_event ?hg (N := 4) ?hd (cs := #[.string (⟨#[]⟩ : ByteArray), .slice none 0 0]) (t := 27) ?hr ?_; (case hd => rfl); (case hg => rfl); (case hr => first | (go_simp; done) | (go_simp; rfl)); intro gb187 hg w5 hbox hb; have n0_ := Aside0.mk (below_step (by repeat (first | (with_reducible first | exact HB.out | apply below_alloc | apply pw_below_drewN | apply below_drew1) | exact HB.out)) hb); have n1_ := Aside0.mk (hbox); have n2_ := Aside0.mk ((by rw [hg]; exact (below_size (by repeat (first | (with_reducible first | exact HB.out | apply below_alloc | apply pw_below_drewN | apply below_drew1) | exact HB.out))) : w.heap.size ≤ gb187)); have n3_ := Aside0.mk ((by rw [hg]; exact (below_size (by repeat (first | (with_reducible first | exact HB.out | apply below_alloc | apply pw_below_drewN | apply below_drew1) | exact HB.out))) : w.heap.size ≤ gb187)); clear HB; have HB := n0_; have BK187 := n1_; have GW187 := n2_; have GE187 := n3_; clear n0_ n1_ n2_ n3_; clear hb hbox hg; have hcz6_0 : w5.cell? ⟨gb187, 0, none⟩ = some (.string (⟨#[]⟩ : ByteArray)) := (blk_cell BK187.out 0).trans rfl; have hcz6_1 : w5.cell? ⟨gb187, 1, none⟩ = some (.slice none 0 0) := (blk_cell BK187.out 1).trans rfl; have hfz6_0 := blk_frozen BK187.out 0; have hfz6_1 := blk_frozen BK187.out 1))
            go_loopg [17] k1 (fun kq v17 w' => ∃ (x17_2 : Int), v17 = .int .i64 x17_2 ∧ Aside0 (tree_none.l1 kq l0 x9_1 l0 (l0.length : Int) x9_1 ((rd_T27 l0 x9_1).f1) (((rd_T27 l0 x9_1).f1).length : Int) x17_2 = some r) ∧ Aside0 (kq ≤ k1) ∧ Aside0 (w'.heap[gb187]? = some (.cells #[.string ((rd_T27 l0 x9_1).f0), (.slice A186_1 ((rd_T27 l0 x9_1).f1).length c186_1)] 27 (0, 0))) ∧ Aside0 (Below w.heap.size w w'))
            case atStart => exact ⟨(0), (by first | rfl | (simp; done) | (simp [*]; done)), H', ⟨Nat.le_refl _⟩, ⟨by (with_reducible repeat (first | refine blk_drewN ?_ _ | refine blk_drew ?_ | refine blk_alloc ?_ _)); refine blk_put (cs := #[.string ((rd_T27 l0 x9_1).f0), .slice none 0 0]) ?_ 1 _ rfl; (with_reducible repeat (first | refine blk_drewN ?_ _ | refine blk_drew ?_ | refine blk_alloc ?_ _)); refine blk_put (cs := #[.string (⟨#[]⟩ : ByteArray), .slice none 0 0]) ?_ 0 _ rfl; (with_reducible repeat (first | refine blk_drewN ?_ _ | refine blk_drew ?_ | refine blk_alloc ?_ _)); exact BK187.out⟩, ⟨by repeat (first | (with_reducible first | exact HB.out | apply below_alloc | apply pw_below_drewN | apply below_drew1 | refine below_set ?_ GE187.out) | exact HB.out)⟩⟩
            case round =>
              clear H'
              try clear c1
              try clear p1
              try clear q1
              try clear hx1
              try clear c2
              try clear c2b0
              try clear p2
              try clear c3
              try clear c3b0
              try clear c4
              try clear c4b0
              try clear hcz6_0
              try clear hcz6_1
              try clear hfz6_0
              try clear hfz6_1
              try clear hx186_0
              try clear hx186_1
              try clear p186
              try clear q186
              obtain ⟨x17_2, rfl, HA, HK2, BK187, HB⟩ := hrel
              cases gk with
              | zero => exact absurd HA.out (by simp [tree_none.l1])
              | succ k2 =>
                have H := HA.out
                clear HA
                simp only [tree_none.l1] at H
                by_cases c7 : x17_2 < (((rd_T27 l0 x9_1).f1).length : Int)
                · rw [if_pos c7] at H
                  have c7b0 : decide (x17_2 < (((rd_T27 l0 x9_1).f1).length : Int)) = true := decide_eq_true c7
                  clear c7
                  by_cases c8 : 0 ≤ x17_2
                  · rw [if_pos c8] at H
                    have c8b0 : decide (0 ≤ x17_2) = true := decide_eq_true c8
                    clear c8
                    by_cases c9 : x17_2 < (((rd_T27 l0 x9_1).f1).length : Int)
                    · rw [if_pos c9] at H
                      have c9b0 : decide (x17_2 < (((rd_T27 l0 x9_1).f1).length : Int)) = true := decide_eq_true c9
                      clear c9
                      by_cases c10 : (rd ((rd_T27 l0 x9_1).f1) x17_2) < 0
                      · rw [if_pos c10] at H
                        have c10b0 : decide ((rd ((rd_T27 l0 x9_1).f1) x17_2) < 0) = true := decide_eq_true c10
                        clear c10
                        obtain rfl := Option.some.inj H
                        have p188 : 0 ≤ (x17_2 : Int) := of_decide_eq_true (by first | (with_reducible assumption) | assumption)
                        have q188 : x17_2 < (((rd_T27 l0 x9_1).f1).length : Int) := of_decide_eq_true (by first | (with_reducible assumption) | assumption)
                        obtain ⟨ad188, e188, hx188_0⟩ := Kd.at_int HR186_1.out x17_2 p188 q188
                        cases e188
                        replace hx188_0 := (HB.out.cell (World.block_lt_of_cell? w _ hx188_0)).trans hx188_0
                        replace p188 := eq_true p188
                        replace q188 := eq_true q188
                        go_wp2
                        go_ret
                        exact ⟨by first | rfl | (simp [errW_none, errW_some] <;> rfl) | (simp [*, errW_none, errW_some] <;> rfl), by repeat (first | (with_reducible first | exact HB.out | apply below_alloc | apply pw_below_drewN | apply below_drew1 | refine below_set ?_ GE187.out) | exact HB.out)⟩
                      · rw [if_neg c10] at H
                        have c10b0 : decide ((rd ((rd_T27 l0 x9_1).f1) x17_2) < 0) = false := decide_eq_false c10
                        clear c10
                        by_cases c11 : (rd ((rd_T27 l0 x9_1).f1) x17_2) ≥ x9_1
                        · rw [if_pos c11] at H
                          have c11b0 : decide (x9_1 ≤ (rd ((rd_T27 l0 x9_1).f1) x17_2)) = true := decide_eq_true c11
                          clear c11
                          obtain rfl := Option.some.inj H
                          have p188 : 0 ≤ (x17_2 : Int) := of_decide_eq_true (by first | (with_reducible assumption) | assumption)
                          have q188 : x17_2 < (((rd_T27 l0 x9_1).f1).length : Int) := of_decide_eq_true (by first | (with_reducible assumption) | assumption)
                          obtain ⟨ad188, e188, hx188_0⟩ := Kd.at_int HR186_1.out x17_2 p188 q188
                          cases e188
                          replace hx188_0 := (HB.out.cell (World.block_lt_of_cell? w _ hx188_0)).trans hx188_0
                          replace p188 := eq_true p188
                          replace q188 := eq_true q188
                          go_wp2
                          go_ret
                          exact ⟨by first | rfl | (simp [errW_none, errW_some] <;> rfl) | (simp [*, errW_none, errW_some] <;> rfl), by repeat (first | (with_reducible first | exact HB.out | apply below_alloc | apply pw_below_drewN | apply below_drew1 | refine below_set ?_ GE187.out) | exact HB.out)⟩
                        · rw [if_neg c11] at H
                          have c11b0 : decide (x9_1 ≤ (rd ((rd_T27 l0 x9_1).f1) x17_2)) = false := decide_eq_false c11
                          clear c11
                          have H' := Aside0.mk H
                          clear H
                          have p188 : 0 ≤ (x17_2 : Int) := of_decide_eq_true (by first | (with_reducible assumption) | assumption)
                          have q188 : x17_2 < (((rd_T27 l0 x9_1).f1).length : Int) := of_decide_eq_true (by first | (with_reducible assumption) | assumption)
                          obtain ⟨ad188, e188, hx188_0⟩ := Kd.at_int HR186_1.out x17_2 p188 q188
                          cases e188
                          replace hx188_0 := (HB.out.cell (World.block_lt_of_cell? w _ hx188_0)).trans hx188_0
                          replace p188 := eq_true p188
                          replace q188 := eq_true q188
                          go_wp2
                          go_roundg k2
                          case measure => have := HK1.out; have := HK2.out; omega
                          case rel => exact ⟨(wrap64 (x17_2 + 1)), (by first | rfl | (simp; done) | (simp [*]; done)), H', ⟨by have := HK1.out; have := HK2.out; omega⟩, ⟨by (with_reducible repeat (first | refine blk_drewN ?_ _ | refine blk_drew ?_ | refine blk_alloc ?_ _)); exact BK187.out⟩, ⟨by repeat (first | (with_reducible first | exact HB.out | apply below_alloc | apply pw_below_drewN | apply below_drew1 | refine below_set ?_ GE187.out) | exact HB.out)⟩⟩
                    · rw [if_neg c9] at H
                      exact absurd H (by simp)
                  · rw [if_neg c8] at H
                    exact absurd H (by simp)
                · rw [if_neg c7] at H
                  have c7b0 : decide (x17_2 < (((rd_T27 l0 x9_1).f1).length : Int)) = false := decide_eq_false c7
                  clear c7
                  have H' := Aside0.mk H
                  clear H
                  go_wp2
                  go_roundg k2
                  case measure => have := HK1.out; have := HK2.out; omega
                  case rel => exact ⟨(wrap64 (x9_1 + 1)), (by first | rfl | (simp; done) | (simp [*]; done)), H', ⟨by have := HK1.out; have := HK2.out; omega⟩, ⟨by repeat (first | (with_reducible first | exact HB.out | apply below_alloc | apply pw_below_drewN | apply below_drew1 | refine below_set ?_ GE187.out) | exact HB.out)⟩⟩
          · rw [if_neg c4] at H
            exact absurd H (by simp)
        · rw [if_neg c3] at H
          exact absurd H (by simp)
      · rw [if_neg c2] at H
        have c2b0 : decide (x9_1 < (l0.length : Int)) = false := decide_eq_false c2
        clear c2
        obtain rfl := Option.some.inj H
        go_wp2
        go_ret
        exact ⟨by first | rfl | (simp [errW_none, errW_some] <;> rfl) | (simp [*, errW_none, errW_some] <;> rfl), by repeat (first | (with_reducible first | exact HB.out | apply below_alloc | apply pw_below_drewN | apply below_drew1) | exact HB.out)⟩

end Go.Proofs.Ytkonloadedbpkaa.PTreeLists

namespace Go.Proofs.Ytkonloadedbpkaa.NoneT
open Go.RowKit Go.Maps Go.Proofs.Ytkonloadedbpkaa.Sep Go.Proofs.Ytkonloadedbpkaa.PTreeLists Go.Proofs.Ytkonloadedbpkaa.FoldPure Go.Proofs.Ytkonloadedbpkaa.FoldMem Go.Proofs.Ytkonloadedbpkaa.NodeMem Go.Proofs.Ytkonloadedbpkaa.ListsP Go.Proofs.Ytkonloadedbpkaa.RefS
open Go.Proofs.YtkonloadedbpkaaW.PrintWords
set_option linter.unusedVariables false
set_option linter.unusedSimpArgs false
set_option maxRecDepth 100000

theorem none_kids (L : List S27) (i : Nat) (hi : i < L.length) (hl : L.length ≤ 4194304) (hk : (lo L i).length ≤ 4194304) (r : Bool) (h : EvS (fun k => tree_none.l0 k L L (L.length : Int) ((i + 1 : Nat) : Int)) r) : ∀ (d j : Nat), j ≤ (lo L i).length → (lo L i).length - j = d → EvS (fun k => tree_none.l1 k L i L (L.length : Int) i (lo L i) ((lo L i).length : Int) j) (nodeBad i ((lo L i).drop j) || r) := by
  unfold lo at *
  generalize hks : (rd_T27 L (i : Int)).f1 = ks at hk
  intro d
  induction d with
  | zero =>
    intro j hj hd
    rw [List.drop_eq_nil_of_le (by omega)]
    refine EvS.step h fun k => ?_
    conv => lhs; unfold tree_none.l1
    rw [if_neg (by omega), wrap_in (by omega) (by omega)]
    rfl
  | succ d ih =>
    intro j hj hd
    have hlt : j < ks.length := by omega
    have e : ks.drop j = ks[j] :: ks.drop (j + 1) := List.drop_eq_getElem_cons hlt
    rw [e]
    have e2 : nodeBad i (ks[j] :: ks.drop (j + 1)) = ((decide (ks[j] < 0) || decide (ks[j] ≥ (i : Int))) || nodeBad i (ks.drop (j + 1))) := rfl
    rw [e2]
    by_cases b1 : ks[j] < 0
    · refine EvS.some fun k => ?_
      conv => lhs; unfold tree_none.l1
      rw [if_pos (by omega), if_pos (by omega), if_pos (by omega), rd_at ks hlt, if_pos b1]
      simp [b1]
    · by_cases b2 : ks[j] ≥ (i : Int)
      · refine EvS.some fun k => ?_
        conv => lhs; unfold tree_none.l1
        rw [if_pos (by omega), if_pos (by omega), if_pos (by omega), rd_at ks hlt, if_neg b1, if_pos b2]
        simp [b2]
      · have e3 : ((decide (ks[j] < 0) || decide (ks[j] ≥ (i : Int))) || nodeBad i (ks.drop (j + 1)) || r) = (nodeBad i (ks.drop (j + 1)) || r) := by
          rw [decide_eq_false b1, decide_eq_false b2]
          rfl
        rw [e3]
        refine EvS.step (ih (j + 1) (by omega) (by omega)) fun k => ?_
        conv => lhs; unfold tree_none.l1
        rw [if_pos (by omega), if_pos (by omega), if_pos (by omega), rd_at ks hlt, if_neg b1, if_neg b2, wrap_in (by omega) (by omega)]
        rfl
theorem none_ev (L : List S27) (hl : L.length ≤ 4194304) (hk : ∀ i, (lo L i).length ≤ 4194304) : ∀ (d i : Nat), i + d = L.length → EvS (fun k => tree_none.l0 k L L (L.length : Int) i) (badFrom L d i || decide (L.length = 0)) := by
  intro d
  induction d with
  | zero =>
    intro i hd
    refine EvS.some fun k => ?_
    conv => lhs; unfold tree_none.l0
    rw [if_neg (by omega)]
    show Option.some ((L.length : Int) == 0) = Option.some (false || decide (L.length = 0))
    congr 1
    by_cases h0 : L.length = 0
    · simp [h0]
    · simp [h0]
  | succ d ih =>
    intro i hd
    have h := none_kids L i (by omega) hl (hk i) _ (ih (i + 1) (by omega)) (lo L i).length 0 (by omega) (by omega)
    rw [List.drop_zero] at h
    have e : (badFrom L (d + 1) i || decide (L.length = 0)) = (nodeBad i (lo L i) || (badFrom L d (i + 1) || decide (L.length = 0))) := Bool.or_assoc ..
    rw [e]
    refine EvS.step h fun k => ?_
    conv => lhs; unfold tree_none.l0
    rw [if_pos (by omega), if_pos (by omega), if_pos (by omega)]
    rfl
theorem none_f (L : List S27) (hl : L.length ≤ 4194304) (hk : ∀ i, (lo L i).length ≤ 4194304) : EvS (fun k => tree_none.f k L) (noneB L) := none_ev L hl hk L.length 0 (by omega)
theorem tnone_calls {w : World} {A : Option Addr} {c : Nat} {zs : List ZN} (hf : Fit zs) (hC : Kd.C kP w A zs.length zs) (hc : zs.length ≤ c) : Calls Try.prog 46 #[.slice A zs.length c] w fun e w' => e = .returned (.bool (noneZ zs)) ∧ Below w.heap.size w w' := by
  obtain ⟨K, hK⟩ := none_f (zs.map toZ) (by rw [List.length_map]; have := hf.few; omega) hf.lo
  have h := PTreeLists.tree_none.calls K A c (zs.map toZ) _ w (zC hC) (by rw [List.length_map]; exact hc) (hK K (Nat.le_refl _))
  rw [List.length_map] at h
  exact h
set_option maxHeartbeats 4000000 in
theorem nsize_calls {w : World} {A : Option Addr} {c : Nat} {zs : List ZN} (hf : Fit zs) (hC : Kd.C kP w A zs.length zs) (hc : zs.length ≤ c) (hn : noneZ zs = true) : Calls Try.prog 23 #[.slice A zs.length c] w fun e w' => e = .returned (.int .i64 0) ∧ Below w.heap.size w w' := by
  have h1 := tnone_calls hf hC hc
  rw [hn] at h1
  clear hC hf hn
  go_enter Try.func23, Try.ntmps23
  go_wp2_with fail
  refine h1.mono ?_
  clear h1
  rintro e w1 ⟨rfl, hb⟩
  have HB := Aside0.mk hb
  clear hb
  go_wp2_with fail
  go_ret
  exact ⟨rfl, HB.out⟩
set_option maxHeartbeats 4000000 in
theorem ndepth_calls {w : World} {A : Option Addr} {c : Nat} {zs : List ZN} (hf : Fit zs) (hC : Kd.C kP w A zs.length zs) (hc : zs.length ≤ c) (hn : noneZ zs = true) : Calls Try.prog 24 #[.slice A zs.length c] w fun e w' => e = .returned (.int .i64 0) ∧ Below w.heap.size w w' := by
  have h1 := tnone_calls hf hC hc
  rw [hn] at h1
  clear hC hf hn
  go_enter Try.func24, Try.ntmps24
  go_wp2_with fail
  refine h1.mono ?_
  clear h1
  rintro e w1 ⟨rfl, hb⟩
  have HB := Aside0.mk hb
  clear hb
  go_wp2_with fail
  go_ret
  exact ⟨rfl, HB.out⟩
set_option maxHeartbeats 4000000 in
theorem nshare_calls {w : World} {A : Option Addr} {c : Nat} {zs : List ZN} (hf : Fit zs) (hC : ∀ w', (∀ k, k < w.heap.size → w'.heap[k]? = w.heap[k]?) → Kd.C kP w' A zs.length zs) (hc : zs.length ≤ c) (hn : noneZ zs = true) : Calls Try.prog 27 #[.slice A zs.length c] w fun e w' => e = .returned (.slice none 0 0) ∧ Below w.heap.size w w' := by
  have hB0 := (Below.refl w.heap.size w).alloc (Nat.le_refl _) (.cells #[.slice A zs.length c] 24)
  have h1 := tnone_calls hf (hC _ (fun k hk => hB0.block k hk)) hc
  rw [hn] at h1
  have HB0 := Aside0.mk hB0
  clear hC hf hn hB0
  go_enter Try.func27, Try.ntmps27
  go_wp2_with fail
  refine h1.mono ?_
  clear h1
  rintro e w1 ⟨rfl, hb⟩
  have HB := Aside0.mk (HB0.out.trans (hb.mono HB0.out.size))
  clear hb
  go_wp2_with fail
  go_ret
  exact ⟨rfl, HB.out⟩
set_option maxHeartbeats 4000000 in
theorem nlabels_calls {w : World} {A : Option Addr} {c : Nat} {zs : List ZN} (hf : Fit zs) (hC : Kd.C kP w A zs.length zs) (hc : zs.length ≤ c) (hn : noneZ zs = true) : Calls Try.prog 22 #[.slice A zs.length c] w fun e w' => e = .returned (.tuple #[.slice none 0 0, .bool false]) ∧ Below w.heap.size w w' := by
  have h1 := nsize_calls hf hC hc hn
  clear hC hf hn
  go_enter Try.func22, Try.ntmps22
  go_wp2_with fail
  refine h1.mono ?_
  clear h1
  rintro e w1 ⟨rfl, hb⟩
  have HB := Aside0.mk hb
  clear hb
  go_wp2_with fail
  go_ret2
  exact ⟨rfl, HB.out⟩
set_option maxHeartbeats 4000000 in
theorem nsame_calls {w : World} {A B : Option Addr} {ca cb : Nat} {za zb : List ZN} (hfa : Fit za) (hA : Kd.C kP w A za.length za) (hca : za.length ≤ ca) (hfb : Fit zb) (hB : ∀ w', (∀ k, k < w.heap.size → w'.heap[k]? = w.heap[k]?) → Kd.C kP w' B zb.length zb) (hcb : zb.length ≤ cb) (hn : (noneZ za || noneZ zb) = true) :
    Calls Try.prog 28 #[.slice A za.length ca, .slice B zb.length cb] w fun e w' => e = .returned (.bool false) ∧ Below w.heap.size w w' := by
  have h1 := tnone_calls hfa hA hca
  have HBC := Aside0.mk hB
  clear hA hB
  go_enter Try.func28, Try.ntmps28
  go_wp2_with fail
  refine h1.mono ?_
  clear h1
  rintro e w1 ⟨rfl, hb⟩
  have HB := Aside0.mk hb
  clear hb
  cases hna : noneZ za with
  | true =>
    clear hn
    go_wp2_with fail
    go_ret
    exact ⟨rfl, HB.out⟩
  | false =>
    rw [hna, Bool.false_or] at hn
    have h2 := tnone_calls hfb (HBC.out w1 (fun k hk => HB.out.block k hk)) hcb
    rw [hn] at h2
    clear hn
    go_wp2_with fail
    refine h2.mono ?_
    clear h2
    rintro e w2 ⟨rfl, hb2⟩
    have HB2 := Aside0.mk (HB.out.trans (hb2.mono HB.out.size))
    clear hb2 HB
    go_wp2_with fail
    go_ret
    exact ⟨rfl, HB2.out⟩
end Go.Proofs.Ytkonloadedbpkaa.NoneT
