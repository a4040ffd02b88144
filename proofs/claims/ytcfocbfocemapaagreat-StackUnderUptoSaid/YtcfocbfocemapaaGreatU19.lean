/- UndA, UndB, UndC. -/
import Derived.Test.YtcfocbfocemapaaGreatU18
namespace Go.Proofs.YtcfocbfocemapaaGreat.UndA
open Go.RowKit Go.Maps Go.Lib Go.Proofs.YtcfocbfocemapaaGreat.Sep Go.Proofs.YtcfocbfocemapaaGreat.Mem Go.Proofs.YtcfocbfocemapaaGreat.Sets Go.Proofs.YtcfocbfocemapaaGreat.PlayP Go.Proofs.YtcfocbfocemapaaGreat.BindP Go.Proofs.YtcfocbfocemapaaGreat.PStackPlays Go.Proofs.YtcfocbfocemapaaGreat.DistA Go.Proofs.YtcfocbfocemapaaGreat.IterA Go.Proofs.YtcfocbfocemapaaGreat.SortB Go.Proofs.YtcfocbfocemapaaGreat.DistB Go.Proofs.YtcfocbfocemapaaGreat.DistC Go.Proofs.YtcfocbfocemapaaGreat.SubA Go.Proofs.YtcfocbfocemapaaGreat.SubN Go.Proofs.YtcfocbfocemapaaGreat.BindW Go.Proofs.YtcfocbfocemapaaGreat.StkA Go.Proofs.YtcfocbfocemapaaGreat.StkB Go.Proofs.YtcfocbfocemapaaGreat.ApplyW Go.Proofs.YtcfocbfocemapaaGreat.FrmA Go.Proofs.YtcfocbfocemapaaGreat.FrmB Go.Proofs.YtcfocbfocemapaaGreat.Brk Go.Proofs.YtcfocbfocemapaaGreat.LibC Go.Proofs.YtcfocbfocemapaaGreat.FrmD Go.Proofs.YtcfocbfocemapaaGreat.FrmE Go.Proofs.YtcfocbfocemapaaGreat.FrmF Go.Proofs.YtcfocbfocemapaaGreat.FrmG Go.Proofs.YtcfocbfocemapaaGreat.FrmH Go.Proofs.YtcfocbfocemapaaGreat.FrmP Go.Proofs.YtcfocbfocemapaaGreat.CntM Go.Proofs.YtcfocbfocemapaaGreat.FrmJ Go.Proofs.YtcfocbfocemapaaGreat.FrmK Go.Proofs.YtcfocbfocemapaaGreat.FrmL Go.Proofs.YtcfocbfocemapaaGreat.FrmN Go.Proofs.YtcfocbfocemapaaGreat.FrmM Go.Proofs.YtcfocbfocemapaaGreat.FrsA Go.Proofs.YtcfocbfocemapaaGreat.FrsB
open Go.Proofs.YtcfocbfocemapaaGreatW.PrintWords Go.Proofs.YtcfocbfocemapaaGreatW.PrintLast Go.Proofs.YtcfocbfocemapaaGreatW.PrintMore
set_option linter.unusedVariables false
set_option linter.unusedSimpArgs false
set_option maxRecDepth 100000

def ruleF (a b c d : Nat) : FI := ⟨some ⟨c, 0, none⟩, 2, [⟨⟨#[119, 120]⟩, true, 100, [1, 100], some ⟨a, 0, none⟩, 2⟩, ⟨⟨#[119, 121]⟩, true, 101, [1, 101], some ⟨b, 0, none⟩, 2⟩], none, 0, [], some ⟨d, 0, none⟩, 6, [1, 2, 100, 3, 101, 4]⟩
theorem ruleF_ok (a b c d : Nat) : (ruleF a b c d).OK := by
  refine ⟨⟨(by show ([100, 101] : List Int).Nodup; decide), ?_, ?_, by simp [FI.fr, ruleF], by simp [FI.fr, ruleF], by simp [FI.fr, ruleF], ?_⟩, (fun p hp => by cases hp), fun y hy => ?_⟩
  · intro h hh _
    simp [FI.fr, ruleF, HI.hy] at hh
    rcases hh with rfl | rfl <;> simp
  · intro p hp
    cases hp
  · intro h hh
    simp [FI.fr, ruleF, HI.hy] at hh
    rcases hh with rfl | rfl <;> simp
  · simp [ruleF] at hy
    rcases hy with rfl | rfl | rfl | rfl | rfl | rfl <;> exact intOK_of (by omega) (by omega)
theorem rule_exprs (a b c d : Nat) : (ruleF a b c d).fr = ⟨[⟨⟨#[119, 120]⟩, true, 100, [1, 100]⟩, ⟨⟨#[119, 121]⟩, true, 101, [1, 101]⟩], [], [1, 2, 100, 3, 101, 4]⟩ := rfl
set_option maxHeartbeats 4000000 in
theorem rule_calls (w : World) : Calls Tryz.prog 31 #[] w fun e w' => ∃ a b c d, e = .returned (ruleF a b c d).val ∧ Sep w w' (ruleF a b c d).rs := by
  have M0 := Aside0.mk (box_fresh (Sep.start w) 68 #[.slice none 0 0, .slice none 0 0, .slice none 0 0])
  go_enter Tryz.func31, Tryz.ntmps31
  go_upto_region 1 with fail
  generalize hw1 : w.alloc (.cells #[.slice none 0 0, .slice none 0 0, .slice none 0 0] 68) = w1 at M0 ⊢
  clear hw1
  generalize w.heap.size = b0 at M0 ⊢
  go_upto_region 2 with fail
  have M1a := box_fresh (row_lits M0.out 3 1 2 #[.int .i64 1, .int .i64 100] rfl (by decide)) 93 #[.string ⟨#[119, 120]⟩, .bool true, .int .i64 100, .slice (some ⟨w1.heap.size, 0, none⟩) 2 2]
  simp only [World.size_alloc] at M1a
  have M1 := Aside0.mk M1a
  clear M0 M1a
  generalize hw2 : (w1.alloc (.cells #[.int .i64 1, .int .i64 100] 3)).alloc (.cells #[.string ⟨#[119, 120]⟩, .bool true, .int .i64 100, .slice (some ⟨w1.heap.size, 0, none⟩) 2 2] 93) = w2 at M1 ⊢
  clear hw2
  generalize w1.heap.size = a at M1 ⊢
  go_upto_region 3 with fail
  have M2a := box_fresh (row_lits M1.out 3 1 2 #[.int .i64 1, .int .i64 101] rfl (by decide)) 93 #[.string ⟨#[119, 121]⟩, .bool true, .int .i64 101, .slice (some ⟨w2.heap.size, 0, none⟩) 2 2]
  simp only [World.size_alloc] at M2a
  have M2 := Aside0.mk M2a
  clear M1 M2a
  generalize hw3 : (w2.alloc (.cells #[.int .i64 1, .int .i64 101] 3)).alloc (.cells #[.string ⟨#[119, 121]⟩, .bool true, .int .i64 101, .slice (some ⟨w2.heap.size, 0, none⟩) 2 2] 93) = w3 at M2 ⊢
  clear hw3
  generalize w2.heap.size = b at M2 ⊢
  obtain ⟨y0, y1, y2, y3⟩ := box4 M2.out
  obtain ⟨x0, x1, x2, x3⟩ := box4 (M2.out.pull 2 (by simp))
  have M3 := row_lits (row_lits M2.out 93 4 2 #[.string ⟨#[119, 120]⟩, .bool true, .int .i64 100, .slice (some ⟨a, 0, none⟩) 2 2, .string ⟨#[119, 121]⟩, .bool true, .int .i64 101, .slice (some ⟨b, 0, none⟩) 2 2] rfl (by decide)) 3 1 6 #[.int .i64 1, .int .i64 2, .int .i64 100, .int .i64 3, .int .i64 101, .int .i64 4] rfl (by decide)
  simp only [World.size_alloc] at M3
  obtain ⟨⟨p0, p1, p2⟩, f0, f1, f2⟩ := box3 (M3.pull 6 (by simp))
  have HM3 := Aside0.mk M3
  clear M3 M2
  go_wp2_with fail
  have h4 := box_set (box_set (box_set (HM3.out.pull 6 (by simp)) 0 (.slice (some ⟨w3.heap.size, 0, none⟩) 2 2)) 1 (.slice none 0 0)) 2 (.slice (some ⟨w3.heap.size + 1, 0, none⟩) 6 6)
  refine bodyPost_ret (results_cell_row rfl _ _ b0 68 #[.slice (some ⟨w3.heap.size, 0, none⟩) 2 2, .slice none 0 0, .slice (some ⟨w3.heap.size + 1, 0, none⟩) 6 6] (0, 0) _ rfl (box_at h4) Tryz.underlying68 rfl (by kernel_rfl)) rfl ?_
  refine ⟨a, b, w3.heap.size, w3.heap.size + 1, rfl, ?_⟩
  have h5 := h4.tail
  -- the goal, the hypotheses, y, e2, x, e1
  have h6 := exH_more (q := (⟨⟨#[119, 120]⟩, true, 100, [1, 100], some ⟨a, 0, none⟩, 2⟩ : FrmB.HI)) (Sep.pull (exH_none h5) 6 (by simp))
  have h7 := exH_more (q := (⟨⟨#[119, 121]⟩, true, 101, [1, 101], some ⟨b, 0, none⟩, 2⟩ : FrmB.HI)) (Sep.pull h6 4 (by simp))
  exact Sep.front (ruleF a b w3.heap.size (w3.heap.size + 1)).rs _ (((row_nil h7 50 2).pull 1 (by simp)).pull 3 (by simp))
end Go.Proofs.YtcfocbfocemapaaGreat.UndA

namespace Go.Proofs.YtcfocbfocemapaaGreat.UndB
open Go.RowKit Go.Maps Go.Lib Go.Proofs.YtcfocbfocemapaaGreat.Sep Go.Proofs.YtcfocbfocemapaaGreat.Mem Go.Proofs.YtcfocbfocemapaaGreat.Sets Go.Proofs.YtcfocbfocemapaaGreat.PlayP Go.Proofs.YtcfocbfocemapaaGreat.BindP Go.Proofs.YtcfocbfocemapaaGreat.PStackPlays Go.Proofs.YtcfocbfocemapaaGreat.DistA Go.Proofs.YtcfocbfocemapaaGreat.IterA Go.Proofs.YtcfocbfocemapaaGreat.SortB Go.Proofs.YtcfocbfocemapaaGreat.DistB Go.Proofs.YtcfocbfocemapaaGreat.DistC Go.Proofs.YtcfocbfocemapaaGreat.SubA Go.Proofs.YtcfocbfocemapaaGreat.SubN Go.Proofs.YtcfocbfocemapaaGreat.BindW Go.Proofs.YtcfocbfocemapaaGreat.StkA Go.Proofs.YtcfocbfocemapaaGreat.StkB Go.Proofs.YtcfocbfocemapaaGreat.ApplyW Go.Proofs.YtcfocbfocemapaaGreat.FrmA Go.Proofs.YtcfocbfocemapaaGreat.FrmB Go.Proofs.YtcfocbfocemapaaGreat.Brk Go.Proofs.YtcfocbfocemapaaGreat.LibC Go.Proofs.YtcfocbfocemapaaGreat.FrmD Go.Proofs.YtcfocbfocemapaaGreat.FrmE Go.Proofs.YtcfocbfocemapaaGreat.FrmF Go.Proofs.YtcfocbfocemapaaGreat.FrmG Go.Proofs.YtcfocbfocemapaaGreat.FrmH Go.Proofs.YtcfocbfocemapaaGreat.FrmP Go.Proofs.YtcfocbfocemapaaGreat.CntM Go.Proofs.YtcfocbfocemapaaGreat.FrmJ Go.Proofs.YtcfocbfocemapaaGreat.FrmK Go.Proofs.YtcfocbfocemapaaGreat.FrmL Go.Proofs.YtcfocbfocemapaaGreat.FrmN Go.Proofs.YtcfocbfocemapaaGreat.FrmM Go.Proofs.YtcfocbfocemapaaGreat.FrsA Go.Proofs.YtcfocbfocemapaaGreat.FrsB Go.Proofs.YtcfocbfocemapaaGreat.UndA Go.Proofs.YtcfocbfocemapaaGreat.StkC
open Go.Proofs.YtcfocbfocemapaaGreatW.PrintWords Go.Proofs.YtcfocbfocemapaaGreatW.PrintLast Go.Proofs.YtcfocbfocemapaaGreatW.PrintMore
set_option linter.unusedVariables false
set_option linter.unusedSimpArgs false
set_option maxRecDepth 100000

theorem push_yes {W : World} {p : Nat} {m : Mac} {e : Ex} {rs : List Res} {en : Ending} {w' : World} (h : PushOut W p m e rs en w') (hl : m.items.length < 40) : en = .returned (.int .i64 0) ∧ ∃ A c q, q.ex = e ∧ Sep W w' (macR p (m.push q A c) :: rs) := by
  unfold PushOut at h
  rw [if_neg (by omega)] at h
  exact h
theorem push_no {W : World} {p : Nat} {m : Mac} {e : Ex} {rs : List Res} {en : Ending} {w' : World} (h : PushOut W p m e rs en w') (hl : 40 ≤ m.items.length) : en = .returned (.int .i64 117) ∧ Sep W w' (macR p m :: rs) := by
  unfold PushOut at h
  rw [if_pos hl] at h
  exact h
theorem apply_ok {W : World} {p : Nat} {m : Mac} {L : Ex} {k : Nat} {rs : List Res} {e : Ending} {w' : World} (h : ApplyOut W p m (.ok L) k rs e w') : e = .returned (.int .i64 0) ∧ ∃ A c q, q.ex = L ∧ Sep W w' (macR p (Mac.applied m k q A c) :: rs) := h
theorem apply_err {W : World} {p : Nat} {m : Mac} {n : Int} {k : Nat} {rs : List Res} {e : Ending} {w' : World} (h : ApplyOut W p m (.error n) k rs e w') : e = .returned (.int .i64 n) ∧ Sep W w' (macR p m :: rs) := h
theorem known_apply : applyE VB [] ⟨[⟨⟨#[119, 120]⟩, true, 100, [1, 100]⟩, ⟨⟨#[119, 121]⟩, true, 101, [1, 101]⟩], [], [1, 2, 100, 3, 101, 4]⟩ [[1, 100], [1, 101]] = .ok [1, 2, 100, 3, 101, 4] := by rfl
theorem known_ok {q2 q3 : BI} {A1 B1 A3 : Option Addr} {c1 d1 c3 : Nat} {g : Ex} (h2 : q2.ex = [1, 100]) (h3 : q3.ex = [1, 101]) : MacOK ⟨A1, c1, [], B1, d1, g, A3, c3, [q2, q3], 2, 0⟩ := by
  refine ⟨by simp, by simp, fun p hp => by simp at hp, fun q hq => ?_, fun q hq x hx => ?_, by simp⟩
  · simp only [List.mem_cons, List.not_mem_nil, or_false] at hq
    rcases hq with rfl | rfl
    · rw [h2]; simp
    · rw [h3]; simp
  · simp only [List.mem_cons, List.not_mem_nil, or_false] at hq
    rcases hq with rfl | rfl
    · rw [h2] at hx; simp at hx; rcases hx with rfl | rfl <;> exact intOK_of (by omega) (by omega)
    · rw [h3] at hx; simp at hx; rcases hx with rfl | rfl <;> exact intOK_of (by omega) (by omega)
set_option maxHeartbeats 4000000 in
theorem known_calls (w : World) : Calls Tryz.prog 28 #[] w fun e w' => e = .returned (.bool true) ∧ Below w.heap.size w w' := by
  have M0 := Aside0.mk (row_lits (Sep.start w) 3 1 6 #[.int .i64 1, .int .i64 2, .int .i64 100, .int .i64 3, .int .i64 101, .int .i64 4] rfl (by decide))
  have hG := (row_Ci (xs := [1, 2, 100, 3, 101, 4]) M0.out.row (by omega)).2
  have hnew := StkC.new_calls (c := 0) (d := 6) (ps := []) (g := [1, 2, 100, 3, 101, 4]) M0.out (.slice none 0 0) (.slice none 0 0) (.int .i64 0) (nil_C _) hG (by simp) (by simp)
  go_enter Tryz.func28, Tryz.ntmps28
  go_upto_region 2 with (go_at_call 7; refine hnew.mono ?_; clear hnew; rintro e1 w1 ⟨p, A1, c1, B1, d1, rfl, -, -, hm1⟩; have M1 := Aside0.mk hm1; clear hm1 M0 hG)
  have hl1 := row_lits M1.out 3 1 2 #[.int .i64 1, .int .i64 100] rfl (by decide)
  have hp1 := push_calls (n := 0) (c := 2) (hl1.pull 1 (by simp)) (e := [1, 100]) (row_Ci (xs := [1, 100]) hl1.row (by omega)).2 (by simp) (by simp)
  clear hl1
  go_upto_region 4 with (first
    | (go_at_call 22; refine hp1.mono ?_; clear hp1; rintro e2 w2 ho2; obtain ⟨rfl, A2, c2, q2, hq2, hm2⟩ := push_yes ho2 (by simp); have M2 := Aside0.mk hm2; have HQ2 := Aside0.mk hq2; clear ho2 hm2 hq2 M1)
    | (go_at_call 24; refine (lemmalaw11_num.calls 0 0 _ rfl).mono ?_; rintro e3 w3 ⟨rfl, hd3⟩; have M3 := M2.out.drawn hd3; have hl2 := row_lits M3 3 1 2 #[.int .i64 1, .int .i64 101] rfl (by decide); have hp2 := push_calls (n := 0) (c := 2) (hl2.pull 1 (by simp)) (e := [1, 101]) (row_Ci (xs := [1, 101]) hl2.row (by omega)).2 (by simp [Mac.push]) (by simp); clear M3 hl2 hd3 M2)
    | (go_at_call 22; refine hp2.mono ?_; clear hp2; rintro e4 w4 ho4; obtain ⟨rfl, A4, c4, q4, hq4, hm4⟩ := push_yes ho4 (by simp [Mac.push]); have M4 := Aside0.mk hm4; have HQ4 := Aside0.mk hq4; clear ho4 hm4 hq4)
    | (go_at_call 24; refine (lemmalaw11_num.calls 0 0 _ rfl).mono ?_; rintro e5 w5 ⟨rfl, hd5⟩; have M5 := Aside0.mk (M4.out.drawn hd5); clear hd5 M4)
    | (go_at_call 31; refine (rule_calls _).mono ?_; rintro e6 w6 ⟨ba, bb, bc, bd, rfl, hm6⟩; simp only [FI.val, ruleF]; have hF6 := frame_C (ruleF_ok ba bb bc bd) hm6; have M6 := M5.out.below hm6.1; have hap := apply_calls (c := 2) (d := 0) (g := 6) (m := ⟨A1, c1, [], B1, d1, [1, 2, 100, 3, 101, 4], A4, c4, [q2, q4], 2, 0⟩) M6 (known_ok HQ2.out HQ4.out) (ruleF_ok ba bb bc bd).fr hF6.1 hF6.2.1 hF6.2.2 (fun q hq => by cases hq) (.ok [1, 2, 100, 3, 101, 4]) (by rw [rule_exprs]; show _ = applyE VB [] _ [q2.ex, q4.ex]; rw [HQ2.out, HQ4.out, known_apply]); clear M6 hF6 hm6 M5)
    | (go_at_call 35; refine hap.mono ?_; clear hap; rintro e7 w7 ho7; obtain ⟨rfl, A7, c7, q7, hq7, hm7⟩ := apply_ok ho7; have M7 : Aside0 (Sep w w7 (macR p ⟨A1, c1, [], B1, d1, [1, 2, 100, 3, 101, 4], A7, c7, [q7], 2, 1⟩ :: _)) := ⟨hm7⟩; have HQ7 := Aside0.mk hq7; clear ho7 hm7 hq7)
    | (go_at_call 24; refine (lemmalaw11_num.calls 0 0 _ rfl).mono ?_; rintro e8 w8 ⟨rfl, hd8⟩; have M8 := Aside0.mk (M7.out.drawn hd8); clear hd8 M7)
    | fail)
  have M9 : Aside0 (Sep w w8 [macR p ⟨A1, c1, [], B1, d1, [1, 2, 100, 3, 101, 4], A7, c7, [q7], 2, 1⟩]) := ⟨Sep.front [macR p ⟨A1, c1, [], B1, d1, [1, 2, 100, 3, 101, 4], A7, c7, [q7], 2, 1⟩] _ M8.out⟩
  clear M8 HQ2 HQ4
  have hq7l : ∀ q ∈ (⟨A1, c1, [], B1, d1, [1, 2, 100, 3, 101, 4], A7, c7, [q7], 2, 1⟩ : Mac).items, q.ex.length ≤ 4194304 := fun q hq => by
    simp only [List.mem_singleton] at hq
    subst hq
    rw [HQ7.out]
    simp
  have HQL := Aside0.mk hq7l
  have hte : topE (⟨A1, c1, [], B1, d1, [1, 2, 100, 3, 101, 4], A7, c7, [q7], 2, 1⟩ : Mac).ents = [1, 2, 100, 3, 101, 4] := by
    show topE [q7.ex] = _
    rw [HQ7.out]
    rfl
  have HTE := Aside0.mk hte
  have HEE : Aside0 (endE (⟨A1, c1, [], B1, d1, [1, 2, 100, 3, 101, 4], A7, c7, [q7], 2, 1⟩ : Mac).ents [1, 2, 100, 3, 101, 4] = 0) := ⟨by
    unfold endE
    rw [hte]
    rfl⟩
  have htop := top_calls M9.out (by simp) hq7l
  unfold TopOut at htop
  rw [hte] at htop
  clear hq7l hte
  go_upto_region 5 with (go_at_call 20; refine htop.mono ?_; clear htop; rintro e9 w9 ⟨A9, c9, rfl, hc9, hm9⟩; have M10 := Aside0.mk hm9; clear hm9 M9)
  have hl6 := row_lits M10.out 3 1 6 #[.int .i64 1, .int .i64 2, .int .i64 100, .int .i64 3, .int .i64 101, .int .i64 4] rfl (by decide)
  obtain ⟨ks, hks⟩ := sameE_ok [1, 2, 100, 3, 101, 4] [1, 2, 100, 3, 101, 4] (by simp)
  have hse := lemmalaw11_sameExpr.calls ks A9 c9 [1, 2, 100, 3, 101, 4] (some ⟨w9.heap.size, 0, none⟩) 6 [1, 2, 100, 3, 101, 4] true _ (row_Ci (xs := [1, 2, 100, 3, 101, 4]) (Sep.row (hl6.pull 1 (by simp))) (by simp)).2 hc9 (row_Ci (xs := [1, 2, 100, 3, 101, 4]) hl6.row (by simp)).2 (by simp) (by rw [hks]; rfl)
  have M11 := Aside0.mk hl6.tail.tail
  clear hl6 hks M10
  go_wp2_with (first
    | (go_at_call 11; refine hse.mono ?_; clear hse; rintro e10 w10 ⟨rfl, hd10⟩; have M12 := Aside0.mk (M11.out.drawn hd10); clear hd10 M11)
    | (go_at_call 14; refine (len_calls M12.out).mono ?_; rintro e11 w11 ⟨rfl, rfl⟩)
    | (go_at_call 16; refine (peak_calls M12.out).mono ?_; rintro e11 w11 ⟨rfl, rfl⟩)
    | (go_at_call 18; refine (count_calls M12.out).mono ?_; rintro e11 w11 ⟨rfl, rfl⟩)
    | (go_at_call 25; refine (end_calls M12.out (by simp) HQL.out (by simp)).mono ?_; rintro e11 w11 ⟨he11, hd11⟩; rw [HEE.out] at he11; subst he11; have M13 := Aside0.mk (M12.out.drawn hd11); clear hd11 M12)
    | (go_at_call 24; refine (lemmalaw11_num.calls 0 0 _ rfl).mono ?_; rintro e12 w12 ⟨rfl, hd12⟩; have M14 := Aside0.mk (M13.out.drawn hd12); clear hd12 M13)
    | fail)
  go_ret
  exact ⟨rfl, M14.out.1⟩
end Go.Proofs.YtcfocbfocemapaaGreat.UndB

namespace Go.Proofs.YtcfocbfocemapaaGreat.UndC
open Go.RowKit Go.Maps Go.Lib Go.Proofs.YtcfocbfocemapaaGreat.Sep Go.Proofs.YtcfocbfocemapaaGreat.Mem Go.Proofs.YtcfocbfocemapaaGreat.Sets Go.Proofs.YtcfocbfocemapaaGreat.PlayP Go.Proofs.YtcfocbfocemapaaGreat.BindP Go.Proofs.YtcfocbfocemapaaGreat.PStackPlays Go.Proofs.YtcfocbfocemapaaGreat.DistA Go.Proofs.YtcfocbfocemapaaGreat.IterA Go.Proofs.YtcfocbfocemapaaGreat.SortB Go.Proofs.YtcfocbfocemapaaGreat.DistB Go.Proofs.YtcfocbfocemapaaGreat.DistC Go.Proofs.YtcfocbfocemapaaGreat.SubA Go.Proofs.YtcfocbfocemapaaGreat.SubN Go.Proofs.YtcfocbfocemapaaGreat.BindW Go.Proofs.YtcfocbfocemapaaGreat.StkA Go.Proofs.YtcfocbfocemapaaGreat.StkB Go.Proofs.YtcfocbfocemapaaGreat.ApplyW Go.Proofs.YtcfocbfocemapaaGreat.FrmA Go.Proofs.YtcfocbfocemapaaGreat.FrmB Go.Proofs.YtcfocbfocemapaaGreat.Brk Go.Proofs.YtcfocbfocemapaaGreat.LibC Go.Proofs.YtcfocbfocemapaaGreat.FrmD Go.Proofs.YtcfocbfocemapaaGreat.FrmE Go.Proofs.YtcfocbfocemapaaGreat.FrmF Go.Proofs.YtcfocbfocemapaaGreat.FrmG Go.Proofs.YtcfocbfocemapaaGreat.FrmH Go.Proofs.YtcfocbfocemapaaGreat.FrmP Go.Proofs.YtcfocbfocemapaaGreat.CntM Go.Proofs.YtcfocbfocemapaaGreat.FrmJ Go.Proofs.YtcfocbfocemapaaGreat.FrmK Go.Proofs.YtcfocbfocemapaaGreat.FrmL Go.Proofs.YtcfocbfocemapaaGreat.FrmN Go.Proofs.YtcfocbfocemapaaGreat.FrmM Go.Proofs.YtcfocbfocemapaaGreat.FrsA Go.Proofs.YtcfocbfocemapaaGreat.FrsB Go.Proofs.YtcfocbfocemapaaGreat.UndA Go.Proofs.YtcfocbfocemapaaGreat.StkC Go.Proofs.YtcfocbfocemapaaGreat.UndB
open Go.Proofs.YtcfocbfocemapaaGreatW.PrintWords Go.Proofs.YtcfocbfocemapaaGreatW.PrintLast Go.Proofs.YtcfocbfocemapaaGreatW.PrintMore
set_option linter.unusedVariables false
set_option linter.unusedSimpArgs false
set_option maxRecDepth 100000

theorem drop_under {α : Type} (bel ents : List α) {n : Nat} (hn : n ≤ ents.length) : (bel ++ ents).drop ((bel ++ ents).length - n) = ents.drop (ents.length - n) := by
  rw [List.length_append, show bel.length + ents.length - n = bel.length + (ents.length - n) by omega, ← List.drop_drop, List.drop_left]
theorem apply_few {V : Int → Bool} {l : List S50} {f : Fr} {ents : List Ex} (h : ents.length < f.hyps.length) : applyE V l f ents = .error 113 := by
  unfold applyE
  rw [if_pos h]
theorem apply_under (V : Int → Bool) (l : List S50) (f : Fr) (bel ents : List Ex) (hn : f.hyps.length ≤ ents.length) :
    (∃ n : Int, applyE V l f ents = .error n ∧ applyE V l f (bel ++ ents) = .error n ∧ n ≠ 117 ∧ n ≠ 113) ∨ (∃ L, applyE V l f ents = .ok L ∧ applyE V l f (bel ++ ents) = .ok L) ∨
    (applyE V l f (bel ++ ents) = .error 117 ∧ 40 ≤ bel.length + ents.length - f.hyps.length ∧ ((∃ L, applyE V l f ents = .ok L) ∨ applyE V l f ents = .error 117)) := by
  unfold applyE
  have h1 : ¬ (ents.length < f.hyps.length) := by omega
  have h2 : ¬ ((bel ++ ents).length < f.hyps.length) := by rw [List.length_append]; omega
  rw [drop_under bel ents hn, if_neg h1, if_neg h2]
  clear h1 h2
  split
  · exact .inl ⟨114, rfl, rfl, by omega, by omega⟩
  split
  · exact .inl ⟨115, rfl, rfl, by omega, by omega⟩
  split
  · exact .inl ⟨116, rfl, rfl, by omega, by omega⟩
  split
  · exact .inl ⟨31, rfl, rfl, by omega, by omega⟩
  right
  rw [List.length_append]
  by_cases h2 : 40 ≤ bel.length + ents.length - f.hyps.length
  · right
    rw [if_pos h2]
    refine ⟨rfl, h2, ?_⟩
    split
    · exact .inr rfl
    · exact .inl ⟨_, rfl⟩
  · left
    rw [if_neg h2, if_neg (by omega)]
    exact ⟨_, rfl, rfl⟩
theorem putL_all {Pr : Int → Prop} {env : List (Int × Ex)} (he : ∀ b ∈ env, ∀ x ∈ b.2, Pr x) {g : Ex} (hg : ∀ x ∈ g, Pr x) : ∀ x ∈ putL env g, Pr x := by
  intro x hx
  unfold putL at hx
  obtain ⟨y, hy, hx⟩ := List.mem_flatMap.1 hx
  cases hf : find env y with
  | none =>
    rw [hf] at hx
    simp only [Option.getD_none, List.mem_singleton] at hx
    subst hx
    exact hg x hy
  | some e =>
    rw [hf] at hx
    exact he _ (find_mem hf) x hx
theorem apply_fit {Pr : Int → Prop} {V : Int → Bool} {l : List S50} {f : Fr} {ents : List Ex} {L : Ex} (h : applyE V l f ents = .ok L) (hg : ∀ x ∈ f.goal, Pr x) (he : ∀ e ∈ ents, ∀ x ∈ e, Pr x) : L.length ≤ 200 ∧ (∀ x ∈ L, Pr x) ∧ f.hyps.length ≤ ents.length ∧ ents.length - f.hyps.length < 40 := by
  unfold applyE at h
  split at h
  · cases h
  split at h
  · cases h
  split at h
  · cases h
  split at h
  · cases h
  split at h
  · cases h
  split at h
  · cases h
  rename_i h1 h2 h3 h4 h5 h6
  injection h with h
  subst h
  exact ⟨by omega, putL_all (env_all f.hyps _ fun e hm => he e (List.mem_of_mem_drop hm)) hg, by omega, by omega⟩
theorem push_fit {m : Mac} (h : MacOK m) (hl : m.items.length < 40) {q : BI} {e : Ex} (hq : q.ex = e) (hs : e.length ≤ 1048576) (hi : ∀ x ∈ e, IntOK x) (A : Option Addr) (c : Nat) : MacOK (m.push q A c) := by
  refine ⟨by simp [Mac.push]; omega, h.pairs, h.pok, fun y hy => ?_, fun y hy => ?_, h.cnt⟩
  · rcases List.mem_append.1 hy with hy | hy
    · exact h.short y hy
    · rw [List.mem_singleton] at hy; subst hy; rw [hq]; exact hs
  · rcases List.mem_append.1 hy with hy | hy
    · exact h.iok y hy
    · rw [List.mem_singleton] at hy; subst hy; rw [hq]; exact hi
theorem applied_fit {m : Mac} (h : MacOK m) {k : Nat} (hk : k < 40) {q : BI} {e : Ex} (hq : q.ex = e) (hs : e.length ≤ 1048576) (hi : ∀ x ∈ e, IntOK x) (hc : m.count + 1 ≤ 4398046511104) (A : Option Addr) (c : Nat) : MacOK (Mac.applied m k q A c) := by
  refine ⟨by simp [Mac.applied, List.length_take]; omega, h.pairs, h.pok, fun y hy => ?_, fun y hy => ?_, hc⟩
  · rcases List.mem_append.1 hy with hy | hy
    · exact h.short y (List.mem_of_mem_take hy)
    · rw [List.mem_singleton] at hy; subst hy; rw [hq]; exact hs
  · rcases List.mem_append.1 hy with hy | hy
    · exact h.iok y (List.mem_of_mem_take hy)
    · rw [List.mem_singleton] at hy; subst hy; rw [hq]; exact hi
theorem ents_push (m : Mac) (q : BI) (A : Option Addr) (c : Nat) : (m.push q A c).ents = m.ents ++ [q.ex] := by simp [Mac.ents, Mac.push]
theorem ents_applied (m : Mac) (k : Nat) (q : BI) (A : Option Addr) (c : Nat) : (Mac.applied m k q A c).ents = m.ents.take k ++ [q.ex] := by simp [Mac.ents, Mac.applied, List.map_take]
theorem ents_len (m : Mac) : m.ents.length = m.items.length := by simp [Mac.ents]
theorem ents_iok {m : Mac} (h : MacOK m) : ∀ e ∈ m.ents, ∀ x ∈ e, IntOK x := by
  intro e he
  obtain ⟨q, hq, rfl⟩ := List.mem_map.1 he
  exact h.iok q hq
theorem top_under {bel ents : List Ex} (h : ents ≠ []) : topE (bel ++ ents) = topE ents := by
  unfold topE
  rw [List.getLast?_append]
  cases hl : ents.getLast? with
  | none => exact absurd (List.getLast?_eq_none_iff.1 hl) h
  | some x => rfl
/-- The machine on others' entries, beside the one without. -/
structure UR (bel : List Ex) (i : Nat) (m u : Mac) : Prop where
  mo : MacOK m
  uo : MacOK u
  ents : u.ents = bel ++ m.ents
  cnt : u.count = m.count
  few : m.count ≤ i
  ps : u.ps = m.ps
theorem UR.len {bel : List Ex} {i : Nat} {m u : Mac} (h : UR bel i m u) : u.items.length = bel.length + m.items.length := by
  have := congrArg List.length h.ents
  rw [List.length_append, ents_len, ents_len] at this
  exact this
theorem UR.push {bel : List Ex} {i : Nat} {m u : Mac} (h : UR bel i m u) (hl : u.items.length < 40) {q q' : BI} {e : Ex} (hq : q.ex = e) (hq' : q'.ex = e) (hs : e.length ≤ 1048576) (hi : ∀ x ∈ e, IntOK x) (A A' : Option Addr) (c c' : Nat) : UR bel (i + 1) (m.push q A c) (u.push q' A' c') :=
  ⟨push_fit h.mo (by have := h.len; omega) hq hs hi A c, push_fit h.uo hl hq' hs hi A' c', by rw [ents_push, ents_push, h.ents, hq, hq', List.append_assoc], h.cnt, Nat.le_succ_of_le h.few, h.ps⟩
theorem UR.applied {bel : List Ex} {i : Nat} {m u : Mac} (h : UR bel i m u) (hi1 : i ≤ 1048576) {n : Nat} (hn : n ≤ m.items.length) (hk : u.items.length - n < 40) {q q' : BI} {e : Ex} (hq : q.ex = e) (hq' : q'.ex = e) (hs : e.length ≤ 1048576) (hi : ∀ x ∈ e, IntOK x) (A A' : Option Addr) (c c' : Nat) :
    UR bel (i + 1) (Mac.applied m (m.items.length - n) q A c) (Mac.applied u (u.items.length - n) q' A' c') := by
  have hl := h.len
  refine ⟨applied_fit h.mo (by omega) hq hs hi (by have := h.few; omega) A c, applied_fit h.uo hk hq' hs hi (by have := h.few; have := h.cnt; omega) A' c', ?_, by show u.count + 1 = m.count + 1; rw [h.cnt], by have := h.few; show m.count + 1 ≤ i + 1; omega, h.ps⟩
  rw [ents_applied, ents_applied, h.ents, hq, hq', show u.items.length - n = bel.length + (m.items.length - n) by omega, List.take_length_add_append, List.append_assoc]
theorem UR.more {bel : List Ex} {i j : Nat} {m u : Mac} (h : UR bel i m u) (hj : i ≤ j) : UR bel j m u := ⟨h.mo, h.uo, h.ents, h.cnt, Nat.le_trans h.few hj, h.ps⟩
/-- A step on a machine. -/
structure Ob where
  k : Int
  e : Ex
  n : Int
def OpC (w : World) (A : Option Addr) (xs : List Ob) : Prop := ∀ i (h : i < xs.length), ∃ (ad : Addr) (EA : Option Addr) (ec : Nat), A = some ad ∧ w.cell? (ad.add (i * 3)) = some (.int .i64 xs[i].k) ∧ w.cell? ⟨(ad.add (i * 3)).block, (ad.add (i * 3)).off + 1, none⟩ = some (.slice EA xs[i].e.length ec) ∧
  w.cell? ⟨(ad.add (i * 3)).block, (ad.add (i * 3)).off + 2, none⟩ = some (.int .i64 xs[i].n) ∧ xs[i].e.length ≤ ec ∧ Kd.C kI w EA xs[i].e.length xs[i].e
theorem OpC.below {w w' : World} {A : Option Addr} {xs : List Ob} (h : OpC w A xs) (hb : Below w.heap.size w w') : OpC w' A xs := by
  intro i hi
  obtain ⟨ad, EA, ec, e, h0, h1, h2, h3, h4⟩ := h i hi
  exact ⟨ad, EA, ec, e, VarW.cell_on hb h0, VarW.cell_on hb h1, VarW.cell_on hb h2, h3, Kd.C_below h4 hb⟩
structure ObOK (x : Ob) : Prop where
  len : x.e.length ≤ 1048576
  iok : ∀ y ∈ x.e, IntOK y
theorem apply_fi {W w : World} {rs : List Res} {p : Nat} {m : Mac} (h : Sep W w (macR p m :: rs)) (hm : MacOK m) {f : FI} (hf : f.OK) (hC : FrC f w) (r : Except Int Ex) (hr : r = applyE VB m.ps f.fr m.ents) :
    Calls Tryz.prog 35 #[.pointer (some ⟨p, 0, none⟩), .agg #[.slice f.hA f.hs.length f.hc, .slice f.pA f.ps.length f.pc, .slice f.gA f.goal.length f.gc]] w (ApplyOut W p m r (m.items.length - f.hs.length) rs) := by
  have h1 := apply_calls (c := f.hc) (d := f.pc) (g := f.gc) h hm hf.fr hC.1 hC.2.1 hC.2.2 hf.pok r hr
  have e1 : f.fr.hyps.length = f.hs.length := List.length_map ..
  rw [e1] at h1
  exact h1
theorem fr_len (f : FI) : f.fr.hyps.length = f.hs.length := List.length_map ..
/-- A frame out of a list of frames. -/
theorem frame_cells {W w : World} {rs : List Res} {A : Option Addr} {c n : Nat} {fi : List FI} (h : Sep W w (rowR 68 3 (.slice A n c) n (cellsF fi) :: rs)) (hn : n = fi.length) {i : Nat} (hi : i < fi.length) :
    ∃ b, A = some ⟨b, 0, none⟩ ∧ w.cell? ⟨b, i * 3, none⟩ = some (.slice fi[i].hA fi[i].hs.length fi[i].hc) ∧ w.cell? ⟨b, i * 3 + 1, none⟩ = some (.slice fi[i].pA fi[i].ps.length fi[i].pc) ∧ w.cell? ⟨b, i * 3 + 2, none⟩ = some (.slice fi[i].gA fi[i].goal.length fi[i].gc) := by
  obtain ⟨b, cap, e, _, hcell, _⟩ := row_some h.row (by omega)
  simp only [Value.slice.injEq, true_and] at e
  obtain ⟨n1, n2, n3⟩ := cellsF_at fi hi
  exact ⟨b, e.1, hcell _ _ n1, hcell _ _ n2, hcell _ _ n3⟩
end Go.Proofs.YtcfocbfocemapaaGreat.UndC
