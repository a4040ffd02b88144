/- FrmG, FrmH. -/
import Derived.Test.YtcfocbfocemapaaGreatU13
import Derived.Test.YtcfocbfocemapaaGreatU14
namespace Go.Proofs.YtcfocbfocemapaaGreat.FrmG
open Go.RowKit Go.Maps Go.Lib Go.Proofs.YtcfocbfocemapaaGreat.Sep Go.Proofs.YtcfocbfocemapaaGreat.Mem Go.Proofs.YtcfocbfocemapaaGreat.Sets Go.Proofs.YtcfocbfocemapaaGreat.PlayP Go.Proofs.YtcfocbfocemapaaGreat.BindP Go.Proofs.YtcfocbfocemapaaGreat.PStackPlays Go.Proofs.YtcfocbfocemapaaGreat.DistA Go.Proofs.YtcfocbfocemapaaGreat.IterA Go.Proofs.YtcfocbfocemapaaGreat.SortB Go.Proofs.YtcfocbfocemapaaGreat.DistB Go.Proofs.YtcfocbfocemapaaGreat.DistC Go.Proofs.YtcfocbfocemapaaGreat.SubA Go.Proofs.YtcfocbfocemapaaGreat.BindW Go.Proofs.YtcfocbfocemapaaGreat.StkA Go.Proofs.YtcfocbfocemapaaGreat.ApplyW Go.Proofs.YtcfocbfocemapaaGreat.FrmA Go.Proofs.YtcfocbfocemapaaGreat.FrmB Go.Proofs.YtcfocbfocemapaaGreat.Brk
open Go.Proofs.YtcfocbfocemapaaGreatW.PrintWords Go.Proofs.YtcfocbfocemapaaGreatW.PrintLast Go.Proofs.YtcfocbfocemapaaGreatW.PrintMore
set_option linter.unusedVariables false
set_option linter.unusedSimpArgs false
set_option maxRecDepth 100000

set_option maxHeartbeats 4000000 in
theorem check_calls {W w : World} {rs : List Res} {s : Nat} {m : FS} (h : Sep W w (m.rs s ++ rs)) (hm : m.OK) {B : Option Addr} {c : Nat} {x : Ex} (hX : Kd.C (Kd.int .i64) w B x.length x) (hxl : x.length ≤ 1048576) :
    Calls Tryz.prog 64 #[.pointer (some ⟨s, 0, none⟩), .slice B x.length c] w fun e w' => (∃ n : Int, e = .returned (.int .i64 n) ∧ (n = 0 → x ≠ [])) ∧ Below w.heap.size w w' := by
  have hcs := fs_b h
  have HS := Aside0.mk (fun w' (hb : Below w.heap.size w w') => ((hb.cell (World.block_lt_of_cell? _ _ hcs.1)).trans hcs.1 : w'.cell? ⟨s, 0, none⟩ = some (.func (.func 8) #[] #[])))
  have b0 := hcs.1
  have HM := Aside0.mk h
  have HO := Aside0.mk hm
  have HX := Aside0.mk hX
  clear h hm hcs hX
  cases x with
  | nil =>
    go_enter Tryz.func64, Tryz.ntmps64
    go_upto_region 1 with fail
    go_quiet (fail)
    go_wp2_with fail
    go_ret
    exact ⟨⟨72, rfl, fun h => by omega⟩, Drawn0.below ⟨nq, rfl⟩⟩
  | cons x0 xt =>
    obtain ⟨ad, rfl, k0⟩ := int_at HX.out (i := 0) (by simp)
    simp only [List.getElem_cons_zero] at k0
    rw [show ad.add 0 = ad from by simp [Addr.add]] at k0
    have h1 : ¬ (xt.length : Int) + 1 = 0 := by omega
    have h2 : (0 : Int) < (xt.length : Int) + 1 := by omega
    have h3 : (((xt.length : Int) + 1) == 0) = false := by simpa using h1
    obtain ⟨q, hq⟩ : ∃ q, q = VB x0 := ⟨_, rfl⟩
    have HV := Aside0.mk (fun w' => by have := vars_calls x0 w'; rw [← hq] at this; exact this)
    clear hq
    cases q with
    | true =>
      go_enter Tryz.func64, Tryz.ntmps64
      go_upto_region 1 with fail
      go_region_held3 (fun w' => w'.cell? ⟨s, 0, none⟩ = some (.func (.func 8) #[] #[]) ∧ w'.cell? ad = some (.int .i64 x0)) (first | exact ⟨b0, k0⟩ | exact ⟨HS.out _ hb5.out, c5.out⟩)
        (first
          | (go_at_call 8; refine (HV.out _).mono ?_; rintro e5 w5 ⟨rfl, hd5⟩; have hb5 := Aside0.mk ((below_drew (Below.refl w.heap.size w)).trans hd5.below); have c5 := Aside0.mk ((hb5.out.cell (World.block_lt_of_cell? _ _ k0)).trans k0); clear hd5)
          | fail)
      go_wp2_with fail
      go_ret
      exact ⟨⟨72, rfl, fun h => by omega⟩, hb5.out⟩
    | false =>
      have HEV := Aside0.mk (fun w' (hb : Below w.heap.size w w') => VarW.evars_calls (w := w') (some ad) c (x0 :: xt) (Kd.C_below HX.out hb) hxl)
      have hyl : (VarW.outK VB (x0 :: xt) (x0 :: xt).length).length ≤ 1048576 := by
        have := VarW.outK_len VB (x0 :: xt) (x0 :: xt).length (Nat.le_refl _)
        omega
      generalize VarW.outK VB (x0 :: xt) (x0 :: xt).length = ys at HEV hyl
      go_enter Tryz.func64, Tryz.ntmps64
      go_upto_region 1 with fail
      go_region_held3 (fun w' => w'.cell? ⟨s, 0, none⟩ = some (.func (.func 8) #[] #[]) ∧ w'.cell? ad = some (.int .i64 x0)) (first | exact ⟨b0, k0⟩ | exact ⟨HS.out _ hb5.out, c5.out⟩)
        (first
          | (go_at_call 8; refine (HV.out _).mono ?_; rintro e5 w5 ⟨rfl, hd5⟩; have hb5 := Aside0.mk ((below_drew (Below.refl w.heap.size w)).trans hd5.below); have c5 := Aside0.mk ((hb5.out.cell (World.block_lt_of_cell? _ _ k0)).trans k0); clear hd5)
          | fail)
      clear b0 k0
      have b0 := HS.out _ hb5.out
      go_wp2_with (go_at_call 71; refine (HEV.out _ hb5.out).mono ?_; rintro e6 w6 ⟨v, rfl, hown, hb6⟩; obtain ⟨A2, c2, rfl, hc2⟩ := row_slice hown; have hb7 := Aside0.mk (below_then hb5.out hb5.out.size hb6); have M := Aside0.mk ((Sep.start w).fresh (f := fun k => w.heap.size ≤ k) ⟨hb7.out.os, hb7.out.tape, hb7.out.output, hb7.out.size, fun k hk _ => hb7.out.block k hk⟩ (r := rowR 3 1 (.slice A2 ys.length c2) ys.length (ys.map num)) ⟨owns_zero hown, fun k hk => Nat.le_trans hb5.out.size (hown.lt k hk).1⟩ (fun _ hk => hk)); clear hown hb6 b0 hb5 hb7 HEV)
      clear c5 HX HV h1 h2 h3
      go_loopw [6, 7, 8, 29] (fun v6 v7 v8 v29 wr => ∃ (i : Nat), i ≤ ys.length ∧ v29 = .int .i64 i ∧ Aside0 (Sep w wr [rowR 3 1 (.slice A2 ys.length c2) ys.length (ys.map num)])) (fun _ _ _ v29 _ => ys.length - (intOf v29).toNat)
      case atStart => exact ⟨0, by omega, rfl, M⟩
      case round =>
        clear M
        obtain ⟨i, hi, rfl, M⟩ := hrel
        by_cases hlt : i < ys.length
        · obtain ⟨ad2, rfl, kx⟩ := int_at (row_Ci M.out.row (by omega)).2 hlt
          have hty := type_calls (HM.out.below M.out.1) HO.out ys[i] (decide (ys[i] ∈ flVars m.hyps)) rfl
          generalize decide (ys[i] ∈ flVars m.hyps) = q at hty
          generalize ys[i] = y at kx hty
          cases q with
          | true =>
            go_wp2_with (go_at_call 61; refine hty.mono ?_; clear hty; rintro e8 w8 ⟨⟨t, rfl⟩, hb8⟩; have M2 := Aside0.mk (M.out.below hb8); clear hb8 kx M)
            go_roundw
            case rel => exact ⟨i + 1, by omega, by go_num, M2⟩
            case measure => simp [intOf]; omega
          | false =>
            go_wp2_with (go_at_call 61; refine hty.mono ?_; clear hty; rintro e8 w8 ⟨⟨t, rfl⟩, hb8⟩; have M2 := Aside0.mk (M.out.below hb8); clear hb8 kx M)
            go_ret
            exact ⟨⟨70, rfl, fun h => by omega⟩, M2.out.1⟩
        · have hie : i = ys.length := by omega
          subst hie
          go_wp2_with fail
          go_ret
          exact ⟨⟨0, rfl, fun _ => by simp⟩, M.out.1⟩
end Go.Proofs.YtcfocbfocemapaaGreat.FrmG

namespace Go.Proofs.YtcfocbfocemapaaGreat.FrmH
open Go.RowKit Go.Maps Go.Lib Go.Proofs.YtcfocbfocemapaaGreat.Sep Go.Proofs.YtcfocbfocemapaaGreat.Mem Go.Proofs.YtcfocbfocemapaaGreat.Sets Go.Proofs.YtcfocbfocemapaaGreat.PlayP Go.Proofs.YtcfocbfocemapaaGreat.BindP Go.Proofs.YtcfocbfocemapaaGreat.PStackPlays Go.Proofs.YtcfocbfocemapaaGreat.DistA Go.Proofs.YtcfocbfocemapaaGreat.IterA Go.Proofs.YtcfocbfocemapaaGreat.SortB Go.Proofs.YtcfocbfocemapaaGreat.DistB Go.Proofs.YtcfocbfocemapaaGreat.DistC Go.Proofs.YtcfocbfocemapaaGreat.SubA Go.Proofs.YtcfocbfocemapaaGreat.BindW Go.Proofs.YtcfocbfocemapaaGreat.StkA Go.Proofs.YtcfocbfocemapaaGreat.ApplyW Go.Proofs.YtcfocbfocemapaaGreat.FrmA Go.Proofs.YtcfocbfocemapaaGreat.FrmB Go.Proofs.YtcfocbfocemapaaGreat.Brk Go.Proofs.YtcfocbfocemapaaGreat.LibC Go.Proofs.YtcfocbfocemapaaGreat.FrmF Go.Proofs.YtcfocbfocemapaaGreat.FrmG
open Go.Proofs.YtcfocbfocemapaaGreatW.PrintWords Go.Proofs.YtcfocbfocemapaaGreatW.PrintLast Go.Proofs.YtcfocbfocemapaaGreatW.PrintMore
set_option linter.unusedVariables false
set_option linter.unusedSimpArgs false
set_option maxRecDepth 100000

/-- What is kept along what is said: at most so many hypotheses. -/
structure FInv (k : Nat) (m : FS) : Prop where
  ok : m.OK
  few : m.hi.length ≤ k
  pfew : m.ps.length ≤ 256
  pok : ∀ p ∈ m.ps, PairOK (prP p)
  iok : ∀ q ∈ m.hi, IntOK q.x ∧ ∀ x ∈ q.ex, IntOK x
  sx : ∀ q ∈ m.hi, q.ex.length ≤ 1048576
theorem FInv.more {k k' : Nat} {m : FS} (h : FInv k m) (hk : k ≤ k') : FInv k' m := ⟨h.ok, Nat.le_trans h.few hk, h.pfew, h.pok, h.iok, h.sx⟩
theorem hyps_more (m : FS) (q : HI) (A : Option Addr) (c : Nat) : FS.hyps { m with hA := A, hc := c, hi := m.hi ++ [q] } = m.hyps ++ [q.hy] := by simp [FS.hyps]
theorem fl_snoc (hs : List Hy) (h : Hy) : flVars (hs ++ [h]) = flVars hs ++ (if h.f1 then [h.f2] else []) := by
  unfold flVars
  rw [List.filter_append, List.map_append]
  cases hf : h.f1 <;> simp [hf]
theorem inv_more {k : Nat} {m : FS} (h : FInv k m) (hk : k ≤ 1048576) {q : HI} (hs : q.ex.length ≤ 1048576) (ht : q.f1 = true → q.ex ≠ []) (hn : q.f1 = true → q.x ∉ flVars m.hyps) (hi : IntOK q.x ∧ ∀ x ∈ q.ex, IntOK x) (A : Option Addr) (c : Nat) : FInv (k + 1) { m with hA := A, hc := c, hi := m.hi ++ [q] } := by
  have hf := h.few
  refine ⟨⟨?_, ?_, ?_, ?_⟩, ?_, h.pfew, h.pok, ?_, ?_⟩
  · simp only [List.length_append, List.length_singleton]; omega
  · intro y hy
    rcases List.mem_append.1 hy with hy | hy
    · exact h.ok.short y hy
    · simp only [List.mem_singleton] at hy; subst hy; omega
  · intro y hy
    rcases List.mem_append.1 hy with hy | hy
    · exact h.ok.typed y hy
    · simp only [List.mem_singleton] at hy; subst hy; exact ht
  · rw [hyps_more, fl_snoc]
    have hq : q.hy.f1 = q.f1 := rfl
    have hx : q.hy.f2 = q.x := rfl
    rw [hq, hx]
    cases hf1 : q.f1 with
    | false => simpa using h.ok.nodup
    | true =>
      rw [if_pos rfl, List.nodup_append]
      refine ⟨h.ok.nodup, by simp, ?_⟩
      intro a ha b hb
      simp only [List.mem_singleton] at hb
      subst hb
      exact fun e => hn hf1 (e ▸ ha)
  · simp only [List.length_append, List.length_singleton]; omega
  · intro y hy
    rcases List.mem_append.1 hy with hy | hy
    · exact h.iok y hy
    · simp only [List.mem_singleton] at hy; subst hy; exact hi
  · intro y hy
    rcases List.mem_append.1 hy with hy | hy
    · exact h.sx y hy
    · simp only [List.mem_singleton] at hy; subst hy; exact hs
theorem below_d {n : Nat} {w w1 w2 : World} (h : Below n w w1) (hd : Drawn0 w1 w2) : Below n w w2 := by
  obtain ⟨q, rfl⟩ := hd
  exact pw_below_drewN h q
/-- A call that tells a number; the stack's state may have turned. -/
def Kept (W : World) (s k : Nat) (rs : List Res) (e : Ending) (w' : World) : Prop := ∃ n : Int, e = .returned (.int .i64 n) ∧ ∃ m : FS, FInv k m ∧ Sep W w' (m.rs s ++ rs)
set_option maxHeartbeats 4000000 in
theorem float_calls {W w : World} {rs : List Res} {s k : Nat} {m : FS} (h : Sep W w (m.rs s ++ rs)) (hm : FInv k m) (hk : k ≤ 1048576) (lab : ByteArray) (t x : Int) (hot : IntOK t) (hox : IntOK x) :
    Calls Tryz.prog 43 #[.pointer (some ⟨s, 0, none⟩), .string lab, .int .i64 t, .int .i64 x] w (Kept W s (k + 1) rs) := by
  have HM := Aside0.mk h
  have HO := Aside0.mk hm
  have HS := Aside0.mk (fun w' (hb : Below w.heap.size w w') => ((hb.cell (World.block_lt_of_cell? _ _ (fs_b h).1)).trans (fs_b h).1 : w'.cell? ⟨s, 0, none⟩ = some (.func (.func 8) #[] #[])))
  have hty := type_calls h hm.ok x (decide (x ∈ flVars m.hyps)) rfl
  have HQ := Aside0.mk (show decide (x ∈ flVars m.hyps) = false → x ∉ flVars m.hyps from fun h => by simpa using h)
  generalize decide (x ∈ flVars m.hyps) = q at hty HQ
  obtain ⟨q1, hq1⟩ : ∃ q1, q1 = VB x := ⟨_, rfl⟩
  have HV1 := Aside0.mk (fun w' => by have := vars_calls x w'; rw [← hq1] at this; exact this)
  obtain ⟨q2, hq2⟩ : ∃ q2, q2 = VB t := ⟨_, rfl⟩
  have HV2 := Aside0.mk (fun w' => by have := vars_calls t w'; rw [← hq2] at this; exact this)
  clear h hm hq1 hq2
  go_enter Tryz.func43, Tryz.ntmps43
  go_upto_region 2 with (go_at_call 61; refine hty.mono ?_; clear hty; rintro e1 w1 ⟨⟨t1, rfl⟩, hb1⟩; have B1 := Aside0.mk hb1; clear hb1)
  have b0 := HS.out _ B1.out
  cases q1 with
  | false =>
    go_wp2_with (go_at_call 8; refine (HV1.out _).mono ?_; rintro e2 w2 ⟨rfl, hd2⟩; have B2 := Aside0.mk (below_d B1.out hd2); clear hd2 b0)
    go_ret
    exact ⟨71, rfl, m, HO.out.more (by omega), HM.out.below B2.out⟩
  | true =>
    go_upto_region 4 with (go_at_call 8; refine (HV1.out _).mono ?_; rintro e2 w2 ⟨rfl, hd2⟩; have B2 := Aside0.mk (below_d B1.out hd2); clear hd2 b0 B1)
    have b0 := HS.out _ B2.out
    cases q2 with
    | true =>
      go_wp2_with (go_at_call 8; refine (HV2.out _).mono ?_; rintro e3 w3 ⟨rfl, hd3⟩; have B3 := Aside0.mk (below_d B2.out hd3); clear hd3 b0)
      go_ret
      exact ⟨72, rfl, m, HO.out.more (by omega), HM.out.below B3.out⟩
    | false =>
      cases q with
      | true =>
        go_wp2_with (go_at_call 8; refine (HV2.out _).mono ?_; rintro e3 w3 ⟨rfl, hd3⟩; have B3 := Aside0.mk (below_d B2.out hd3); clear hd3 b0)
        go_ret
        exact ⟨70, rfl, m, HO.out.more (by omega), HM.out.below B3.out⟩
      | false =>
        go_upto_region 8 with (go_at_call 8; refine (HV2.out _).mono ?_; rintro e3 w3 ⟨rfl, hd3⟩; have M3 := Aside0.mk (HM.out.below (below_d B2.out hd3)); clear hd3 b0 B2)
        go_wp2_with (first
          | (go_at_call 62; refine (inner_calls M3.out).mono ?_; rintro e4 w4 ⟨rfl, hd4⟩; have M4 := Aside0.mk (row_lits (M3.out.drawn hd4) 3 1 2 #[.int .i64 t, .int .i64 x] rfl (by decide)); clear hd4 M3)
          | (go_at_call 63; refine (declare_calls (q := ⟨lab, true, x, [t, x], some ⟨w4.heap.size, 0, none⟩, 2⟩) M4.out (by have := HO.out.few; omega)).mono ?_; rintro e5 w5 ⟨rfl, A5, c5, hm5⟩; have M5 := Aside0.mk hm5; clear hm5 M4)
          | fail)
        go_ret
        exact ⟨0, rfl, _, inv_more HO.out hk (q := ⟨lab, true, x, [t, x], some ⟨w4.heap.size, 0, none⟩, 2⟩) (by simp) (by simp) (fun _ => HQ.out (by first | exact trivial | rfl)) ⟨hox, fun y hy => by simp at hy; rcases hy with rfl | rfl <;> assumption⟩ A5 c5, M5.out⟩
set_option maxHeartbeats 4000000 in
theorem ess_calls {W w : World} {rs : List Res} {s k : Nat} {m : FS} (h : Sep W w (m.rs s ++ rs)) (hm : FInv k m) (hk : k ≤ 1048576) (lab : ByteArray) {B : Option Addr} {c : Nat} {x : Ex} (hX : Kd.C (Kd.int .i64) w B x.length x) (hxl : x.length ≤ 1048576) (hio : ∀ y ∈ x, IntOK y) :
    Calls Tryz.prog 44 #[.pointer (some ⟨s, 0, none⟩), .string lab, .slice B x.length c] w (Kept W s (k + 1) rs) := by
  have HM := Aside0.mk h
  have HO := Aside0.mk hm
  have HX := Aside0.mk hX
  have HI := Aside0.mk hio
  have hck := check_calls (c := c) h hm.ok hX hxl
  clear h hm hX hio
  go_enter Tryz.func44, Tryz.ntmps44
  go_upto_region 2 with (go_at_call 64; refine hck.mono ?_; clear hck; rintro e1 w1 ⟨⟨n, rfl, -⟩, hb1⟩; have B1 := Aside0.mk hb1; clear hb1)
  by_cases hn : n = 0
  · have HN := Aside0.mk hn
    have hnb : (n == 0) = true := by simpa using hn
    have hnn : (n != 0) = false := by simp [hn]
    clear hn
    go_upto_region 4 with fail
    have MX := Aside0.mk (HM.out.below B1.out)
    have CX := Aside0.mk (Kd.C_below HX.out B1.out)
    go_region_held3 (fun _ => True) (exact trivial)
      (first
        | (go_at_call 62; refine (inner_calls (MX.out.drawn ⟨1, rfl⟩)).mono ?_; rintro e4 w4 ⟨rfl, hd4⟩; have M4 := Aside0.mk ((MX.out.drawn ⟨1, rfl⟩).drawn hd4); have C4 := Aside0.mk (show Kd.C (Kd.int .i64) w4 B x.length x from Kd.C_below CX.out ((Drawn0.below ⟨1, rfl⟩ : Below _ w1 w1.drew).trans hd4.below)); clear hd4 MX CX)
        | (go_at_call 40; refine (clone_calls M4.out C4.out (by omega)).mono ?_; rintro e5 w5 ⟨A5, c5, rfl, hc5, hm5⟩; have M5 := Aside0.mk hm5; clear M4 C4 hm5)
        | (go_at_call 63; refine (declare_calls (q := ⟨lab, false, -1, x, A5, c5⟩) M5.out (by have := HO.out.few; omega)).mono ?_; rintro e6 w6 ⟨rfl, A6, c6, hm6⟩; have M6 := Aside0.mk hm6; clear hm6 M5)
        | fail)
    go_wp2_with fail
    go_ret
    exact ⟨0, rfl, _, inv_more HO.out hk (q := ⟨lab, false, -1, x, A5, c5⟩) (by simp; omega) (by simp) (by simp) ⟨(show IntOK (-1) by decide +kernel), HI.out⟩ A6 c6, M6.out⟩
  · have hnb : (n == 0) = false := by simpa using hn
    have hnn : (n != 0) = true := by simpa using hn
    go_wp2_with fail
    go_ret
    exact ⟨n, rfl, m, HO.out.more (by omega), HM.out.below B1.out⟩
end Go.Proofs.YtcfocbfocemapaaGreat.FrmH
