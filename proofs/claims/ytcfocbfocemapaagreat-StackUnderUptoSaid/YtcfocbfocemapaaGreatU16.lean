/- FrmJ, FrmK, FrmL. -/
import Derived.Test.YtcfocbfocemapaaGreatU13
import Derived.Test.YtcfocbfocemapaaGreatU15
import Derived.Test.YtcfocbfocemapaaGreatU2
namespace Go.Proofs.YtcfocbfocemapaaGreat.FrmJ
open Go.RowKit Go.Maps Go.Lib Go.Proofs.YtcfocbfocemapaaGreat.Sep Go.Proofs.YtcfocbfocemapaaGreat.Mem Go.Proofs.YtcfocbfocemapaaGreat.Sets Go.Proofs.YtcfocbfocemapaaGreat.PlayP Go.Proofs.YtcfocbfocemapaaGreat.BindP Go.Proofs.YtcfocbfocemapaaGreat.PStackPlays Go.Proofs.YtcfocbfocemapaaGreat.DistA Go.Proofs.YtcfocbfocemapaaGreat.IterA Go.Proofs.YtcfocbfocemapaaGreat.SortB Go.Proofs.YtcfocbfocemapaaGreat.DistB Go.Proofs.YtcfocbfocemapaaGreat.DistC Go.Proofs.YtcfocbfocemapaaGreat.SubA Go.Proofs.YtcfocbfocemapaaGreat.BindW Go.Proofs.YtcfocbfocemapaaGreat.StkA Go.Proofs.YtcfocbfocemapaaGreat.ApplyW Go.Proofs.YtcfocbfocemapaaGreat.FrmA Go.Proofs.YtcfocbfocemapaaGreat.FrmB Go.Proofs.YtcfocbfocemapaaGreat.Brk Go.Proofs.YtcfocbfocemapaaGreat.LibC Go.Proofs.YtcfocbfocemapaaGreat.FrmD Go.Proofs.YtcfocbfocemapaaGreat.FrmE Go.Proofs.YtcfocbfocemapaaGreat.FrmF Go.Proofs.YtcfocbfocemapaaGreat.FrmG Go.Proofs.YtcfocbfocemapaaGreat.FrmH Go.Proofs.YtcfocbfocemapaaGreat.FrmP Go.Proofs.YtcfocbfocemapaaGreat.CntM
open Go.Proofs.YtcfocbfocemapaaGreatW.PrintWords Go.Proofs.YtcfocbfocemapaaGreatW.PrintLast Go.Proofs.YtcfocbfocemapaaGreatW.PrintMore
set_option linter.unusedVariables false
set_option linter.unusedSimpArgs false
set_option maxRecDepth 100000

theorem tdiv_two (n : Nat) (h : n ≤ 256) : IntKind.i64.wrap ((n : Int) * ((n : Int) - 1)) = (n : Int) * ((n : Int) - 1) := by
  have h1 : (n : Int) * ((n : Int) - 1) ≤ 256 * 256 := by
    rcases Nat.eq_zero_or_pos n with h0 | h0
    · subst h0; simp
    · exact Int.mul_le_mul (by omega) (by omega) (by omega) (by omega)
  have h2 : -256 ≤ (n : Int) * ((n : Int) - 1) := by
    rcases Nat.eq_zero_or_pos n with h0 | h0
    · subst h0; simp
    · have : (0 : Int) ≤ (n : Int) * ((n : Int) - 1) := Int.mul_nonneg (by omega) (by omega)
      omega
  rw [i64_w]
  unfold Go.RowKit.wrap64
  omega
set_option maxHeartbeats 8000000 in
theorem dist_calls {W w : World} {rs : List Res} {s k : Nat} {m : FS} (h : Sep W w (m.rs s ++ rs)) (hm : FInv k m) {A : Option Addr} {c : Nat} {vs : Ex} (hX : Kd.C (Kd.int .i64) w A vs.length vs) (hxl : vs.length ≤ 1048576) (hc : vs.length ≤ c) (hio : ∀ x ∈ vs, IntOK x) :
    Calls Tryz.prog 46 #[.pointer (some ⟨s, 0, none⟩), .slice A vs.length c] w (Kept W s k rs) := by
  have HM := Aside0.mk h
  have HO := Aside0.mk hm
  have HX := Aside0.mk hX
  have HI := Aside0.mk hio
  have HS := Aside0.mk (fun w' (hb : Below w.heap.size w w') => ((hb.cell (World.block_lt_of_cell? _ _ (fs_b h).1)).trans (fs_b h).1 : w'.cell? ⟨s, 0, none⟩ = some (.func (.func 8) #[] #[])))
  have M := Aside0.mk (cnt_fresh (Sep.start w))
  have HC := Aside0.mk hc
  clear h hm hX hio hc
  have hmm := @run_makeMap Tryz.prog
  go_enter Tryz.func46, Tryz.ntmps46
  go_wp2_with fail
  clear hmm
  go_loopw [7, 14] (fun v7 v14 wr => ∃ (i : Nat), i ≤ vs.length ∧ v14 = .int .i64 i ∧ Aside0 (Sep w wr [cntR w.heap.size i])) (fun _ v14 _ => vs.length - (intOf v14).toNat)
  case atStart => exact ⟨0, by omega, rfl, M⟩
  case round =>
    clear M
    obtain ⟨i, hi, rfl, M⟩ := hrel
    by_cases hlt : i < vs.length
    · obtain ⟨ad, rfl, kx⟩ := int_at (Kd.C_below HX.out M.out.1) hlt
      have ho := Aside0.mk (HI.out _ (List.getElem_mem hlt))
      generalize vs[i] = x at kx ho
      have b0 := HS.out _ M.out.1
      obtain ⟨q1, hq1⟩ : ∃ q1, q1 = VB x := ⟨_, rfl⟩
      have HV1 := Aside0.mk (fun w' => by have := vars_calls x w'; rw [← hq1] at this; exact this)
      clear hq1
      cases q1 with
      | false =>
        go_wp2_with (go_at_call 8; refine (HV1.out _).mono ?_; rintro e2 w2 ⟨rfl, hd2⟩; have M2 := Aside0.mk (M.out.drawn hd2); clear hd2 b0 M kx)
        go_ret
        exact ⟨71, rfl, m, HO.out, HM.out.below M2.out.1⟩
      | true =>
        go_upto_region 7 with (go_at_call 8; refine (HV1.out _).mono ?_; rintro e2 w2 ⟨rfl, hd2⟩; have M2 := Aside0.mk (M.out.drawn hd2); clear hd2 b0 M kx)
        obtain ⟨n0, hn0, hlook⟩ := (cnt_at M2.out).look ho.out
        have hwr := intOK_wrap (n0 + 1)
        go_wp2_with (at_mapUpdate; refine wp_cput (k := x) (v := wrap64 (n0 + 1)) rfl _ _ _ rfl rfl rfl rfl (cnt_at M2.out) ho.out hwr (by unfold maxLen; omega) ?_; intro w3 hm3 hg3; have hM3 := Aside0.mk (cnt_turn M2.out hm3 hg3); clear M2 hm3 hg3 hlook)
        go_roundw
        case rel => exact ⟨i + 1, by omega, by go_num, hM3⟩
        case measure => simp [intOf]; omega
    · have hie : i = vs.length := by omega
      subst hie
      obtain ⟨D, hD⟩ := cnt_at M.out
      obtain ⟨nd, hnd⟩ : ∃ nd, Maps.size D = nd := ⟨_, rfl⟩
      have HD := Aside0.mk hD
      have HND := Aside0.mk hnd
      clear hD hnd
      by_cases hfew : nd < vs.length
      · have hf1 : (nd : Int) < (vs.length : Int) := by omega
        go_wp2_with (first
          | (at_len; refine wp_clen rfl _ rfl rfl HD.out HND.out ?_)
          | fail)
        go_ret
        exact ⟨50, rfl, m, HO.out, HM.out.below M.out.1⟩
      · by_cases hbig : 256 < vs.length
        · have hb1 : (256 : Int) < (vs.length : Int) := by omega
          go_wp2_with (first
            | (at_len; refine wp_clen rfl _ rfl rfl HD.out HND.out ?_)
            | fail)
          go_ret
          exact ⟨22, rfl, m, HO.out, HM.out.below M.out.1⟩
        · have hb1 : ¬ (256 : Int) < (vs.length : Int) := by omega
          have hw1 : IntKind.i64.wrap ((vs.length : Int) - 1) = (vs.length : Int) - 1 := by rw [i64_w]; unfold Go.RowKit.wrap64; omega
          have hw2 := tdiv_two vs.length (by omega)
          go_upto_region 12 with (first
            | (at_len; refine wp_clen rfl _ rfl rfl HD.out HND.out ?_)
            | fail)
          go_wp2_with fail
          · go_ret
            exact ⟨22, rfl, m, HO.out, HM.out.below M.out.1⟩
          · clear hw1 hw2 hb1
            have hall := all_calls (ca := c) (read_old M.out (C := fun w' => Kd.C kI w' A vs.length vs) (fun w' hw => Kd.Heap.C (Kd.heap_int .i64) hw HX.out)) (fun w' hw => hw) HI.out (by omega) HC.out
            refine hall.mono ?_
            clear hall
            rintro e1 w1 ⟨v, ss, c1, rfl, hsl, hpo, -, hm1⟩
            obtain ⟨B, d, l, rfl, hd, rfl, hm1b⟩ := row_S50 hm1
            rw [List.length_map] at hsl
            have M1 := Aside0.mk hm1b
            have HP := Aside0.mk (fun p (hp : p ∈ l) => hpo (prP p) (List.mem_map_of_mem hp))
            clear hm1 hm1b hpo M hd
            by_cases hc1 : c1 = 0
            · have HC1 := Aside0.mk hc1
              have hcb : (c1 != 0) = false := by simp [hc1]
              have hcc : (c1 == 0) = true := by simp [hc1]
              clear hc1
              have hac := active2 (HM.out.below M1.out.1) M1.out (by have := HO.out.pfew; omega) HO.out.pok
              have hb2 : ¬ c1 ≠ 0 := by rw [HC1.out]; simp
              go_upto_region 17 with fail
              go_wp2_with (first
                | (go_at_call 67; refine hac.mono ?_; clear hac; rintro e2 w2 ⟨B2, d2, act, rfl, hd2, hlo2, hal, hm2⟩; have M2 := Aside0.mk hm2; have HL2 := Aside0.mk hlo2; have hun := union2 hm2 (fun p hp => hlo2.2.1 _ (List.mem_map_of_mem hp)) HP.out (by have := HO.out.pfew; omega) (by omega); clear hm2 hlo2 hd2 M1)
                | (go_at_call 66; refine hun.mono ?_; clear hun; rintro e3 w3 ⟨B3, d3, un, rfl, hd3, hlo3, hm3⟩; have M3 := Aside0.mk hm3; have HL3 := Aside0.mk hlo3; clear hm3 hlo3 hd3 M2)
                | fail)
              · go_ret
                exact ⟨22, rfl, m, HO.out, HM.out.below M3.out.1⟩
              · have hunl : un.length ≤ 256 := by omega
                have hCl := row_CP (M3.out.pull 2 (by simp)).row (by omega)
                go_wp2_with (first
                  | (go_at_call 62; refine (inner_calls (HM.out.below M3.out.1)).mono ?_; rintro e4 w4 ⟨rfl, hd4⟩; have M4 := Aside0.mk ((HM.out.below M3.out.1).drawn hd4); have hap := apart_calls (c := d) M4.out (by have := HO.out.pfew; omega) HO.out.pok (Kd.C_below hCl hd4.below) (by omega) HP.out; clear hCl hd4)
                  | (go_at_call 68; refine hap.mono ?_; clear hap; rintro e5 w5 ⟨rfl, A5, c5, ss5, hlo5, hsl5, hm5⟩; have M5 := Aside0.mk hm5; have HL5 := Aside0.mk hlo5; clear hm5 hlo5 hsl5 M4)
                  | fail)
                go_ret
                have hlen : ss5.length = un.length := by
                  have := union_len HL2.out HL3.out HL5.out
                  simpa using this
                exact ⟨0, rfl, { m with pA := A5, pc := c5, ps := ss5 }, ⟨⟨HO.out.ok.few, HO.out.ok.short, HO.out.ok.typed, HO.out.ok.nodup⟩, HO.out.few, (by show ss5.length ≤ 256; omega), fun p hp => HL5.out.2.1 _ (List.mem_map_of_mem hp), HO.out.iok, HO.out.sx⟩, M5.out⟩
            · have hcb : (c1 != 0) = true := by simpa using hc1
              have hcc : (c1 == 0) = false := by simpa using hc1
              go_wp2_with fail
              go_ret
              exact ⟨c1, rfl, m, HO.out, HM.out.below M1.out.1⟩
end Go.Proofs.YtcfocbfocemapaaGreat.FrmJ

namespace Go.Proofs.YtcfocbfocemapaaGreat.FrmK
open Go.RowKit Go.Maps Go.Lib Go.Proofs.YtcfocbfocemapaaGreat.Sep Go.Proofs.YtcfocbfocemapaaGreat.Mem Go.Proofs.YtcfocbfocemapaaGreat.Sets Go.Proofs.YtcfocbfocemapaaGreat.PlayP Go.Proofs.YtcfocbfocemapaaGreat.BindP Go.Proofs.YtcfocbfocemapaaGreat.PStackPlays Go.Proofs.YtcfocbfocemapaaGreat.DistA Go.Proofs.YtcfocbfocemapaaGreat.IterA Go.Proofs.YtcfocbfocemapaaGreat.SortB Go.Proofs.YtcfocbfocemapaaGreat.DistB Go.Proofs.YtcfocbfocemapaaGreat.DistC Go.Proofs.YtcfocbfocemapaaGreat.SubA Go.Proofs.YtcfocbfocemapaaGreat.BindW Go.Proofs.YtcfocbfocemapaaGreat.StkA Go.Proofs.YtcfocbfocemapaaGreat.ApplyW Go.Proofs.YtcfocbfocemapaaGreat.FrmA Go.Proofs.YtcfocbfocemapaaGreat.FrmB Go.Proofs.YtcfocbfocemapaaGreat.Brk Go.Proofs.YtcfocbfocemapaaGreat.LibC Go.Proofs.YtcfocbfocemapaaGreat.FrmD Go.Proofs.YtcfocbfocemapaaGreat.FrmE Go.Proofs.YtcfocbfocemapaaGreat.FrmF Go.Proofs.YtcfocbfocemapaaGreat.FrmG Go.Proofs.YtcfocbfocemapaaGreat.FrmH
open Go.Proofs.YtcfocbfocemapaaGreatW.PrintWords Go.Proofs.YtcfocbfocemapaaGreatW.PrintLast Go.Proofs.YtcfocbfocemapaaGreatW.PrintMore
set_option linter.unusedVariables false
set_option linter.unusedSimpArgs false
set_option maxRecDepth 100000

theorem box4 {W w : World} {rs : List Res} {b : Nat} {t : TypeId} {x0 x1 x2 x3 : Value} (h : Sep W w (boxR b t #[x0, x1, x2, x3] :: rs)) : w.cell? ⟨b, 0, none⟩ = some x0 ∧ w.cell? ⟨b, 1, none⟩ = some x1 ∧ w.cell? ⟨b, 2, none⟩ = some x2 ∧ w.cell? ⟨b, 3, none⟩ = some x3 := ⟨(box_cell h (j := 0) rfl).1, (box_cell h (j := 1) rfl).1, (box_cell h (j := 2) rfl).1, (box_cell h (j := 3) rfl).1⟩
def ScopeOut (w : World) (m : FS) (e : Ending) (w' : World) : Prop :=
  ∃ (A : Option Addr) (c : Nat) (its : List HI) (B : Option Addr) (d : Nat) (ss : List PI), e = .returned (.agg #[.slice A its.length c, .slice B ss.length d]) ∧ its.map HI.hy = m.hyps ∧ ListOf (unionF [] m.ps) ss ∧ ss.length ≤ m.ps.length ∧
    Sep w w' [rowR 93 4 (.slice A its.length c) its.length (cellsH its), exH its, rowR 50 2 (.slice B ss.length d) ss.length (pairCells ss)]
set_option maxHeartbeats 8000000 in
theorem scope_calls {W w : World} {rs : List Res} {s k : Nat} {m : FS} (h : Sep W w (m.rs s ++ rs)) (hm : FInv k m) :
    Calls Tryz.prog 69 #[.pointer (some ⟨s, 0, none⟩)] w (ScopeOut w m) := by
  have HM := Aside0.mk h
  have HO := Aside0.mk hm
  have hcs := (fs_b h).2
  have HS := Aside0.mk (fun w' (hb : Below w.heap.size w w') => (⟨(hb.cell (World.block_lt_of_cell? _ _ hcs.1)).trans hcs.1, (hb.cell (World.block_lt_of_cell? _ _ hcs.2.1)).trans hcs.2.1, (hb.cell (World.block_lt_of_cell? _ _ hcs.2.2)).trans hcs.2.2⟩ : w'.cell? ⟨s, 1, none⟩ = some (.slice (some ⟨m.sb, 0, none⟩) 1 1) ∧ w'.cell? ⟨m.sb, 0, none⟩ = some (.slice m.hA m.hi.length m.hc) ∧ w'.cell? ⟨m.sb, 1, none⟩ = some (.slice m.pA m.ps.length m.pc)))
  have hel : m.hyps.length = m.hi.length := List.length_map ..
  have HEL := Aside0.mk hel
  have HC : Aside0 (Kd.C k93 w m.hA m.hyps.length m.hyps) := ⟨hyps_C (fs_hyps h) rfl (by have := hm.ok.few; omega) (fun q hq => by have := hm.ok.short q hq; omega)⟩
  have hfew := hm.ok.few
  have M := Aside0.mk (box_fresh (Sep.start w) 133 #[.slice none 0 0, .slice none 0 0])
  have hac := active_calls (HM.out.below M.out.1) (by have := hm.pfew; omega) hm.pok
  clear h hm hcs hel
  go_enter Tryz.func69, Tryz.ntmps69
  go_upto_region 2 with (go_at_call 67; refine hac.mono ?_; clear hac; rintro e1 w1 ⟨v, ss, rfl, hlo, hsl, hm1⟩; obtain ⟨B, d, rfl, hd⟩ := row_slice hm1.row; have M1 := Aside0.mk (box_fresh (sep_over M.out hm1) 133 #[.slice none 0 0, .slice B ss.length d]); have HL := Aside0.mk hlo; clear M hm1 hlo)
  have HSL := Aside0.mk hsl
  clear hsl
  generalize hw2 : w1.alloc (.cells #[.slice none 0 0, .slice B ss.length d] 133) = w2 at M1 ⊢
  clear hw2
  generalize w1.heap.size = b3 at M1 ⊢
  have M2 := Aside0.mk (exH_none (row_nil M1.out 93 4))
  have M3 := Aside0.mk (M2.out.pull 2 (by simp))
  clear M1 M2
  have b1 := (HS.out _ M3.out.1).1
  go_wp2_with fail
  clear b1
  go_loopw [5, 7, 16] (fun v5 v7 v16 wr => ∃ (i : Nat) (A : Option Addr) (c : Nat) (its : List HI), i ≤ 1 ∧ v16 = .int .i64 i ∧ (i = 0 → its = []) ∧ (i = 1 → its.map HI.hy = m.hyps) ∧
    Aside0 (Sep w wr [boxR b3 133 #[.slice A its.length c, .slice B ss.length d], rowR 93 4 (.slice A its.length c) its.length (cellsH its), exH its, rowR 50 2 (.slice B ss.length d) ss.length (pairCells ss), boxR w.heap.size 133 #[.slice none 0 0, .slice none 0 0]])) (fun _ _ v16 _ => 1 - (intOf v16).toNat)
  case atStart => exact ⟨0, none, 0, [], by omega, rfl, fun _ => rfl, fun h => by omega, ⟨(M3.out.pull 2 (by simp)).pull 1 (by simp)⟩⟩
  case round =>
    clear M3
    obtain ⟨i, A, c, its, hi, rfl, hz, ho, M⟩ := hrel
    by_cases hlt : i < 1
    · obtain rfl : i = 0 := by omega
      obtain rfl := hz rfl
      clear hz ho
      obtain ⟨b1, b2, b3c⟩ := HS.out _ M.out.1
      have M1 := Aside0.mk (M.out.alloc (.cells #[.slice m.hA m.hi.length m.hc, .slice m.pA m.ps.length m.pc] 125))
      clear M
      go_wp2_with fail
      clear b1 b2 b3c
      go_loopw [7, 24] (fun v7 v24 wq => ∃ (j : Nat) (A : Option Addr) (c : Nat) (its : List HI), j ≤ m.hi.length ∧ v24 = .int .i64 j ∧ Aside0 (its.length = j) ∧ Aside0 (its.map HI.hy = m.hyps.take j) ∧
        Aside0 (Sep w wq [boxR b3 133 #[.slice A its.length c, .slice B ss.length d], rowR 93 4 (.slice A its.length c) its.length (cellsH its), exH its, rowR 50 2 (.slice B ss.length d) ss.length (pairCells ss), boxR w.heap.size 133 #[.slice none 0 0, .slice none 0 0]])) (fun _ v24 _ => m.hi.length - (intOf v24).toNat)
      case atStart => exact ⟨0, A, c, [], by omega, rfl, ⟨rfl⟩, ⟨by simp⟩, M1⟩
      case round =>
        clear M1
        obtain ⟨j, A, c, its, hj, rfl, HLn, HH, M⟩ := hrel
        by_cases hjt : j < m.hi.length
        · have hjt2 : j < m.hyps.length := by rw [HEL.out]; exact hjt
          obtain ⟨ad, A3, c3, hA3, y0, y1, y2, y3, hc3, hK3⟩ := hyp_at (Kd.C_below HC.out M.out.1) hjt2
          have HH2 := Aside0.mk (List.take_succ_eq_append_getElem hjt2)
          have hsh : (m.hyps[j]).f3.length ≤ 2097152 := by
            have hmem := List.getElem_mem hjt2
            obtain ⟨z, hz, e⟩ := List.mem_map.1 hmem
            rw [← e]
            exact HO.out.ok.short z hz
          obtain ⟨hh, hhe⟩ : ∃ hh, hh = m.hyps[j] := ⟨_, rfl⟩
          rw [← hhe] at y0 y1 y2 y3 hc3 hK3 HH2 hsh
          clear hhe hjt2
          obtain ⟨f0, f1, x, tc⟩ := hh
          simp only at y0 y1 y2 y3 hc3 hK3 hsh
          rw [hA3]
          go_upto_region 8 with fail
          have M1 := Aside0.mk (box_fresh M.out 93 #[.string f0, .bool f1, .int .i64 x, .slice A3 tc.length c3])
          have hK4 := Aside0.mk (Kd.C_below hK3 ((Below.refl wr.heap.size wr).alloc (Nat.le_refl _) (.cells #[.string f0, .bool f1, .int .i64 x, .slice A3 tc.length c3] 93)))
          clear M y0 y1 y2 y3 hK3 hA3
          generalize hwa : wr.alloc (.cells #[.string f0, .bool f1, .int .i64 x, .slice A3 tc.length c3] 93) = wa at M1 hK4 ⊢
          clear hwa
          generalize wr.heap.size = b7 at M1 ⊢
          have x3 := (box4 M1.out).2.2.2
          go_upto_region 9 with (go_at_call 40; refine (LibC.clone_calls M1.out hK4.out (by omega)).mono ?_; rintro e8 w8 ⟨A4, c4, rfl, hc4, hm8⟩; have M8 := Aside0.mk (hm8.pull 1 (by simp)); have f3 : w8.frozen? ⟨b7, 3, none⟩ = false := (box_cell M8.out (j := 3) rfl).2; have x3 : w8.cell? ⟨b7, 3, none⟩ = some (.slice A3 tc.length c3) := (box_cell M8.out (j := 3) rfl).1; clear hm8 M1 hK4)
          have M9 := Aside0.mk (box_set M8.out 3 (.slice A4 tc.length c4))
          clear M8 f3 x3
          generalize hwb : w8.setCell ⟨b7, 3, none⟩ (.slice A4 tc.length c4) = wb at M9 ⊢
          clear hwb
          have M10 : Aside0 (Sep w wb [rowR 93 4 (.slice A its.length c) its.length (cellsH its), boxR b3 133 #[.slice A its.length c, .slice B ss.length d], boxR b7 93 #[.string f0, .bool f1, .int .i64 x, .slice A4 tc.length c4], rowR 3 1 (.slice A4 tc.length c4) tc.length (tc.map num), exH its, rowR 50 2 (.slice B ss.length d) ss.length (pairCells ss), boxR w.heap.size 133 #[.slice none 0 0, .slice none 0 0]]) := ⟨(M9.out.pull 2 (by simp)).pull 3 (by simp)⟩
          clear M9
          obtain ⟨x0, x1, x2, x3⟩ := box4 (M10.out.pull 2 (by simp))
          obtain ⟨o0, g0⟩ := box_cell (M10.out.pull 1 (by simp)) (j := 0) rfl
          go_wp2_with (at_builtin; refine wp_cells (M10.out.alloc (.cells #[.string f0, .bool f1, .int .i64 x, .slice A4 tc.length c4] 93)) rfl _ _ 35 rfl Tryz.underlying35 info93 rfl (by omega) rfl (A := some ⟨wb.heap.size, 0, none⟩) (m := 1) (news := encH ⟨f0, f1, x, tc, A4, c4⟩) rfl rfl (fun h => by cases h) (fun ad2 e2 j u hu => ?qc) (fun u hu => ?qd) (by omega) (by have := HLn.out; omega) ?_; (case qc => cases e2; exact (World.news_of_block (cs := #[.string f0, .bool f1, .int .i64 x, .slice A4 tc.length c4]) (t := 93) (fr := (0, 0)) (heap_alloc_new wb _)) j u hu); (case qd => simp [encH] at hu; rcases hu with rfl | rfl | rfl | rfl <;> rfl); intro A5 c5 w9 hc5 hm9; have M11 := Aside0.mk (hm9.pull 1 (by simp)); clear hm9 M10 x0 x1 x2 x3 o0 g0; obtain ⟨o0, g0⟩ := box_cell M11.out (j := 0) rfl)
          go_roundw
          case rel =>
            refine ⟨_, _, _, _, _, _, _, _, _, _, _, _, _, _, _, _, ?rel2, rfl⟩
            have h12 := box_set M11.out 0 (.slice A5 (its.length + 1) c5)
            have h13 := (h12.pull 2 (by simp)).tail
            have h14 := exH_more (q := (⟨f0, f1, x, tc, A4, c4⟩ : HI)) ((h13.pull 3 (by simp)).pull 3 (by simp))
            have h15 := (h14.pull 2 (by simp)).pull 2 (by simp)
            refine ⟨j + 1, A5, c5, its ++ [(⟨f0, f1, x, tc, A4, c4⟩ : HI)], by omega, by go_num, ⟨by have := HLn.out; simp [this]⟩, ⟨by rw [List.map_append, HH.out, HH2.out]; rfl⟩, ⟨?_⟩⟩
            rw [List.length_append, List.length_singleton, cellsH_more]
            exact h15
          case measure => simp [intOf]; omega
        · have hje : j = m.hi.length := by omega
          subst hje
          have hhy : its.map HI.hy = m.hyps := by
            have := HH.out
            rw [← HEL.out, List.take_length] at this
            exact this
          have HHY := Aside0.mk hhy
          clear hhy HH HLn
          go_wp2_with fail
          go_roundw
          case rel => exact ⟨1, A, c, its, by omega, by go_num, fun h => by omega, fun _ => HHY.out, M⟩
          case measure => simp [intOf]
    · obtain rfl : i = 1 := by omega
      have HHY := Aside0.mk (ho rfl)
      clear ho hz
      obtain ⟨o0, -⟩ := box_cell M.out (j := 0) rfl
      obtain ⟨o1, -⟩ := box_cell M.out (j := 1) rfl
      obtain ⟨p0, g0⟩ := box_cell (M.out.pull 4 (by simp)) (j := 0) rfl
      obtain ⟨p1, g1⟩ := box_cell (M.out.pull 4 (by simp)) (j := 1) rfl
      go_wp2_with fail
      have h4 := box_set (box_set (M.out.pull 4 (by simp)) 0 (.slice A its.length c)) 1 (.slice B ss.length d)
      refine bodyPost_ret (results_cell_row rfl _ _ w.heap.size 133 #[.slice A its.length c, .slice B ss.length d] (0, 0) _ rfl (box_at h4) Tryz.underlying133 rfl (by kernel_rfl)) rfl ?_
      exact ⟨A, c, its, B, d, ss, rfl, HHY.out, HL.out, HSL.out, h4.tail.tail⟩
end Go.Proofs.YtcfocbfocemapaaGreat.FrmK

namespace Go.Proofs.YtcfocbfocemapaaGreat.FrmL
open Go.RowKit Go.Maps Go.Lib Go.Proofs.YtcfocbfocemapaaGreat.Sep Go.Proofs.YtcfocbfocemapaaGreat.Mem Go.Proofs.YtcfocbfocemapaaGreat.Sets Go.Proofs.YtcfocbfocemapaaGreat.PlayP Go.Proofs.YtcfocbfocemapaaGreat.BindP Go.Proofs.YtcfocbfocemapaaGreat.PStackPlays Go.Proofs.YtcfocbfocemapaaGreat.DistA Go.Proofs.YtcfocbfocemapaaGreat.IterA Go.Proofs.YtcfocbfocemapaaGreat.SortB Go.Proofs.YtcfocbfocemapaaGreat.DistB Go.Proofs.YtcfocbfocemapaaGreat.DistC Go.Proofs.YtcfocbfocemapaaGreat.SubA Go.Proofs.YtcfocbfocemapaaGreat.BindW Go.Proofs.YtcfocbfocemapaaGreat.StkA Go.Proofs.YtcfocbfocemapaaGreat.ApplyW Go.Proofs.YtcfocbfocemapaaGreat.FrmA Go.Proofs.YtcfocbfocemapaaGreat.FrmB Go.Proofs.YtcfocbfocemapaaGreat.Brk Go.Proofs.YtcfocbfocemapaaGreat.LibC Go.Proofs.YtcfocbfocemapaaGreat.FrmD Go.Proofs.YtcfocbfocemapaaGreat.FrmE Go.Proofs.YtcfocbfocemapaaGreat.FrmF Go.Proofs.YtcfocbfocemapaaGreat.FrmG Go.Proofs.YtcfocbfocemapaaGreat.FrmH Go.Proofs.YtcfocbfocemapaaGreat.FrmP Go.Proofs.YtcfocbfocemapaaGreat.CntM Go.Proofs.YtcfocbfocemapaaGreat.FrmK
open Go.Proofs.YtcfocbfocemapaaGreatW.PrintWords Go.Proofs.YtcfocbfocemapaaGreatW.PrintLast Go.Proofs.YtcfocbfocemapaaGreatW.PrintMore
set_option linter.unusedVariables false
set_option linter.unusedSimpArgs false
set_option maxRecDepth 100000

theorem outK_mem {e : List Int} {x : Int} (h : x ∈ VarW.outK VB e e.length) : x ∈ e := by
  have hp := VarW.outK_picks VB e e.length (Nat.le_refl _)
  rw [List.take_length] at hp
  exact ((hp.mem x).1 h).1
set_option maxHeartbeats 4000000 in
theorem note_calls {V w : World} {rs : List Res} {s b g p1 p2 : Nat} (h : Sep V w (cntR b g :: boxR p2 126 #[.map (some b)] :: boxR p1 80 #[.pointer (some ⟨s, 0, none⟩)] :: rs)) (hs : ∀ w', Below V.heap.size V w' → w'.cell? ⟨s, 0, none⟩ = some (.func (.func 8) #[] #[])) (hg : g ≤ 4398046511104)
    {A : Option Addr} {c : Nat} {x : Ex} (hX : Kd.C (Kd.int .i64) w A x.length x) (hxl : x.length ≤ 1048576) (hio : ∀ y ∈ x, IntOK y) :
    Calls Tryz.prog 70 #[.slice A x.length c, .pointer (some ⟨p1, 0, none⟩), .pointer (some ⟨p2, 0, none⟩)] w fun e w' => e = .returned (.tuple #[]) ∧ Sep V w' (cntR b (g + 1048576) :: boxR p2 126 #[.map (some b)] :: boxR p1 80 #[.pointer (some ⟨s, 0, none⟩)] :: rs) := by
  have M := Aside0.mk h
  have HS := Aside0.mk hs
  have HX := Aside0.mk hX
  have hev := VarW.evars_calls A c x hX hxl
  have hyl : (VarW.outK VB x x.length).length ≤ 1048576 := by
    have := VarW.outK_len VB x x.length (Nat.le_refl _)
    omega
  have hyi : ∀ y ∈ VarW.outK VB x x.length, IntOK y := fun y hy => hio y (outK_mem hy)
  have HY := Aside0.mk hyi
  clear h hs hX hyi
  generalize VarW.outK VB x x.length = ys at hev hyl HY
  have o1 := (box_cell (M.out.pull 2 (by simp)) (j := 0) rfl).1
  have s0 := HS.out _ M.out.1
  go_enter Tryz.func70, Tryz.ntmps70
  go_wp2_with (go_at_call 71; refine hev.mono ?_; clear hev; rintro e1 w1 ⟨v, rfl, hown, hb1⟩; obtain ⟨A2, c2, rfl, hc2⟩ := row_slice hown; have M1 := Aside0.mk ((M.out.fresh (f := fun k => w.heap.size ≤ k) ⟨hb1.os, hb1.tape, hb1.output, hb1.size, fun k hk _ => hb1.block k hk⟩ (r := rowR 3 1 (.slice A2 ys.length c2) ys.length (ys.map num)) ⟨owns_zero hown, fun k hk => (hown.lt k hk).1⟩ (fun _ hk => hk)).swap); clear hown hb1 M o1 s0)
  go_loopw [5, 13] (fun v5 v13 wr => ∃ (i : Nat), i ≤ ys.length ∧ v13 = .int .i64 i ∧ Aside0 (Sep V wr (cntR b (g + i) :: rowR 3 1 (.slice A2 ys.length c2) ys.length (ys.map num) :: boxR p2 126 #[.map (some b)] :: boxR p1 80 #[.pointer (some ⟨s, 0, none⟩)] :: rs))) (fun _ v13 _ => ys.length - (intOf v13).toNat)
  case atStart => exact ⟨0, by omega, rfl, M1⟩
  case round =>
    clear M1
    obtain ⟨i, hi, rfl, M⟩ := hrel
    by_cases hlt : i < ys.length
    · obtain ⟨ad, rfl, kx⟩ := int_at (row_Ci (M.out.pull 1 (by simp)).row (by omega)).2 hlt
      have ho := Aside0.mk (HY.out _ (List.getElem_mem hlt))
      generalize ys[i] = y at kx ho
      have o2 := (box_cell (M.out.pull 2 (by simp)) (j := 0) rfl).1
      obtain ⟨n0, hn0, hlook⟩ := (cnt_at M.out).look ho.out
      have hwr := intOK_wrap (n0 + 1)
      go_wp2_with (at_mapUpdate; refine wp_cput (k := y) (v := wrap64 (n0 + 1)) rfl _ _ _ rfl rfl rfl rfl (cnt_at M.out) ho.out hwr (by unfold maxLen; omega) ?_; intro w3 hm3 hg3; have M3 := Aside0.mk (cnt_turn M.out hm3 hg3); clear M hm3 hg3 hlook kx o2)
      go_roundw
      case rel => exact ⟨i + 1, by omega, by go_num, M3⟩
      case measure => simp [intOf]; omega
    · have hie : i = ys.length := by omega
      subst hie
      go_wp2_with fail
      go_end0
      refine ⟨rfl, ?_⟩
      have h4 := M.out.swap.tail
      exact h4.told fun F hF => ⟨hF.1.more (by omega), hF.2⟩
end Go.Proofs.YtcfocbfocemapaaGreat.FrmL
