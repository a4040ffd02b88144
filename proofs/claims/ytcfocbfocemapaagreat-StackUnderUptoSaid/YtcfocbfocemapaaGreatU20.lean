/- UndD. -/
import Derived.Test.YtcfocbfocemapaaGreatU19
namespace Go.Proofs.YtcfocbfocemapaaGreat.UndD
open Go.RowKit Go.Maps Go.Lib Go.Proofs.YtcfocbfocemapaaGreat.Sep Go.Proofs.YtcfocbfocemapaaGreat.Mem Go.Proofs.YtcfocbfocemapaaGreat.Sets Go.Proofs.YtcfocbfocemapaaGreat.PlayP Go.Proofs.YtcfocbfocemapaaGreat.BindP Go.Proofs.YtcfocbfocemapaaGreat.PStackPlays Go.Proofs.YtcfocbfocemapaaGreat.DistA Go.Proofs.YtcfocbfocemapaaGreat.IterA Go.Proofs.YtcfocbfocemapaaGreat.SortB Go.Proofs.YtcfocbfocemapaaGreat.DistB Go.Proofs.YtcfocbfocemapaaGreat.DistC Go.Proofs.YtcfocbfocemapaaGreat.SubA Go.Proofs.YtcfocbfocemapaaGreat.SubN Go.Proofs.YtcfocbfocemapaaGreat.BindW Go.Proofs.YtcfocbfocemapaaGreat.StkA Go.Proofs.YtcfocbfocemapaaGreat.StkB Go.Proofs.YtcfocbfocemapaaGreat.ApplyW Go.Proofs.YtcfocbfocemapaaGreat.FrmA Go.Proofs.YtcfocbfocemapaaGreat.FrmB Go.Proofs.YtcfocbfocemapaaGreat.Brk Go.Proofs.YtcfocbfocemapaaGreat.LibC Go.Proofs.YtcfocbfocemapaaGreat.FrmD Go.Proofs.YtcfocbfocemapaaGreat.FrmE Go.Proofs.YtcfocbfocemapaaGreat.FrmF Go.Proofs.YtcfocbfocemapaaGreat.FrmG Go.Proofs.YtcfocbfocemapaaGreat.FrmH Go.Proofs.YtcfocbfocemapaaGreat.FrmP Go.Proofs.YtcfocbfocemapaaGreat.CntM Go.Proofs.YtcfocbfocemapaaGreat.FrmJ Go.Proofs.YtcfocbfocemapaaGreat.FrmK Go.Proofs.YtcfocbfocemapaaGreat.FrmL Go.Proofs.YtcfocbfocemapaaGreat.FrmN Go.Proofs.YtcfocbfocemapaaGreat.FrmM Go.Proofs.YtcfocbfocemapaaGreat.FrsA Go.Proofs.YtcfocbfocemapaaGreat.FrsB Go.Proofs.YtcfocbfocemapaaGreat.UndA Go.Proofs.YtcfocbfocemapaaGreat.StkC Go.Proofs.YtcfocbfocemapaaGreat.UndB Go.Proofs.YtcfocbfocemapaaGreat.UndC
open Go.Proofs.YtcfocbfocemapaaGreatW.PrintWords Go.Proofs.YtcfocbfocemapaaGreatW.PrintLast Go.Proofs.YtcfocbfocemapaaGreatW.PrintMore
set_option linter.unusedVariables false
set_option linter.unusedSimpArgs false
set_option maxRecDepth 100000

/-- What a play reads as. -/
structure PlayC (w : World) (SA : Option Addr) (ss : List Sd) (PA : Option Addr) (ps : List S50) (GA : Option Addr) (gs : Ex) (OA : Option Addr) (ops : List Ob) : Prop where
  said : SaidC w SA ss
  sl : ss.length ≤ 1048576
  sx : ∀ x ∈ ss, x.e.length ≤ 1048576
  pairs : Kd.C k50 w PA ps.length ps
  pl : ps.length ≤ 1048576
  pok : ∀ p ∈ ps, PairOK (prP p)
  goal : Kd.C kI w GA gs.length gs
  gl : gs.length ≤ 1048576
  script : OpC w OA ops
  ol : ops.length ≤ 1048576
  ok : ∀ x ∈ ops, ObOK x
set_option maxHeartbeats 8000000 in
theorem under_calls {w : World} {SA PA GA OA BA : Option Addr} {sc pc gc oc bc : Nat} {ss : List Sd} {ps : List S50} {gs : Ex} {ops : List Ob} {bel : List Ex} (hp : PlayC w SA ss PA ps GA gs OA ops) (hB : Kd.C kE w BA bel.length bel) (hbl : bel.length ≤ 1048576) (hbx : ∀ e ∈ bel, e.length ≤ 1048576 ∧ ∀ x ∈ e, IntOK x) :
    Calls Tryz.prog 5 #[.agg #[.slice SA ss.length sc, .slice PA ps.length pc, .slice GA gs.length gc, .slice OA ops.length oc], .slice BA bel.length bc] w fun e w' => e = .returned (.bool true) ∧ Below w.heap.size w w' := by
  have HP := Aside0.mk hp
  have HB := Aside0.mk hB
  have HBX := Aside0.mk hbx
  have hpl := hp.pl
  have hol := hp.ol
  have hsl := hp.sl
  have M0 := Aside0.mk (box_fresh (Sep.start w) 27 #[.slice SA ss.length sc, .slice PA ps.length pc, .slice GA gs.length gc, .slice OA ops.length oc])
  clear hp hB hbx
  go_enter Tryz.func5, Tryz.ntmps5
  go_upto_region 1 with fail
  generalize hwa : w.alloc (.cells #[.slice SA ss.length sc, .slice PA ps.length pc, .slice GA gs.length gc, .slice OA ops.length oc] 27) = wa at M0 ⊢
  clear hwa
  generalize hbp : w.heap.size = bp at M0 ⊢
  go_upto_region 3 with (go_at_call 28; refine (known_calls _).mono ?_; rintro e1 w1 ⟨rfl, hb1⟩; have M1 := Aside0.mk (M0.out.below hb1); clear hb1 M0)
  have x1 := (box4 M1.out).2.1
  have hn1 := StkC.new_calls (c := pc) (d := 0) M1.out (.slice none 0 0) (.slice none 0 0) (.int .i64 0) (Kd.C_below HP.out.pairs M1.out.1) (B := none) (g := []) (Kd.C_nil _ _) (by omega) (by simp)
  go_upto_region 4 with (go_at_call 7; refine hn1.mono ?_; clear hn1; rintro e2 w2 ⟨p1, A1, c1, B1, d1, rfl, hc1, -, hm2⟩; have M2 := Aside0.mk hm2; clear hm2 M1 x1)
  have x1 := (box4 (M2.out.pull 1 (by simp))).2.1
  have hn2 := StkC.new_calls (c := pc) (d := 0) M2.out (.slice none 0 0) (.slice none 0 0) (.int .i64 0) (Kd.C_below HP.out.pairs M2.out.1) (B := none) (g := []) (Kd.C_nil _ _) (by omega) (by simp)
  go_upto_region 7 with (go_at_call 7; refine hn2.mono ?_; clear hn2; rintro e3 w3 ⟨p2, A2, c2, B2, d2, rfl, hc2, -, hm3⟩; have M3 := Aside0.mk hm3; clear hm3 M2 x1)
  have hm0 : ∀ (A : Option Addr) (c : Nat) (B : Option Addr) (d : Nat), MacOK ⟨A, c, ps, B, d, [], none, 0, [], 0, 0⟩ := fun A c B d => ⟨by simp, (by show ps.length ≤ _; omega), HP.out.pok, (fun q hq => by cases hq), (fun q hq => by cases hq), by simp⟩
  have HM0 := Aside0.mk hm0
  clear hm0
  go_wp2_with fail
  go_loopw [7, 8] (fun v7 v8 wr => ∃ (i : Nat) (u : Mac), i ≤ bel.length ∧ i ≤ 10 ∧ v7 = .int .i64 i ∧ v8 = .int .i64 i ∧ Aside0 (MacOK u) ∧ Aside0 (u.ents = bel.take i) ∧ Aside0 (u.items.length = i) ∧ Aside0 (u.ps = ps) ∧ Aside0 (u.count = 0) ∧
    Aside0 (Sep w wr [macR p2 u, macR p1 ⟨A1, c1, ps, B1, d1, [], none, 0, [], 0, 0⟩, boxR bp 27 #[.slice SA ss.length sc, .slice PA ps.length pc, .slice GA gs.length gc, .slice OA ops.length oc]])) (fun _ v8 _ => bel.length - (intOf v8).toNat)
  case atStart => exact ⟨0, _, by omega, by omega, rfl, rfl, ⟨HM0.out A2 c2 B2 d2⟩, ⟨rfl⟩, ⟨rfl⟩, ⟨rfl⟩, ⟨rfl⟩, M3⟩
  case round =>
    clear M3
    obtain ⟨i0, u, hi, hi10, rfl, rfl, HU, HE, HL, HPS, HCN, M⟩ := hrel
    by_cases hlt : i0 < bel.length ∧ i0 < 10
    · obtain ⟨hlt1, hlt2⟩ := hlt
      obtain ⟨ae, A4, c4, hE4, zw, hc4, hK4⟩ := lst_at (Kd.C_below HB.out M.out.1) hlt1
      have hbi := HBX.out _ (List.getElem_mem hlt1)
      have HT := Aside0.mk (List.take_succ_eq_append_getElem hlt1)
      generalize bel[i0] = e at zw hc4 hK4 hbi HT
      subst hE4
      have hpu := push_calls (n := 0) (c := c4) M.out hK4 (by have := HL.out; omega) (by omega)
      have hd1 : (i0 : Int) < 10 := by omega
      have HBI := Aside0.mk hbi
      clear hbi
      go_wp2_with (first
        | (go_at_call 22; refine hpu.mono ?_; clear hpu; rintro e5 w5 ho5; obtain ⟨rfl, A5, c5, q5, hq5, hm5⟩ := push_yes ho5 (by have := HL.out; omega); have M5 := Aside0.mk hm5; have HQ5 := Aside0.mk hq5; clear ho5 hm5 hq5 M zw hc4 hK4)
        | (go_at_call 24; refine (lemmalaw11_num.calls 0 0 _ rfl).mono ?_; rintro e6 w6 ⟨rfl, hd6⟩; have M6 := Aside0.mk (M5.out.drawn hd6); clear hd6 M5)
        | fail)
      go_roundw
      case rel => exact ⟨i0 + 1, _, by omega, by omega, by go_num, by go_num, ⟨push_fit HU.out (by have := HL.out; omega) HQ5.out HBI.out.1 HBI.out.2 A5 c5⟩, ⟨by rw [ents_push, HE.out, HT.out, HQ5.out]⟩, ⟨by have := HL.out; simp [Mac.push, this]⟩, HPS, HCN, M6⟩
      case measure => simp [intOf]; omega
    · have HBL : ∃ kb, Aside0 (kb = bel.take i0) ∧ Aside0 (kb.length = i0) := ⟨bel.take i0, ⟨rfl⟩, ⟨by rw [List.length_take]; omega⟩⟩
      obtain ⟨kb, HKB, HKL⟩ := HBL
      rw [← HKB.out] at HE
      clear HKB
      go_upto_region 9 with fail
      go_cut [42] (fun v42 wx => v42 = .bool false ∧ wx = wr)
      case first =>
        by_cases hl1 : i0 < bel.length
        · have hd1 : ¬ (i0 : Int) < 10 := by omega
          go_wp2_with fail
          go_meet
          exact ⟨rfl, rfl⟩
        · go_wp2_with fail
          go_meet
          exact ⟨rfl, rfl⟩
      case rest =>
        obtain ⟨rfl, rfl⟩ := hcut
        clear hlt hi
        have x0 := (box4 (M.out.pull 2 (by simp))).1
        have hfr := frames_calls (c := sc) M.out HP.out.said HP.out.sl HP.out.sx
        go_upto_region 15 with (first
          | (go_at_call 12; refine hfr.mono ?_; clear hfr; rintro e7 w7 ⟨FA, fc, fi, rfl, hfl, hfc, hok, hm7⟩; have M7 := Aside0.mk hm7; have HOK := Aside0.mk hok; clear hm7 hok M x0)
          | (go_at_call 31; refine (rule_calls _).mono ?_; rintro e8 w8 ⟨ra, rb, rc, rd, rfl, hm8⟩; have M8 := Aside0.mk (Sep.pull (all_more (ruleF_ok ra rb rc rd) (sep_over M7.out hm8)) 1 (by simp)); clear hm8 M7; simp only [FI.val, ruleF])
          | (at_builtin; refine wp_struct (M8.out.alloc (.cells #[.slice (some ⟨rc, 0, none⟩) 2 2, .slice none 0 0, .slice (some ⟨rd, 0, none⟩) 6 6] 68)) rfl _ _ 51 rfl Tryz.underlying51 info68 rfl (by omega) rfl (ad := ⟨w8.heap.size, 0, none⟩) (news := (ruleF ra rb rc rd).cells) rfl rfl (fun j u hu => ?qc) (fun u hu => ?qd) (by omega) (by omega) ?_; (case qc => exact (World.news_of_block (cs := #[.slice (some ⟨rc, 0, none⟩) 2 2, .slice none 0 0, .slice (some ⟨rd, 0, none⟩) 6 6]) (t := 68) (fr := (0, 0)) (heap_alloc_new w8 _)) j u hu); (case qd => simp [FI.cells, ruleF] at hu; rcases hu with rfl | rfl | rfl <;> rfl); intro A9 c9 w9 hc9 hm9; have M9 := Aside0.mk hm9; clear hm9 M8)
          | fail)
        have hF2 : ∃ f2 : List FI, Aside0 (f2 = fi ++ [ruleF ra rb rc rd]) ∧ f2.length = fi.length + 1 := ⟨_, ⟨rfl⟩, by simp⟩
        obtain ⟨f2, HF2, hf2⟩ := hF2
        have hok2 : ∀ f ∈ f2, f.OK := fun f hf => by
          rw [HF2.out] at hf
          rcases List.mem_append.1 hf with hf | hf
          · exact HOK.out f hf
          · rw [List.mem_singleton] at hf
            subst hf
            exact ruleF_ok ..
        have HOK2 := Aside0.mk hok2
        have M10 : Aside0 (Sep w w9 [macR p1 ⟨A1, c1, ps, B1, d1, [], none, 0, [], 0, 0⟩, macR p2 u, readR w (AllC f2), rowR 68 3 (.slice A9 f2.length c9) f2.length (cellsF f2), boxR bp 27 #[.slice SA ss.length sc, .slice PA ps.length pc, .slice GA gs.length gc, .slice OA ops.length oc]]) := ⟨by
          rw [hf2, HF2.out, cellsF_more]
          exact ((M9.out.pull 1 (by simp)).pull 2 (by simp)).pull 3 (by simp)⟩
        rw [← hf2]
        have hf2l : f2.length ≤ 1048577 := by omega
        have hf2p : 0 < f2.length := by omega
        clear M9 HF2 HOK hok2 hf2 hfl hfc hc9
        have HUR0 : Aside0 (UR kb 0 ⟨A1, c1, ps, B1, d1, [], none, 0, [], 0, 0⟩ u) := ⟨⟨HM0.out A1 c1 B1 d1, HU.out, by rw [HE.out]; simp [Mac.ents], HCN.out, by simp, HPS.out⟩⟩
        clear HU HE HL HPS HCN HM0
        go_wp2_with fail
        go_loopw [10, 11, 12, 13, 14, 15, 16, 17, 18] (fun v10 v11 v12 v13 v14 v15 v16 v17 v18 wr => ∃ (i : Nat) (m u : Mac), i ≤ ops.length ∧ v10 = .int .i64 i ∧ Aside0 (UR kb i m u) ∧ Aside0 (m.ps = ps) ∧ Aside0 (Sep w wr [macR p1 m, macR p2 u, readR w (AllC f2), rowR 68 3 (.slice A9 f2.length c9) f2.length (cellsF f2), boxR bp 27 #[.slice SA ss.length sc, .slice PA ps.length pc, .slice GA gs.length gc, .slice OA ops.length oc]])) (fun v10 _ _ _ _ _ _ _ _ _ => ops.length - (intOf v10).toNat)
        case atStart => exact ⟨0, _, u, by omega, rfl, HUR0, ⟨rfl⟩, M10⟩
        case round =>
          clear M10 HUR0
          obtain ⟨i, m, u, hi, rfl, HUR, HPS, M⟩ := hrel
          have x3 := (box4 (M.out.pull 4 (by simp))).2.2.2
          by_cases hlt : i < ops.length
          · obtain ⟨ad, EA, ec, hOA, y0, y1, y2, hec, hE⟩ := HP.out.script i hlt
            replace y0 := VarW.cell_on M.out.1 y0
            replace y1 := VarW.cell_on M.out.1 y1
            replace y2 := VarW.cell_on M.out.1 y2
            have hob := HP.out.ok _ (List.getElem_mem hlt)
            obtain ⟨q, hq⟩ : ∃ q, q = ops[i] := ⟨_, rfl⟩
            rw [← hq] at y0 y1 y2 hec hE hob
            clear hq
            obtain ⟨qk, qe, qn⟩ := q
            simp only at y0 y1 y2 hec hE
            have HOB := Aside0.mk hob
            clear hob
            subst hOA
            go_upto_region 19 with fail
            have M1 := Aside0.mk (box_fresh M.out 55 #[.int .i64 qk, .slice EA qe.length ec, .int .i64 qn])
            have HPE := Aside0.mk hE
            clear M y0 y1 y2 hE x3
            generalize hwa : wr.alloc (.cells #[.int .i64 qk, .slice EA qe.length ec, .int .i64 qn] 55) = wa at M1 ⊢
            clear hwa
            generalize wr.heap.size = b11 at M1 ⊢
            obtain ⟨⟨z0, z1, z2⟩, -, -, -⟩ := box3 M1.out
            by_cases hk1 : qk = 1
            · subst hk1
              have hpu := push_calls (n := 0) (c := ec) (M1.out.pull 1 (by simp)) (Kd.C_below HPE.out M1.out.1) HUR.out.mo.few (by have := HOB.out.len; simp only at this; omega)
              have hob1 := HOB.out.len
              have hob2 := HOB.out.iok
              simp only at hob1 hob2
              have HOB2 := Aside0.mk hob2
              clear hob2
              by_cases hp40 : u.items.length < 40
              · have hpm : m.items.length < 40 := by have := HUR.out.len; omega
                go_upto_region 30 with (first
                  | (go_at_call 22; refine hpu.mono ?_; clear hpu; rintro e5 w5 ho5; obtain ⟨rfl, A5, c5, q5, hq5, hm5⟩ := push_yes ho5 hpm; have M5 := Aside0.mk hm5; have HQ5 := Aside0.mk hq5; clear ho5 hm5 hq5)
                  | (go_at_call 24; refine (lemmalaw11_num.calls 0 0 _ rfl).mono ?_; rintro e6 w6 ⟨rfl, hd6⟩; have M6 := Aside0.mk (M5.out.drawn hd6); have hpu2 := push_calls (n := 0) (c := ec) (Sep.pull M6.out 2 (by simp)) (Kd.C_below HPE.out M6.out.1) HUR.out.uo.few (by omega); obtain ⟨⟨z0, z1, z2⟩, -, -, -⟩ := box3 (Sep.pull M6.out 1 (by simp)); clear hd6 M5)
                  | (go_at_call 22; refine hpu2.mono ?_; clear hpu2; rintro e7 w7 ho7; obtain ⟨rfl, A7, c7, q7, hq7, hm7⟩ := push_yes ho7 hp40; have M7 := Aside0.mk hm7; have HQ7 := Aside0.mk hq7; clear ho7 hm7 hq7 M6)
                  | (go_at_call 24; refine (lemmalaw11_num.calls 0 0 _ rfl).mono ?_; rintro e8 w8 ⟨rfl, hd8⟩; have M8 := Aside0.mk (M7.out.drawn hd8); obtain ⟨⟨z0, z1, z2⟩, -, -, -⟩ := box3 (Sep.pull M8.out 2 (by simp)); clear hd8 M7)
                  | fail)
                have HUR9 := Aside0.mk (HUR.out.push hp40 HQ5.out HQ7.out hob1 HOB2.out A5 A7 c5 c7)
                have MT : Aside0 (Sep w w8 [macR p1 (m.push q5 A5 c5), macR p2 (u.push q7 A7 c7), readR w (AllC f2), rowR 68 3 (.slice A9 f2.length c9) f2.length (cellsF f2), boxR bp 27 #[.slice SA ss.length sc, .slice PA ps.length pc, .slice GA gs.length gc, .slice (some ad) ops.length oc]]) := ⟨((M8.out.pull 1 (by simp)).pull 2 (by simp)).tail⟩
                clear M8
                obtain ⟨m9, hm9⟩ : ∃ m9, m9 = m.push q5 A5 c5 := ⟨_, rfl⟩
                obtain ⟨u9, hu9⟩ : ∃ u9, u9 = u.push q7 A7 c7 := ⟨_, rfl⟩
                rw [← hm9, ← hu9] at HUR9 MT
                have hps9 : m9.ps = ps := by rw [hm9]; exact HPS.out
                have HPS9 := Aside0.mk hps9
                clear hm9 hu9 hps9
                have hml : m9.items.length ≤ 40 := HUR9.out.mo.few
                have hul : u9.items.length ≤ 40 := HUR9.out.uo.few
                have htm := top_calls MT.out hml (fun q hq => by have := HUR9.out.mo.short q hq; omega)
                unfold TopOut at htm
                go_upto_region 31 with (go_at_call 20; refine htm.mono ?_; clear htm; rintro e20 w20 ⟨A20, c20, rfl, hc20, hm20⟩; have N1 := Aside0.mk (hm20.pull 2 (by simp)); have HC20 := Aside0.mk hc20; clear hm20 hc20 MT)
                have htu := top_calls N1.out hul (fun q hq => by have := HUR9.out.uo.short q hq; omega)
                unfold TopOut at htu
                have hlen := HUR9.out.len
                have hwl : IntKind.i64.wrap ((m9.items.length : Int) + (i0 : Int)) = (u9.items.length : Int) := by rw [i64_w]; have := HKL.out; unfold Go.RowKit.wrap64; omega
                clear hlen
                by_cases hm0 : m9.items.length = 0
                · have hm0' : ¬ (0 : Int) < (m9.items.length : Int) := by omega
                  go_upto_region 32 with (go_at_call 20; refine htu.mono ?_; clear htu; rintro e21 w21 ⟨A21, c21, rfl, hc21, hm21⟩; have N2 := Aside0.mk hm21; clear hm21 N1)
                  have HM0 := Aside0.mk hm0
                  clear hm0
                  go_wp2_with (first
                    | (go_at_call 14; refine (len_calls (N2.out.pull 3 (by simp))).mono ?_; rintro e22 w22 ⟨rfl, rfl⟩)
                    | (go_at_call 14; refine (len_calls (N2.out.pull 1 (by simp))).mono ?_; rintro e22 w22 ⟨rfl, rfl⟩)
                    | (go_at_call 18; refine (count_calls (N2.out.pull 3 (by simp))).mono ?_; rintro e22 w22 ⟨rfl, rfl⟩)
                    | (go_at_call 18; refine (count_calls (N2.out.pull 1 (by simp))).mono ?_; rintro e22 w22 ⟨he22, rfl⟩; rw [HUR9.out.cnt] at he22; subst he22)
                    | fail)
                  go_roundw
                  case rel => exact ⟨i + 1, m9, u9, by omega, by go_num, HUR9, HPS9, ⟨((N2.out.tail.pull 1 (by simp)).tail).pull 1 (by simp)⟩⟩
                  case measure => simp [intOf]; omega
                · have hm0' : (0 : Int) < (m9.items.length : Int) := by omega
                  have hte : topE u9.ents = topE m9.ents := by
                    rw [HUR9.out.ents]
                    exact top_under (fun h => hm0 (by rw [← ents_len, h]; rfl))
                  rw [hte] at htu
                  clear hte
                  have htl : (topE m9.ents).length ≤ 1048576 := by
                    obtain ⟨k9, hk9⟩ : ∃ k9, m9.items.length = k9 + 1 := ⟨m9.items.length - 1, by omega⟩
                    obtain ⟨hk, e9⟩ := top_at hk9
                    have : topE m9.ents = m9.items[k9].ex := e9
                    rw [this]
                    exact HUR9.out.mo.short _ (List.getElem_mem hk)
                  obtain ⟨ks, hks⟩ := sameE_ok (topE m9.ents) (topE m9.ents) (by omega)
                  rw [decide_eq_true rfl] at hks
                  go_upto_region 32 with (go_at_call 20; refine htu.mono ?_; clear htu; rintro e21 w21 ⟨A21, c21, rfl, hc21, hm21⟩; have N2 := Aside0.mk hm21; have hse := lemmalaw11_sameExpr.calls ks A20 c20 (topE m9.ents) A21 c21 (topE m9.ents) true _ (row_Ci (Sep.row (hm21.pull 2 (by simp))) (by omega)).2 HC20.out (row_Ci hm21.row (by omega)).2 hc21 hks; clear hm21 hc21 N1 hks htl)
                  go_wp2_with (first
                    | (go_at_call 14; refine (len_calls (N2.out.pull 3 (by simp))).mono ?_; rintro e22 w22 ⟨rfl, rfl⟩)
                    | (go_at_call 14; refine (len_calls (N2.out.pull 1 (by simp))).mono ?_; rintro e22 w22 ⟨rfl, rfl⟩)
                    | (go_at_call 11; refine hse.mono ?_; clear hse; rintro e23 w23 ⟨rfl, hd23⟩; have N3 := Aside0.mk (N2.out.drawn hd23); clear hd23 N2)
                    | (go_at_call 18; refine (count_calls (N3.out.pull 3 (by simp))).mono ?_; rintro e22 w22 ⟨rfl, rfl⟩)
                    | (go_at_call 18; refine (count_calls (N3.out.pull 1 (by simp))).mono ?_; rintro e22 w22 ⟨he22, rfl⟩; rw [HUR9.out.cnt] at he22; subst he22)
                    | fail)
                  go_roundw
                  case rel => exact ⟨i + 1, m9, u9, by omega, by go_num, HUR9, HPS9, ⟨((N3.out.tail.pull 1 (by simp)).tail).pull 1 (by simp)⟩⟩
                  case measure => simp [intOf]; omega
              · by_cases hpm : m.items.length < 40
                · go_upto_region 29 with (first
                    | (go_at_call 22; refine hpu.mono ?_; clear hpu; rintro e5 w5 ho5; obtain ⟨rfl, A5, c5, q5, hq5, hm5⟩ := push_yes ho5 hpm; have M5 := Aside0.mk hm5; have HQ5 := Aside0.mk hq5; clear ho5 hm5 hq5)
                    | (go_at_call 24; refine (lemmalaw11_num.calls 0 0 _ rfl).mono ?_; rintro e6 w6 ⟨rfl, hd6⟩; have M6 := Aside0.mk (M5.out.drawn hd6); have hpu2 := push_calls (n := 0) (c := ec) (Sep.pull M6.out 2 (by simp)) (Kd.C_below HPE.out M6.out.1) HUR.out.uo.few (by omega); obtain ⟨⟨z0, z1, z2⟩, -, -, -⟩ := box3 (Sep.pull M6.out 1 (by simp)); clear hd6 M5)
                    | (go_at_call 22; refine hpu2.mono ?_; clear hpu2; rintro e7 w7 ho7; obtain ⟨rfl, hm7⟩ := push_no ho7 (by omega); have M7 := Aside0.mk hm7; clear ho7 hm7 M6)
                    | (go_at_call 24; refine (lemmalaw11_num.calls 117 117 _ rfl).mono ?_; rintro e8 w8 ⟨rfl, hd8⟩; have M8 := Aside0.mk (Sep.pull (M7.out.drawn hd8) 1 (by simp)); obtain ⟨⟨z0, z1, z2⟩, -, -, -⟩ := box3 (Sep.pull M8.out 2 (by simp)); clear hd8 M7)
                    | fail)
                  have hw40 : IntKind.i64.wrap (40 - (i0 : Int)) = 40 - (i0 : Int) := by rw [i64_w]; unfold Go.RowKit.wrap64; omega
                  have hge : 40 - (i0 : Int) ≤ ((m.push q5 A5 c5).items.length : Int) := by
                    have h8 := (show 40 ≤ kb.length + (m.push q5 A5 c5).items.length by have := HUR.out.len; have := HUR.out.uo.few; simp [Mac.push]; omega)
                    have := HKL.out
                    omega
                  go_wp2_with (go_at_call 14; refine (len_calls M8.out).mono ?_; rintro e22 w22 ⟨rfl, rfl⟩)
                  go_ret
                  exact ⟨rfl, M8.out.1⟩
                · go_upto_region 29 with (first
                    | (go_at_call 22; refine hpu.mono ?_; clear hpu; rintro e5 w5 ho5; obtain ⟨rfl, hm5⟩ := push_no ho5 (by omega); have M5 := Aside0.mk hm5; clear ho5 hm5)
                    | (go_at_call 24; refine (lemmalaw11_num.calls 117 117 _ rfl).mono ?_; rintro e6 w6 ⟨rfl, hd6⟩; have M6 := Aside0.mk (M5.out.drawn hd6); have hpu2 := push_calls (n := 0) (c := ec) (Sep.pull M6.out 2 (by simp)) (Kd.C_below HPE.out M6.out.1) HUR.out.uo.few (by omega); obtain ⟨⟨z0, z1, z2⟩, -, -, -⟩ := box3 (Sep.pull M6.out 1 (by simp)); clear hd6 M5)
                    | (go_at_call 22; refine hpu2.mono ?_; clear hpu2; rintro e7 w7 ho7; obtain ⟨rfl, hm7⟩ := push_no ho7 (by omega); have M7 := Aside0.mk hm7; clear ho7 hm7 M6)
                    | (go_at_call 24; refine (lemmalaw11_num.calls 117 117 _ rfl).mono ?_; rintro e8 w8 ⟨rfl, hd8⟩; have M8 := Aside0.mk (Sep.pull (M7.out.drawn hd8) 1 (by simp)); obtain ⟨⟨z0, z1, z2⟩, -, -, -⟩ := box3 (Sep.pull M8.out 2 (by simp)); clear hd8 M7)
                    | fail)
                  have hw40 : IntKind.i64.wrap (40 - (i0 : Int)) = 40 - (i0 : Int) := by rw [i64_w]; unfold Go.RowKit.wrap64; omega
                  have hge : 40 - (i0 : Int) ≤ ((m).items.length : Int) := by
                    have h8 := (show 40 ≤ kb.length + m.items.length by omega)
                    have := HKL.out
                    omega
                  go_wp2_with (go_at_call 14; refine (len_calls M8.out).mono ?_; rintro e22 w22 ⟨rfl, rfl⟩)
                  go_ret
                  exact ⟨rfl, M8.out.1⟩
            · by_cases hk2 : qk = 2
              · subst hk2
                obtain ⟨rj, hr0, hr1, hrc⟩ := rest2 qn (f2.length : Int) (by omega) (by omega)
                obtain ⟨j, rfl⟩ : ∃ j : Nat, rj = (j : Int) := ⟨rj.toNat, by omega⟩
                have hj : j < f2.length := by omega
                go_upto_region 25 with (go_at_call 33; refine (hrc _).mono ?_; clear hrc; rintro e2 w2 ⟨rfl, hd2⟩; have M2 := Aside0.mk (M1.out.drawn hd2); obtain ⟨bF, hFA, k0, k1, k2⟩ := frame_cells (Sep.pull M2.out 4 (by simp)) rfl hj; subst hFA; have HFK := Aside0.mk (HOK2.out _ (List.getElem_mem hj)); have HFM := Aside0.mk (List.getElem_mem hj); obtain ⟨f, hf⟩ : ∃ f, f = f2[j] := ⟨_, rfl⟩; rw [← hf] at k0 k1 k2 HFK HFM; clear hf hd2 M1)
                have M3 := Aside0.mk (box_fresh M2.out 68 #[.slice f.hA f.hs.length f.hc, .slice f.pA f.ps.length f.pc, .slice f.gA f.goal.length f.gc])
                clear M2 k0 k1 k2
                generalize hwb : w2.alloc (.cells #[.slice f.hA f.hs.length f.hc, .slice f.pA f.ps.length f.pc, .slice f.gA f.goal.length f.gc] 68) = wb at M3 ⊢
                clear hwb
                generalize w2.heap.size = b14 at M3 ⊢
                have hFC := read_at (M3.out.pull 4 (by simp)) f HFM.out
                obtain ⟨⟨t0, t1, t2⟩, -, -, -⟩ := box3 M3.out
                by_cases hfew : f.hs.length ≤ m.items.length
                · rcases apply_under VB ps f.fr kb m.ents (by rw [ents_len, fr_len]; exact hfew) with ⟨n, ha, hb, hn1, hn2⟩ | ⟨L, ha, hb⟩ | ⟨hb, h40, ha⟩
                  · have hap := apply_fi (M3.out.pull 2 (by simp)) HUR.out.mo HFK.out hFC (.error n) (by rw [HPS.out]; exact ha.symm)
                    have HB2 : Aside0 (Except.error n = applyE VB u.ps f.fr u.ents) := ⟨by rw [HUR.out.ps, HPS.out, HUR.out.ents]; exact hb.symm⟩
                    have n1b : (n == 117) = false := by simpa using hn1
                    have n2b : (n == 113) = false := by simpa using hn2
                    clear ha hb hFC
                    go_upto_region 30 with (first
                      | (go_at_call 35; refine hap.mono ?_; clear hap; rintro e5 w5 ho5; obtain ⟨rfl, hm5⟩ := apply_err ho5; have M5 := Aside0.mk hm5; clear ho5 hm5 M3)
                      | (go_at_call 24; refine (lemmalaw11_num.calls n n _ rfl).mono ?_; rintro e6 w6 ⟨rfl, hd6⟩; have M6 := Aside0.mk (M5.out.drawn hd6); have hFC6 := read_at (Sep.pull M6.out 4 (by simp)) f HFM.out; obtain ⟨⟨t0, t1, t2⟩, -, -, -⟩ := box3 (Sep.pull M6.out 1 (by simp)); have hap2 := apply_fi (Sep.pull M6.out 3 (by simp)) HUR.out.uo HFK.out hFC6 _ HB2.out; clear hd6 M5 hFC6)
                      | (go_at_call 35; refine hap2.mono ?_; clear hap2; rintro e7 w7 ho7; obtain ⟨rfl, hm7⟩ := apply_err ho7; have M7 := Aside0.mk hm7; clear ho7 hm7 M6)
                      | (go_at_call 24; refine (lemmalaw11_num.calls n n _ rfl).mono ?_; rintro e8 w8 ⟨rfl, hd8⟩; have M8 := Aside0.mk (M7.out.drawn hd8); clear hd8 M7)
                      | fail)
                    have HUR9 := Aside0.mk (HUR.out.more (j := i + 1) (by omega))
                    have MT : Aside0 (Sep w w8 [macR p1 m, macR p2 u, readR w (AllC f2), rowR 68 3 (.slice (some ⟨bF, 0, none⟩) f2.length c9) f2.length (cellsF f2), boxR bp 27 #[.slice SA ss.length sc, .slice PA ps.length pc, .slice GA gs.length gc, .slice (some ad) ops.length oc]]) := ⟨(((M8.out.pull 1 (by simp)).pull 2 (by simp)).tail.pull 2 (by simp)).tail⟩
                    clear M8
                    obtain ⟨m9, hm9⟩ : ∃ m9, m9 = m := ⟨_, rfl⟩
                    obtain ⟨u9, hu9⟩ : ∃ u9, u9 = u := ⟨_, rfl⟩
                    rw [← hm9, ← hu9] at HUR9 MT
                    have hps9 : m9.ps = ps := by rw [hm9]; exact HPS.out
                    have HPS9 := Aside0.mk hps9
                    clear hm9 hu9 hps9
                    have hml : m9.items.length ≤ 40 := HUR9.out.mo.few
                    have hul : u9.items.length ≤ 40 := HUR9.out.uo.few
                    have htm := top_calls MT.out hml (fun q hq => by have := HUR9.out.mo.short q hq; omega)
                    unfold TopOut at htm
                    go_upto_region 31 with (go_at_call 20; refine htm.mono ?_; clear htm; rintro e20 w20 ⟨A20, c20, rfl, hc20, hm20⟩; have N1 := Aside0.mk (hm20.pull 2 (by simp)); have HC20 := Aside0.mk hc20; clear hm20 hc20 MT)
                    have htu := top_calls N1.out hul (fun q hq => by have := HUR9.out.uo.short q hq; omega)
                    unfold TopOut at htu
                    have hlen := HUR9.out.len
                    have hwl : IntKind.i64.wrap ((m9.items.length : Int) + (i0 : Int)) = (u9.items.length : Int) := by rw [i64_w]; have := HKL.out; unfold Go.RowKit.wrap64; omega
                    clear hlen
                    by_cases hm0 : m9.items.length = 0
                    · have hm0' : ¬ (0 : Int) < (m9.items.length : Int) := by omega
                      go_upto_region 32 with (go_at_call 20; refine htu.mono ?_; clear htu; rintro e21 w21 ⟨A21, c21, rfl, hc21, hm21⟩; have N2 := Aside0.mk hm21; clear hm21 N1)
                      have HM0 := Aside0.mk hm0
                      clear hm0
                      go_wp2_with (first
                        | (go_at_call 14; refine (len_calls (N2.out.pull 3 (by simp))).mono ?_; rintro e22 w22 ⟨rfl, rfl⟩)
                        | (go_at_call 14; refine (len_calls (N2.out.pull 1 (by simp))).mono ?_; rintro e22 w22 ⟨rfl, rfl⟩)
                        | (go_at_call 18; refine (count_calls (N2.out.pull 3 (by simp))).mono ?_; rintro e22 w22 ⟨rfl, rfl⟩)
                        | (go_at_call 18; refine (count_calls (N2.out.pull 1 (by simp))).mono ?_; rintro e22 w22 ⟨he22, rfl⟩; rw [HUR9.out.cnt] at he22; subst he22)
                        | fail)
                      go_roundw
                      case rel => exact ⟨i + 1, m9, u9, by omega, by go_num, HUR9, HPS9, ⟨((N2.out.tail.pull 1 (by simp)).tail).pull 1 (by simp)⟩⟩
                      case measure => simp [intOf]; omega
                    · have hm0' : (0 : Int) < (m9.items.length : Int) := by omega
                      have hte : topE u9.ents = topE m9.ents := by
                        rw [HUR9.out.ents]
                        exact top_under (fun h => hm0 (by rw [← ents_len, h]; rfl))
                      rw [hte] at htu
                      clear hte
                      have htl : (topE m9.ents).length ≤ 1048576 := by
                        obtain ⟨k9, hk9⟩ : ∃ k9, m9.items.length = k9 + 1 := ⟨m9.items.length - 1, by omega⟩
                        obtain ⟨hk, e9⟩ := top_at hk9
                        have : topE m9.ents = m9.items[k9].ex := e9
                        rw [this]
                        exact HUR9.out.mo.short _ (List.getElem_mem hk)
                      obtain ⟨ks, hks⟩ := sameE_ok (topE m9.ents) (topE m9.ents) (by omega)
                      rw [decide_eq_true rfl] at hks
                      go_upto_region 32 with (go_at_call 20; refine htu.mono ?_; clear htu; rintro e21 w21 ⟨A21, c21, rfl, hc21, hm21⟩; have N2 := Aside0.mk hm21; have hse := lemmalaw11_sameExpr.calls ks A20 c20 (topE m9.ents) A21 c21 (topE m9.ents) true _ (row_Ci (Sep.row (hm21.pull 2 (by simp))) (by omega)).2 HC20.out (row_Ci hm21.row (by omega)).2 hc21 hks; clear hm21 hc21 N1 hks htl)
                      go_wp2_with (first
                        | (go_at_call 14; refine (len_calls (N2.out.pull 3 (by simp))).mono ?_; rintro e22 w22 ⟨rfl, rfl⟩)
                        | (go_at_call 14; refine (len_calls (N2.out.pull 1 (by simp))).mono ?_; rintro e22 w22 ⟨rfl, rfl⟩)
                        | (go_at_call 11; refine hse.mono ?_; clear hse; rintro e23 w23 ⟨rfl, hd23⟩; have N3 := Aside0.mk (N2.out.drawn hd23); clear hd23 N2)
                        | (go_at_call 18; refine (count_calls (N3.out.pull 3 (by simp))).mono ?_; rintro e22 w22 ⟨rfl, rfl⟩)
                        | (go_at_call 18; refine (count_calls (N3.out.pull 1 (by simp))).mono ?_; rintro e22 w22 ⟨he22, rfl⟩; rw [HUR9.out.cnt] at he22; subst he22)
                        | fail)
                      go_roundw
                      case rel => exact ⟨i + 1, m9, u9, by omega, by go_num, HUR9, HPS9, ⟨((N3.out.tail.pull 1 (by simp)).tail).pull 1 (by simp)⟩⟩
                      case measure => simp [intOf]; omega

                  · have hap := apply_fi (M3.out.pull 2 (by simp)) HUR.out.mo HFK.out hFC (.ok L) (by rw [HPS.out]; exact ha.symm)
                    have HB2 : Aside0 (Except.ok L = applyE VB u.ps f.fr u.ents) := ⟨by rw [HUR.out.ps, HPS.out, HUR.out.ents]; exact hb.symm⟩
                    have hfit := apply_fit ha HFK.out.gok (ents_iok HUR.out.mo)
                    have hfit2 := (apply_fit HB2.out.symm HFK.out.gok (ents_iok HUR.out.uo)).2.2
                    rw [ents_len, fr_len] at hfit2
                    have hfl := hfit.1
                    have HFI := Aside0.mk hfit.2.1
                    clear ha hb hFC hfit
                    go_upto_region 30 with (first
                      | (go_at_call 35; refine hap.mono ?_; clear hap; rintro e5 w5 ho5; obtain ⟨rfl, A5, c5, q5, hq5, hm5⟩ := apply_ok ho5; have M5 := Aside0.mk hm5; have HQ5 := Aside0.mk hq5; clear ho5 hm5 hq5 M3)
                      | (go_at_call 24; refine (lemmalaw11_num.calls 0 0 _ rfl).mono ?_; rintro e6 w6 ⟨rfl, hd6⟩; have M6 := Aside0.mk (M5.out.drawn hd6); have hFC6 := read_at (Sep.pull M6.out 4 (by simp)) f HFM.out; obtain ⟨⟨t0, t1, t2⟩, -, -, -⟩ := box3 (Sep.pull M6.out 1 (by simp)); have hap2 := apply_fi (Sep.pull M6.out 3 (by simp)) HUR.out.uo HFK.out hFC6 _ HB2.out; clear hd6 M5 hFC6)
                      | (go_at_call 35; refine hap2.mono ?_; clear hap2; rintro e7 w7 ho7; obtain ⟨rfl, A7, c7, q7, hq7, hm7⟩ := apply_ok ho7; have M7 := Aside0.mk hm7; have HQ7 := Aside0.mk hq7; clear ho7 hm7 hq7 M6)
                      | (go_at_call 24; refine (lemmalaw11_num.calls 0 0 _ rfl).mono ?_; rintro e8 w8 ⟨rfl, hd8⟩; have M8 := Aside0.mk (M7.out.drawn hd8); clear hd8 M7)
                      | fail)
                    have HUR9 := Aside0.mk (HUR.out.applied (by omega) hfew hfit2.2 HQ5.out HQ7.out (by omega) HFI.out A5 A7 c5 c7)
                    have MT : Aside0 (Sep w w8 [macR p1 (Mac.applied m (m.items.length - f.hs.length) q5 A5 c5), macR p2 (Mac.applied u (u.items.length - f.hs.length) q7 A7 c7), readR w (AllC f2), rowR 68 3 (.slice (some ⟨bF, 0, none⟩) f2.length c9) f2.length (cellsF f2), boxR bp 27 #[.slice SA ss.length sc, .slice PA ps.length pc, .slice GA gs.length gc, .slice (some ad) ops.length oc]]) := ⟨(((M8.out.pull 1 (by simp)).pull 2 (by simp)).tail.pull 2 (by simp)).tail⟩
                    clear M8
                    obtain ⟨m9, hm9⟩ : ∃ m9, m9 = Mac.applied m (m.items.length - f.hs.length) q5 A5 c5 := ⟨_, rfl⟩
                    obtain ⟨u9, hu9⟩ : ∃ u9, u9 = Mac.applied u (u.items.length - f.hs.length) q7 A7 c7 := ⟨_, rfl⟩
                    rw [← hm9, ← hu9] at HUR9 MT
                    have hps9 : m9.ps = ps := by rw [hm9]; exact HPS.out
                    have HPS9 := Aside0.mk hps9
                    clear hm9 hu9 hps9
                    have hml : m9.items.length ≤ 40 := HUR9.out.mo.few
                    have hul : u9.items.length ≤ 40 := HUR9.out.uo.few
                    have htm := top_calls MT.out hml (fun q hq => by have := HUR9.out.mo.short q hq; omega)
                    unfold TopOut at htm
                    go_upto_region 31 with (go_at_call 20; refine htm.mono ?_; clear htm; rintro e20 w20 ⟨A20, c20, rfl, hc20, hm20⟩; have N1 := Aside0.mk (hm20.pull 2 (by simp)); have HC20 := Aside0.mk hc20; clear hm20 hc20 MT)
                    have htu := top_calls N1.out hul (fun q hq => by have := HUR9.out.uo.short q hq; omega)
                    unfold TopOut at htu
                    have hlen := HUR9.out.len
                    have hwl : IntKind.i64.wrap ((m9.items.length : Int) + (i0 : Int)) = (u9.items.length : Int) := by rw [i64_w]; have := HKL.out; unfold Go.RowKit.wrap64; omega
                    clear hlen
                    by_cases hm0 : m9.items.length = 0
                    · have hm0' : ¬ (0 : Int) < (m9.items.length : Int) := by omega
                      go_upto_region 32 with (go_at_call 20; refine htu.mono ?_; clear htu; rintro e21 w21 ⟨A21, c21, rfl, hc21, hm21⟩; have N2 := Aside0.mk hm21; clear hm21 N1)
                      have HM0 := Aside0.mk hm0
                      clear hm0
                      go_wp2_with (first
                        | (go_at_call 14; refine (len_calls (N2.out.pull 3 (by simp))).mono ?_; rintro e22 w22 ⟨rfl, rfl⟩)
                        | (go_at_call 14; refine (len_calls (N2.out.pull 1 (by simp))).mono ?_; rintro e22 w22 ⟨rfl, rfl⟩)
                        | (go_at_call 18; refine (count_calls (N2.out.pull 3 (by simp))).mono ?_; rintro e22 w22 ⟨rfl, rfl⟩)
                        | (go_at_call 18; refine (count_calls (N2.out.pull 1 (by simp))).mono ?_; rintro e22 w22 ⟨he22, rfl⟩; rw [HUR9.out.cnt] at he22; subst he22)
                        | fail)
                      go_roundw
                      case rel => exact ⟨i + 1, m9, u9, by omega, by go_num, HUR9, HPS9, ⟨((N2.out.tail.pull 1 (by simp)).tail).pull 1 (by simp)⟩⟩
                      case measure => simp [intOf]; omega
                    · have hm0' : (0 : Int) < (m9.items.length : Int) := by omega
                      have hte : topE u9.ents = topE m9.ents := by
                        rw [HUR9.out.ents]
                        exact top_under (fun h => hm0 (by rw [← ents_len, h]; rfl))
                      rw [hte] at htu
                      clear hte
                      have htl : (topE m9.ents).length ≤ 1048576 := by
                        obtain ⟨k9, hk9⟩ : ∃ k9, m9.items.length = k9 + 1 := ⟨m9.items.length - 1, by omega⟩
                        obtain ⟨hk, e9⟩ := top_at hk9
                        have : topE m9.ents = m9.items[k9].ex := e9
                        rw [this]
                        exact HUR9.out.mo.short _ (List.getElem_mem hk)
                      obtain ⟨ks, hks⟩ := sameE_ok (topE m9.ents) (topE m9.ents) (by omega)
                      rw [decide_eq_true rfl] at hks
                      go_upto_region 32 with (go_at_call 20; refine htu.mono ?_; clear htu; rintro e21 w21 ⟨A21, c21, rfl, hc21, hm21⟩; have N2 := Aside0.mk hm21; have hse := lemmalaw11_sameExpr.calls ks A20 c20 (topE m9.ents) A21 c21 (topE m9.ents) true _ (row_Ci (Sep.row (hm21.pull 2 (by simp))) (by omega)).2 HC20.out (row_Ci hm21.row (by omega)).2 hc21 hks; clear hm21 hc21 N1 hks htl)
                      go_wp2_with (first
                        | (go_at_call 14; refine (len_calls (N2.out.pull 3 (by simp))).mono ?_; rintro e22 w22 ⟨rfl, rfl⟩)
                        | (go_at_call 14; refine (len_calls (N2.out.pull 1 (by simp))).mono ?_; rintro e22 w22 ⟨rfl, rfl⟩)
                        | (go_at_call 11; refine hse.mono ?_; clear hse; rintro e23 w23 ⟨rfl, hd23⟩; have N3 := Aside0.mk (N2.out.drawn hd23); clear hd23 N2)
                        | (go_at_call 18; refine (count_calls (N3.out.pull 3 (by simp))).mono ?_; rintro e22 w22 ⟨rfl, rfl⟩)
                        | (go_at_call 18; refine (count_calls (N3.out.pull 1 (by simp))).mono ?_; rintro e22 w22 ⟨he22, rfl⟩; rw [HUR9.out.cnt] at he22; subst he22)
                        | fail)
                      go_roundw
                      case rel => exact ⟨i + 1, m9, u9, by omega, by go_num, HUR9, HPS9, ⟨((N3.out.tail.pull 1 (by simp)).tail).pull 1 (by simp)⟩⟩
                      case measure => simp [intOf]; omega

                  · rw [ents_len, fr_len] at h40
                    have HB2 : Aside0 (Except.error 117 = applyE VB u.ps f.fr u.ents) := ⟨by rw [HUR.out.ps, HPS.out, HUR.out.ents]; exact hb.symm⟩
                    rcases ha with ⟨L, ha⟩ | ha
                    · have hap := apply_fi (M3.out.pull 2 (by simp)) HUR.out.mo HFK.out hFC (.ok L) (by rw [HPS.out]; exact ha.symm)
                      clear ha hb hFC
                      go_upto_region 29 with (first
                        | (go_at_call 35; refine hap.mono ?_; clear hap; rintro e5 w5 ho5; obtain ⟨rfl, A5, c5, q5, hq5, hm5⟩ := apply_ok ho5; have M5 := Aside0.mk hm5; have HQ5 := Aside0.mk hq5; clear ho5 hm5 hq5 M3)
                        | (go_at_call 24; refine (lemmalaw11_num.calls 0 0 _ rfl).mono ?_; rintro e6 w6 ⟨rfl, hd6⟩; have M6 := Aside0.mk (M5.out.drawn hd6); have hFC6 := read_at (Sep.pull M6.out 4 (by simp)) f HFM.out; obtain ⟨⟨t0, t1, t2⟩, -, -, -⟩ := box3 (Sep.pull M6.out 1 (by simp)); have hap2 := apply_fi (Sep.pull M6.out 3 (by simp)) HUR.out.uo HFK.out hFC6 _ HB2.out; clear hd6 M5 hFC6)
                        | (go_at_call 35; refine hap2.mono ?_; clear hap2; rintro e7 w7 ho7; obtain ⟨rfl, hm7⟩ := apply_err ho7; have M7 := Aside0.mk hm7; clear ho7 hm7 M6)
                        | (go_at_call 24; refine (lemmalaw11_num.calls 117 117 _ rfl).mono ?_; rintro e8 w8 ⟨rfl, hd8⟩; have M8 := Aside0.mk (Sep.pull (M7.out.drawn hd8) 1 (by simp)); clear hd8 M7)
                        | fail)
                      have hw40 : IntKind.i64.wrap (40 - (i0 : Int)) = 40 - (i0 : Int) := by rw [i64_w]; unfold Go.RowKit.wrap64; omega
                      have hge : 40 - (i0 : Int) ≤ ((Mac.applied m (m.items.length - f.hs.length) q5 A5 c5).items.length : Int) := by
                        have h8 := (show 40 ≤ kb.length + (Mac.applied m (m.items.length - f.hs.length) q5 A5 c5).items.length by simp [Mac.applied, List.length_take]; omega)
                        have := HKL.out
                        omega
                      go_wp2_with (go_at_call 14; refine (len_calls M8.out).mono ?_; rintro e22 w22 ⟨rfl, rfl⟩)
                      go_ret
                      exact ⟨rfl, M8.out.1⟩

                    · have hap := apply_fi (M3.out.pull 2 (by simp)) HUR.out.mo HFK.out hFC (.error 117) (by rw [HPS.out]; exact ha.symm)
                      clear ha hb hFC
                      go_upto_region 29 with (first
                        | (go_at_call 35; refine hap.mono ?_; clear hap; rintro e5 w5 ho5; obtain ⟨rfl, hm5⟩ := apply_err ho5; have M5 := Aside0.mk hm5; clear ho5 hm5 M3)
                        | (go_at_call 24; refine (lemmalaw11_num.calls 117 117 _ rfl).mono ?_; rintro e6 w6 ⟨rfl, hd6⟩; have M6 := Aside0.mk (M5.out.drawn hd6); have hFC6 := read_at (Sep.pull M6.out 4 (by simp)) f HFM.out; obtain ⟨⟨t0, t1, t2⟩, -, -, -⟩ := box3 (Sep.pull M6.out 1 (by simp)); have hap2 := apply_fi (Sep.pull M6.out 3 (by simp)) HUR.out.uo HFK.out hFC6 _ HB2.out; clear hd6 M5 hFC6)
                        | (go_at_call 35; refine hap2.mono ?_; clear hap2; rintro e7 w7 ho7; obtain ⟨rfl, hm7⟩ := apply_err ho7; have M7 := Aside0.mk hm7; clear ho7 hm7 M6)
                        | (go_at_call 24; refine (lemmalaw11_num.calls 117 117 _ rfl).mono ?_; rintro e8 w8 ⟨rfl, hd8⟩; have M8 := Aside0.mk (Sep.pull (M7.out.drawn hd8) 1 (by simp)); clear hd8 M7)
                        | fail)
                      have hw40 : IntKind.i64.wrap (40 - (i0 : Int)) = 40 - (i0 : Int) := by rw [i64_w]; unfold Go.RowKit.wrap64; omega
                      have hge : 40 - (i0 : Int) ≤ ((m).items.length : Int) := by
                        have h8 := (show 40 ≤ kb.length + m.items.length by omega)
                        have := HKL.out
                        omega
                      go_wp2_with (go_at_call 14; refine (len_calls M8.out).mono ?_; rintro e22 w22 ⟨rfl, rfl⟩)
                      go_ret
                      exact ⟨rfl, M8.out.1⟩

                · have hap := apply_fi (M3.out.pull 2 (by simp)) HUR.out.mo HFK.out hFC (.error 113) (by rw [apply_few (by rw [ents_len, fr_len]; omega)])
                  clear hFC
                  go_wp2_with (first
                    | (go_at_call 35; refine hap.mono ?_; clear hap; rintro e5 w5 ho5; obtain ⟨rfl, hm5⟩ := apply_err ho5; have M5 := Aside0.mk hm5; clear ho5 hm5 M3)
                    | (go_at_call 24; refine (lemmalaw11_num.calls 113 113 _ rfl).mono ?_; rintro e6 w6 ⟨rfl, hd6⟩; have M6 := Aside0.mk (M5.out.drawn hd6); clear hd6 M5)
                    | fail)
                  go_roundw
                  case rel => exact ⟨i + 1, m, u, by omega, by go_num, ⟨HUR.out.more (by omega)⟩, HPS, ⟨((((M6.out.pull 3 (by simp)).pull 1 (by simp)).pull 2 (by simp)).tail.pull 2 (by simp)).tail⟩⟩
                  case measure => simp [intOf]; omega
              · have hk1b : (qk == 1) = false := by simpa using hk1
                have hk2b : (qk == 2) = false := by simpa using hk2
                have hk1d : decide (qk = 1) = false := by simpa using hk1
                have hk2d : decide (qk = 2) = false := by simpa using hk2
                go_upto_region 30 with fail
                have HUR9 := Aside0.mk (HUR.out.more (j := i + 1) (by omega))
                have MT : Aside0 (Sep w wa [macR p1 m, macR p2 u, readR w (AllC f2), rowR 68 3 (.slice A9 f2.length c9) f2.length (cellsF f2), boxR bp 27 #[.slice SA ss.length sc, .slice PA ps.length pc, .slice GA gs.length gc, .slice (some ad) ops.length oc]]) := ⟨M1.out.tail⟩
                clear M1
                obtain ⟨m9, hm9⟩ : ∃ m9, m9 = m := ⟨_, rfl⟩
                obtain ⟨u9, hu9⟩ : ∃ u9, u9 = u := ⟨_, rfl⟩
                rw [← hm9, ← hu9] at HUR9 MT
                have hps9 : m9.ps = ps := by rw [hm9]; exact HPS.out
                have HPS9 := Aside0.mk hps9
                clear hm9 hu9 hps9
                have hml : m9.items.length ≤ 40 := HUR9.out.mo.few
                have hul : u9.items.length ≤ 40 := HUR9.out.uo.few
                have htm := top_calls MT.out hml (fun q hq => by have := HUR9.out.mo.short q hq; omega)
                unfold TopOut at htm
                go_upto_region 31 with (go_at_call 20; refine htm.mono ?_; clear htm; rintro e20 w20 ⟨A20, c20, rfl, hc20, hm20⟩; have N1 := Aside0.mk (hm20.pull 2 (by simp)); have HC20 := Aside0.mk hc20; clear hm20 hc20 MT)
                have htu := top_calls N1.out hul (fun q hq => by have := HUR9.out.uo.short q hq; omega)
                unfold TopOut at htu
                have hlen := HUR9.out.len
                have hwl : IntKind.i64.wrap ((m9.items.length : Int) + (i0 : Int)) = (u9.items.length : Int) := by rw [i64_w]; have := HKL.out; unfold Go.RowKit.wrap64; omega
                clear hlen
                by_cases hm0 : m9.items.length = 0
                · have hm0' : ¬ (0 : Int) < (m9.items.length : Int) := by omega
                  go_upto_region 32 with (go_at_call 20; refine htu.mono ?_; clear htu; rintro e21 w21 ⟨A21, c21, rfl, hc21, hm21⟩; have N2 := Aside0.mk hm21; clear hm21 N1)
                  have HM0 := Aside0.mk hm0
                  clear hm0
                  go_wp2_with (first
                    | (go_at_call 14; refine (len_calls (N2.out.pull 3 (by simp))).mono ?_; rintro e22 w22 ⟨rfl, rfl⟩)
                    | (go_at_call 14; refine (len_calls (N2.out.pull 1 (by simp))).mono ?_; rintro e22 w22 ⟨rfl, rfl⟩)
                    | (go_at_call 18; refine (count_calls (N2.out.pull 3 (by simp))).mono ?_; rintro e22 w22 ⟨rfl, rfl⟩)
                    | (go_at_call 18; refine (count_calls (N2.out.pull 1 (by simp))).mono ?_; rintro e22 w22 ⟨he22, rfl⟩; rw [HUR9.out.cnt] at he22; subst he22)
                    | fail)
                  go_roundw
                  case rel => exact ⟨i + 1, m9, u9, by omega, by go_num, HUR9, HPS9, ⟨((N2.out.tail.pull 1 (by simp)).tail).pull 1 (by simp)⟩⟩
                  case measure => simp [intOf]; omega
                · have hm0' : (0 : Int) < (m9.items.length : Int) := by omega
                  have hte : topE u9.ents = topE m9.ents := by
                    rw [HUR9.out.ents]
                    exact top_under (fun h => hm0 (by rw [← ents_len, h]; rfl))
                  rw [hte] at htu
                  clear hte
                  have htl : (topE m9.ents).length ≤ 1048576 := by
                    obtain ⟨k9, hk9⟩ : ∃ k9, m9.items.length = k9 + 1 := ⟨m9.items.length - 1, by omega⟩
                    obtain ⟨hk, e9⟩ := top_at hk9
                    have : topE m9.ents = m9.items[k9].ex := e9
                    rw [this]
                    exact HUR9.out.mo.short _ (List.getElem_mem hk)
                  obtain ⟨ks, hks⟩ := sameE_ok (topE m9.ents) (topE m9.ents) (by omega)
                  rw [decide_eq_true rfl] at hks
                  go_upto_region 32 with (go_at_call 20; refine htu.mono ?_; clear htu; rintro e21 w21 ⟨A21, c21, rfl, hc21, hm21⟩; have N2 := Aside0.mk hm21; have hse := lemmalaw11_sameExpr.calls ks A20 c20 (topE m9.ents) A21 c21 (topE m9.ents) true _ (row_Ci (Sep.row (hm21.pull 2 (by simp))) (by omega)).2 HC20.out (row_Ci hm21.row (by omega)).2 hc21 hks; clear hm21 hc21 N1 hks htl)
                  go_wp2_with (first
                    | (go_at_call 14; refine (len_calls (N2.out.pull 3 (by simp))).mono ?_; rintro e22 w22 ⟨rfl, rfl⟩)
                    | (go_at_call 14; refine (len_calls (N2.out.pull 1 (by simp))).mono ?_; rintro e22 w22 ⟨rfl, rfl⟩)
                    | (go_at_call 11; refine hse.mono ?_; clear hse; rintro e23 w23 ⟨rfl, hd23⟩; have N3 := Aside0.mk (N2.out.drawn hd23); clear hd23 N2)
                    | (go_at_call 18; refine (count_calls (N3.out.pull 3 (by simp))).mono ?_; rintro e22 w22 ⟨rfl, rfl⟩)
                    | (go_at_call 18; refine (count_calls (N3.out.pull 1 (by simp))).mono ?_; rintro e22 w22 ⟨he22, rfl⟩; rw [HUR9.out.cnt] at he22; subst he22)
                    | fail)
                  go_roundw
                  case rel => exact ⟨i + 1, m9, u9, by omega, by go_num, HUR9, HPS9, ⟨((N3.out.tail.pull 1 (by simp)).tail).pull 1 (by simp)⟩⟩
                  case measure => simp [intOf]; omega
          · have hie : i = ops.length := by omega
            subst hie
            go_wp2_with fail
            go_ret
            exact ⟨rfl, M.out.1⟩

end Go.Proofs.YtcfocbfocemapaaGreat.UndD
