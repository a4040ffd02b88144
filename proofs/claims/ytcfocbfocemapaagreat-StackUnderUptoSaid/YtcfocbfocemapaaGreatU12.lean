/- BindW, BecW, ApplyW. -/
import Derived.Test.YtcfocbfocemapaaGreatU11
import Derived.Test.YtcfocbfocemapaaGreatU4
namespace Go.Proofs.YtcfocbfocemapaaGreat.BindW
open Go.RowKit Go.Maps Go.Lib Go.Proofs.YtcfocbfocemapaaGreat.Sep Go.Proofs.YtcfocbfocemapaaGreat.Mem Go.Proofs.YtcfocbfocemapaaGreat.Sets Go.Proofs.YtcfocbfocemapaaGreat.PlayP Go.Proofs.YtcfocbfocemapaaGreat.BindP Go.Proofs.YtcfocbfocemapaaGreat.PStackPlays Go.Proofs.YtcfocbfocemapaaGreat.LibC Go.Proofs.YtcfocbfocemapaaGreat.DistC Go.Proofs.YtcfocbfocemapaaGreat.SubA Go.Proofs.YtcfocbfocemapaaGreat.SubC Go.Proofs.YtcfocbfocemapaaGreat.SubN Go.Proofs.YtcfocbfocemapaaGreat.NewS
open Go.Proofs.YtcfocbfocemapaaGreatW.PrintWords Go.Proofs.YtcfocbfocemapaaGreatW.PrintLast Go.Proofs.YtcfocbfocemapaaGreatW.PrintMore
set_option linter.unusedVariables false
set_option linter.unusedSimpArgs false
set_option maxRecDepth 100000

abbrev kE : Kd (List Int) := Kd.slice 3 kI
theorem hyp_at {w : World} {A : Option Addr} {n : Nat} {hs : List Hy} (h : Kd.C k93 w A n hs) {i : Nat} (hi : i < hs.length) :
    ∃ ad A3 c3, A = some ad ∧ w.cell? (ad.add (i * 4)) = some (.string hs[i].f0) ∧ w.cell? ⟨(ad.add (i * 4)).block, (ad.add (i * 4)).off + 1, none⟩ = some (.bool hs[i].f1) ∧ w.cell? ⟨(ad.add (i * 4)).block, (ad.add (i * 4)).off + 2, none⟩ = some (.int .i64 hs[i].f2) ∧ w.cell? ⟨(ad.add (i * 4)).block, (ad.add (i * 4)).off + 3, none⟩ = some (.slice A3 hs[i].f3.length c3) ∧ hs[i].f3.length ≤ c3 ∧ Kd.C kI w A3 hs[i].f3.length hs[i].f3 := by
  have hn := h.1
  obtain ⟨ad, A3, c3, h1, h2⟩ := at_T93 h (i : Int) (by omega) (by omega)
  rw [rdT_of hi] at h2
  exact ⟨ad, A3, c3, h1, h2⟩
theorem lst_at {w : World} {A : Option Addr} {n : Nat} {es : List Ex} (h : Kd.C kE w A n es) {i : Nat} (hi : i < es.length) :
    ∃ ad A' c', A = some ad ∧ w.cell? (ad.add i) = some (.slice A' es[i].length c') ∧ es[i].length ≤ c' ∧ Kd.C kI w A' es[i].length es[i] := by
  have hn := h.1
  obtain ⟨ad, A3, c3, h1, h2⟩ := at_L3 h (i : Int) (by omega) (by omega)
  rw [rdL_of hi] at h2
  exact ⟨ad, A3, c3, h1, h2⟩
/-- Binds of one's own whose lists lie anywhere. -/
theorem binds_C2 {w : World} {A : Option Addr} {c : Nat} {items : List BI} (h : w.ownsRow 0 101 2 (.slice A items.length c) items.length (cellsB (items.map BI.bm))) (hx : ∀ q ∈ items, q.ex.length ≤ q.c ∧ Kd.C kI w q.A q.ex.length q.ex) (hl : items.length ≤ 4194304) : Kd.C kB w A (items.map BI.pr).length (items.map BI.pr) := by
  rw [List.length_map]
  refine ⟨by simp, by omega, fun hn => ?_⟩
  obtain ⟨b, cap, e, _, hcell, _⟩ := row_some h hn
  simp only [Value.slice.injEq, true_and] at e
  refine ⟨⟨b, 0, none⟩, e.1, fun j p hp => ?_⟩
  rw [List.getElem?_map] at hp
  obtain ⟨q, hq, rfl⟩ := Option.map_eq_some_iff.1 hp
  have hj := (List.getElem?_eq_some_iff.1 hq).1
  have hq2 : items[j] = q := (List.getElem?_eq_some_iff.1 hq).2
  have hqm := List.mem_of_getElem? hq
  obtain ⟨h1, h2⟩ := hx q hqm
  obtain ⟨n1, n2⟩ := cellsB_at (items.map BI.bm) (k := j) (by simpa using hj)
  simp only [List.getElem_map, hq2] at n1 n2
  refine ⟨[.int .i64 q.x, .slice q.A q.ex.length q.c], rfl, ⟨[.int .i64 q.x], [.slice q.A q.ex.length q.c], rfl, rfl, ⟨q.A, q.c, rfl, h1, h2⟩⟩, fun i u hu => ?_⟩
  have e3 : ∀ i, (⟨b, 0, none⟩ : Addr).add (j * kB.sz + i) = ⟨b, j * 2 + i, none⟩ := fun i => add0 b (j * 2 + i)
  rw [e3]
  match i, hu with
  | 0, hu => simp at hu; subst hu; exact hcell _ _ n1
  | 1, hu => simp at hu; subst hu; exact hcell _ _ n2
  | i + 2, hu => simp at hu
theorem cell_grown {w w' : World} {a : Addr} {v : Value} (h : w.cell? a = some v) (hg : w.grownBy w' none) : w'.cell? a = some v :=
  (World.cell?_of_block (hg.block a.block (World.block_lt_of_cell? _ _ h) (by simp))).trans h
def BindsOut (w : World) (hs : List Hy) (es : List Ex) (e : Ending) (w' : World) : Prop :=
  if kindB hs es = false then e = .returned (.tuple #[.agg #[.slice none 0 0], .int .i64 114]) ∧ Below w.heap.size w w'
  else NewOut w (envOf hs es) e w'
set_option maxHeartbeats 8000000 in
theorem binds_calls {w : World} {A E : Option Addr} {c d : Nat} {hs : List Hy} {es : List Ex} (v1 v2 : Value) (hH : Kd.C k93 w A hs.length hs) (hE : Kd.C kE w E es.length es) (hle : es.length = hs.length) (hl : hs.length ≤ 2097152) (hnd : (flVars hs).Nodup) (hty : ∀ h ∈ hs, h.f1 = true → h.f3 ≠ [])
    (hh3 : ∀ h ∈ hs, h.f3.length ≤ 2097152) (hes : ∀ e ∈ es, e.length ≤ 4194304) :
    Calls Tryz.prog 59 #[.agg #[.slice A hs.length c, v1, v2], .slice E es.length d] w (BindsOut w hs es) := by
  have M0 := row_nil (box_fresh (box_fresh (Sep.start w) 68 #[.slice A hs.length c, v1, v2]) 103 #[.slice none 0 0]) 101 2
  simp only [World.size_alloc] at M0
  have HH := Aside0.mk hH
  have HE := Aside0.mk hE
  have HLE := Aside0.mk hle
  have HND := Aside0.mk hnd
  have HTY := Aside0.mk hty
  have HH3 := Aside0.mk hh3
  have HES := Aside0.mk hes
  have M := Aside0.mk M0
  clear hH hE hnd hty hh3 hes M0 hle
  go_enter Tryz.func59, Tryz.ntmps59
  go_wp2_with fail
  go_loopw [6, 7, 8, 14] (fun v6 v7 v8 v14 wr => ∃ (i : Nat) (A6 : Option Addr) (c6 : Nat) (items : List BI), i ≤ hs.length ∧ v14 = .int .i64 i ∧ v6 = .slice A6 items.length c6 ∧ items.length ≤ c6 ∧ items.length ≤ i ∧ Aside0 (items.map BI.pr = envOf (hs.take i) (es.take i)) ∧ Aside0 (kindB (hs.take i) (es.take i) = true) ∧
    Aside0 (∀ q ∈ items, q.ex.length ≤ q.c ∧ Kd.C kI w q.A q.ex.length q.ex) ∧
    Aside0 (Sep w wr [rowR 101 2 (.slice A6 items.length c6) items.length (cellsB (items.map BI.bm)), boxR (w.heap.size + 1) 103 #[.slice none 0 0], boxR w.heap.size 68 #[.slice A hs.length c, v1, v2]])) (fun _ _ _ v14 _ => hs.length - (intOf v14).toNat)
  case atStart => exact ⟨0, none, 0, [], by omega, rfl, rfl, by simp, by simp, ⟨by rw [List.take_zero]; rfl⟩, ⟨by rw [List.take_zero]; rfl⟩, ⟨fun q hq => by simp at hq⟩, M⟩
  case round =>
    clear M
    obtain ⟨i, A6, c6, items, hi, rfl, rfl, hc6, hii, HP, HK, HI, M⟩ := hrel
    by_cases hlt : i < hs.length
    · obtain ⟨ad, A3, c3, rfl, y0, y1, y2, y3, hc3, hK3⟩ := hyp_at (Kd.C_below HH.out M.out.1) hlt
      have hlte : i < es.length := by rw [HLE.out]; exact hlt
      obtain ⟨ae, A4, c4, hE4, zw, hc4, hK4w⟩ := lst_at HE.out hlte
      have hK4 := Kd.C_below hK4w M.out.1
      have HME := Aside0.mk (env_more hs es i hlt hlte)
      have HMK := Aside0.mk (kind_more hs es i hlt hlte)
      have hmem := List.getElem_mem hlt
      have hty := HTY.out _ hmem
      have hh3 := HH3.out _ hmem
      have hel := HES.out _ (List.getElem_mem hlte)
      obtain ⟨h, hh⟩ : ∃ h, h = hs[i] := ⟨_, rfl⟩
      obtain ⟨e, he⟩ : ∃ e, e = es[i] := ⟨_, rfl⟩
      rw [← hh] at y0 y1 y2 y3 hc3 hK3 hty hh3
      rw [← hh] at HME HMK
      rw [← he] at zw hc4 hK4 hel hK4w
      have HZ := Aside0.mk (fun w' (hb : Below w.heap.size w w') => (hb.cell (World.block_lt_of_cell? _ _ zw)).trans zw)
      have z0 := HZ.out wr M.out.1
      have HK4W := Aside0.mk hK4w
      clear zw hK4w
      rw [← he] at HME HMK
      have HKK := Aside0.mk (show kind1 h e = false → kindB hs es = false from fun hk => by
        cases hq : kindB hs es with
        | false => rfl
        | true =>
          have := kind_at hs es hq i hlt hlte
          rw [← hh, ← he, hk] at this
          cases this)
      clear hh he hlte hmem
      obtain ⟨f0, f1, x, tc⟩ := h
      simp only at y0 y1 y2 y3 hc3 hK3 hty hh3
      simp only at HME
      rw [hE4]
      cases f1 with
      | false =>
        have M1 := Aside0.mk (M.out.alloc (.cells #[.string f0, .bool false, .int .i64 x, .slice A3 tc.length c3] 93))
        have hp1 := HME.out
        have hk1 := HMK.out
        rw [if_neg (by simp), List.append_nil, ← HP.out] at hp1
        rw [HK.out] at hk1
        have HP1 := Aside0.mk hp1.symm
        have HK1 := Aside0.mk (show kindB (hs.take (i + 1)) (es.take (i + 1)) = true by rw [hk1]; rfl)
        clear HP HK HME HMK hp1 hk1 M hK3 hK4 hty HKK
        go_wp2_with fail
        go_roundw
        case rel => exact ⟨i + 1, A6, c6, items, by omega, by go_num, rfl, hc6, by omega, HP1, HK1, HI, M1⟩
        case measure => simp [intOf]; omega
      | true =>
        obtain ⟨k0, t2, rfl⟩ := List.exists_cons_of_ne_nil (hty rfl)
        cases e with
        | nil =>
          have hkf := HKK.out (by simp [kind1])
          have HKF := Aside0.mk hkf
          go_upto_region 6 with fail
          have MD := Aside0.mk (box_fresh M.out 93 #[.string f0, .bool true, .int .i64 x, .slice A3 (t2.length + 1) c3])
          have z1 : (wr.alloc (.cells #[.string f0, .bool true, .int .i64 x, .slice A3 (t2.length + 1) c3] 93)).cell? (ae.add i) = some (.slice A4 0 c4) := cell_grown z0 (World.grownBy_alloc _ _ _)
          have hi1 : (i : Int) < (es.length : Int) := by rw [HLE.out]; omega
          generalize wr.alloc (.cells #[.string f0, .bool true, .int .i64 x, .slice A3 (t2.length + 1) c3] 93) = w4 at MD z1 ⊢
          obtain ⟨b0, g0⟩ := box_cell (MD.out.pull 2 (by simp)) (j := 0) rfl
          go_quiet (fail)
          have M2 := Aside0.mk (box_set ((MD.out.drawn (w' := w4.drewN nq) ⟨nq, rfl⟩).pull 2 (by simp)) 0 (.slice none 0 0))
          clear MD HP HK HI M HME HMK hK3 hK4 hty z0 z1
          go_wp2_with fail
          refine bodyPost_ret (results_ct rfl _ _ (w.heap.size + 1) 103 #[.slice none 0 0] (0, 0) _ rfl (box_at M2.out) Tryz.underlying103 rfl (by kernel_rfl)) rfl ?_
          unfold BindsOut
          rw [if_pos HKF.out]
          exact ⟨rfl, M2.out.1⟩
        | cons e0 et =>
          by_cases heq : e0 = k0
          · subst heq
            obtain ⟨a3, rfl, k3⟩ := int_at hK3 (i := 0) (by simp)
            have hCd := Kd.C_drop HK4W.out (m := 1) (by simp) hc4
            have hcdl := hc4
            obtain ⟨a4, rfl, k4⟩ := int_at hK4 (i := 0) (by simp)
            simp only [List.getElem_cons_zero] at k3 k4
            rw [show a3.add 0 = a3 from by simp [Addr.add]] at k3
            rw [show a4.add 0 = a4 from by simp [Addr.add]] at k4
            obtain ⟨AT, hAT⟩ : ∃ AT, AT = (if c4 = 1 then some a4 else (some a4).map (·.add (1 * kI.sz))) := ⟨_, rfl⟩
            rw [← hAT] at hCd
            have hAT2 : (if c4 = 1 then some a4 else some ⟨a4.block, a4.off + 1, none⟩) = AT := hAT.symm
            clear hAT
            have HCD := Aside0.mk hCd
            go_upto_region 6 with fail
            have MD := Aside0.mk (box_fresh M.out 93 #[.string f0, .bool true, .int .i64 x, .slice (some a3) (t2.length + 1) c3])
            have z1 : (wr.alloc (.cells #[.string f0, .bool true, .int .i64 x, .slice (some a3) (t2.length + 1) c3] 93)).cell? (ae.add i) = some (.slice (some a4) (et.length + 1) c4) := cell_grown z0 (World.grownBy_alloc _ _ _)
            have k3' : (wr.alloc (.cells #[.string f0, .bool true, .int .i64 x, .slice (some a3) (t2.length + 1) c3] 93)).cell? a3 = some (.int .i64 e0) := cell_grown k3 (World.grownBy_alloc _ _ _)
            have k4' : (wr.alloc (.cells #[.string f0, .bool true, .int .i64 x, .slice (some a3) (t2.length + 1) c3] 93)).cell? a4 = some (.int .i64 e0) := cell_grown k4 (World.grownBy_alloc _ _ _)
            have hi1 : (i : Int) < (es.length : Int) := by rw [HLE.out]; omega
            have hi2 : ¬ (et.length : Int) + 1 = 0 := by omega
            have hi3 : (0 : Int) < (et.length : Int) + 1 := by omega
            have hi4 : (0 : Int) < (t2.length : Int) + 1 := by omega
            have hlen0 : (((et.length : Int) + 1) == 0) = false := by simpa using hi2
            obtain ⟨x3, -⟩ := box_cell MD.out (j := 3) rfl
            generalize wr.alloc (.cells #[.string f0, .bool true, .int .i64 x, .slice (some a3) (t2.length + 1) c3] 93) = w4 at MD z1 k3' k4' x3 ⊢
            go_quiet (fail)
            have M2 := Aside0.mk (MD.out.drawn (w' := w4.drewN nq) ⟨nq, rfl⟩)
            have z2 : (w4.drewN nq).cell? (ae.add i) = some (.slice (some a4) (et.length + 1) c4) := z1
            have x2 : (w4.drewN nq).cell? ⟨wr.heap.size, 2, none⟩ = some (.int .i64 x) := (box_cell M2.out (j := 2) rfl).1
            clear MD z0 z1 k3 k4 k3' k4' x3 hK3 hK4 M
            generalize w4.drewN nq = w5 at M2 z2 x2 ⊢
            go_upto_region 8 with fail
            have M3 := Aside0.mk (M2.out.drawn (w' := w5.drew) ⟨1, rfl⟩)
            have hit : items.length ≤ 2097152 := by omega
            have hi5 : (1 : Int) ≤ (et.length : Int) + 1 := by omega
            have hi6 : (0 : Int) ≤ (et.length : Int) := by omega
            have hc4' : et.length + 1 ≤ c4 := by simpa using hc4
            have hi7 : (et.length : Int) + 1 ≤ (c4 : Int) := by omega
            go_region_held3 (fun w' => w'.cell? ⟨wr.heap.size, 2, none⟩ = some (.int .i64 x) ∧ w'.cell? (ae.add i) = some (.slice (some a4) (et.length + 1) c4))
              (first | exact ⟨x2, z2⟩ | exact ⟨(box_cell (M3.out.alloc _) (j := 2) rfl).1, HZ.out _ (M3.out.alloc _).1⟩ | exact ⟨(box_cell (M6.out.pull 1 (by simp)) (j := 2) rfl).1, HZ.out _ M6.out.1⟩)
              (first
                | (obtain ⟨i101, hi101, hz101, hs101, hb101⟩ := info_parts info101
                   refine step_append_lies _ rfl _ _ _ rfl 0 101 i101 _ 2 32 Tryz.underlying99 hi101 hz101 hs101 hb101 rfl (by omega) (.slice A6 items.length c6) items.length (cellsB (items.map BI.bm)) rfl ((M3.out.alloc _).pull 1 (by simp)).row
                     ⟨w5.drew.heap.size, 0, none⟩ 1 1 [.int .i64 x, .slice AT et.length (c4 - 1)] rfl rfl (World.news_of_block (cs := #[.int .i64 x, .slice AT et.length (c4 - 1)]) (t := 101) (fr := (0, 0)) (heap_alloc_new w5.drew _)) (by simp [Value.oneCell'])
                     (by omega) (by unfold maxLen; omega) (by omega) (Nat.zero_le _) (w5.drew.heap.size + 1) (by simp) ?_
                   intro gg cap w10 hown hgrow hat hlt4
                   have M6 := Aside0.mk (((M3.out.alloc (.cells #[.int .i64 x, .slice AT et.length (c4 - 1)] 101)).pull 1 (by simp)).appended hown hgrow (by
                     rcases hat with h | h
                     · exact .inl h.symm
                     · right; rw [h]; simp [Value.ownBlock]))
                   clear hown hgrow hat hlt4)
                | fail)
            obtain ⟨A5, c5, hA5, hc5'⟩ := row_slice M6.out.row
            simp only [Value.slice.injEq, true_and] at hA5
            obtain ⟨-, hcc⟩ := hA5
            have hcl : cellsB (items.map BI.bm) ++ [.int .i64 x, .slice AT et.length (c4 - 1)] = cellsB ((items ++ [(⟨x, et, AT, c4 - 1⟩ : BI)]).map BI.bm) := by
              rw [List.map_append, List.map_singleton, cellsB_more]
              rfl
            have hm7 := (M6.out.pull 1 (by simp)).tail
            have hln : (items ++ [(⟨x, et, AT, c4 - 1⟩ : BI)]).length = items.length + 1 := by simp
            rw [hcl, ← hln] at hm7
            have M7 := Aside0.mk hm7
            have hp1 := HME.out
            rw [if_pos rfl, ← HP.out] at hp1
            have HP1 := Aside0.mk (show (items ++ [(⟨x, et, AT, c4 - 1⟩ : BI)]).map BI.pr = envOf (hs.take (i + 1)) (es.take (i + 1)) by rw [hp1, List.map_append]; rfl)
            have HK1 := Aside0.mk (show kindB (hs.take (i + 1)) (es.take (i + 1)) = true by rw [HMK.out, HK.out]; simp [kind1])
            have HI1 := Aside0.mk (show ∀ q ∈ items ++ [(⟨x, et, AT, c4 - 1⟩ : BI)], q.ex.length ≤ q.c ∧ Kd.C kI w q.A q.ex.length q.ex from fun q hq => by
              rcases List.mem_append.1 hq with hq | hq
              · exact HI.out q hq
              · simp only [List.mem_singleton] at hq
                subst hq
                exact ⟨by show et.length ≤ c4 - 1; omega, by simpa using HCD.out⟩)
            clear M2 M3 M6 hm7 hcl hp1 HP HK HI HME HMK HKK HCD hAT2 x2 z2 HK4W
            go_wp2_with fail
            go_roundw
            case rel => exact ⟨i + 1, _, _, _, by omega, by go_num, by rw [hln], by rw [hln]; omega, by rw [hln]; omega, HP1, HK1, HI1, M7⟩
            case measure => simp [intOf]; omega
          · have hkf := HKK.out (by simp [kind1, heq])
            have HKF := Aside0.mk hkf
            obtain ⟨a3, rfl, k3⟩ := int_at hK3 (i := 0) (by simp)
            obtain ⟨a4, rfl, k4⟩ := int_at hK4 (i := 0) (by simp)
            simp only [List.getElem_cons_zero] at k3 k4
            rw [show a3.add 0 = a3 from by simp [Addr.add]] at k3
            rw [show a4.add 0 = a4 from by simp [Addr.add]] at k4
            go_upto_region 6 with fail
            have MD := Aside0.mk (box_fresh M.out 93 #[.string f0, .bool true, .int .i64 x, .slice (some a3) (t2.length + 1) c3])
            have z1 : (wr.alloc (.cells #[.string f0, .bool true, .int .i64 x, .slice (some a3) (t2.length + 1) c3] 93)).cell? (ae.add i) = some (.slice (some a4) (et.length + 1) c4) := cell_grown z0 (World.grownBy_alloc _ _ _)
            have k3' : (wr.alloc (.cells #[.string f0, .bool true, .int .i64 x, .slice (some a3) (t2.length + 1) c3] 93)).cell? a3 = some (.int .i64 k0) := cell_grown k3 (World.grownBy_alloc _ _ _)
            have k4' : (wr.alloc (.cells #[.string f0, .bool true, .int .i64 x, .slice (some a3) (t2.length + 1) c3] 93)).cell? a4 = some (.int .i64 e0) := cell_grown k4 (World.grownBy_alloc _ _ _)
            have hi1 : (i : Int) < (es.length : Int) := by rw [HLE.out]; omega
            have hi2 : ¬ (et.length : Int) + 1 = 0 := by omega
            have hi3 : (0 : Int) < (et.length : Int) + 1 := by omega
            have hi4 : (0 : Int) < (t2.length : Int) + 1 := by omega
            have hlen0 : (((et.length : Int) + 1) == 0) = false := by simpa using hi2
            obtain ⟨x3, -⟩ := box_cell MD.out (j := 3) rfl
            generalize wr.alloc (.cells #[.string f0, .bool true, .int .i64 x, .slice (some a3) (t2.length + 1) c3] 93) = w4 at MD z1 k3' k4' x3 ⊢
            obtain ⟨b0, g0⟩ := box_cell (MD.out.pull 2 (by simp)) (j := 0) rfl
            go_quiet (fail)
            have M2 := Aside0.mk (box_set ((MD.out.drawn (w' := w4.drewN nq) ⟨nq, rfl⟩).pull 2 (by simp)) 0 (.slice none 0 0))
            clear MD HP HK HI M HME HMK hK3 hK4 hty z0 z1 k3 k4 k3' k4' x3
            go_wp2_with fail
            refine bodyPost_ret (results_ct rfl _ _ (w.heap.size + 1) 103 #[.slice none 0 0] (0, 0) _ rfl (box_at M2.out) Tryz.underlying103 rfl (by kernel_rfl)) rfl ?_
            unfold BindsOut
            rw [if_pos HKF.out]
            exact ⟨rfl, M2.out.1⟩
    · have hie : i = hs.length := by omega
      subst hie
      rw [List.take_length, List.take_of_length_le (by rw [HLE.out]; omega)] at HP HK
      have hC2 := binds_C2 M.out.row (fun q hq => ⟨(HI.out q hq).1, Kd.C_below (HI.out q hq).2 M.out.1⟩) (by omega)
      have hpl : (items.map BI.pr).length = items.length := List.length_map ..
      have hnw := NewS.new_calls (c := c6) hC2 (by rw [hpl]; omega) (fun b hb => by rw [HP.out] at hb; exact env_short hs es HES.out b hb) (by rw [HP.out, env_vars hs es HLE.out]; exact HND.out)
      rw [hpl] at hnw
      clear hC2
      obtain ⟨b0, g0⟩ := box_cell (M.out.pull 1 (by simp)) (j := 0) rfl
      go_wp2_with (go_at_call 56; refine hnw.mono ?_; clear hnw; rintro e w3 ⟨its, A', c', rfl, hpe, hri, hm3⟩; have M3 := Aside0.mk (sep_over M.out hm3); have M4 := Aside0.mk (M3.out.alloc (.cells #[.slice A' its.length c'] 103)); obtain ⟨b0, g0⟩ := box_cell (M4.out.pull 3 (by simp)) (j := 0) rfl; clear M M3 hm3)
      have M5 := Aside0.mk (box_set (M4.out.pull 3 (by simp)) 0 (.slice A' its.length c'))
      refine bodyPost_ret (results_ct rfl _ _ (w.heap.size + 1) 103 #[.slice A' its.length c'] (0, 0) _ rfl (box_at M5.out) Tryz.underlying103 rfl (by kernel_rfl)) rfl ?_
      unfold BindsOut
      rw [if_neg (by rw [HK.out]; simp)]
      refine ⟨its, A', c', rfl, by rw [← HP.out]; exact hpe, hri, ?_⟩
      have h7 := (M5.out.tail.pull 3 (by simp)).tail
      have h8 := (h7.pull 2 (by simp)).tail
      exact h8
end Go.Proofs.YtcfocbfocemapaaGreat.BindW

namespace Go.Proofs.YtcfocbfocemapaaGreat.BecW
open Go.RowKit Go.Maps Go.Lib Go.Proofs.YtcfocbfocemapaaGreat.Sep Go.Proofs.YtcfocbfocemapaaGreat.Mem Go.Proofs.YtcfocbfocemapaaGreat.Sets Go.Proofs.YtcfocbfocemapaaGreat.PlayP Go.Proofs.YtcfocbfocemapaaGreat.BindP Go.Proofs.YtcfocbfocemapaaGreat.PStackPlays Go.Proofs.YtcfocbfocemapaaGreat.LibC Go.Proofs.YtcfocbfocemapaaGreat.DistC Go.Proofs.YtcfocbfocemapaaGreat.SubA Go.Proofs.YtcfocbfocemapaaGreat.SubB Go.Proofs.YtcfocbfocemapaaGreat.SubC Go.Proofs.YtcfocbfocemapaaGreat.SubN Go.Proofs.YtcfocbfocemapaaGreat.BindW
open Go.Proofs.YtcfocbfocemapaaGreatW.PrintWords Go.Proofs.YtcfocbfocemapaaGreatW.PrintLast Go.Proofs.YtcfocbfocemapaaGreatW.PrintMore
set_option linter.unusedVariables false
set_option linter.unusedSimpArgs false
set_option maxRecDepth 100000

theorem put_split {env : List (Int × Ex)} {x E rem want : Ex} {i : Nat} (hp : putL env (x.take (i + 1)) = putL env (x.take i) ++ E) (hw : putL env (x.take i) ++ rem = want) (h : putL env x = want) : E = rem.take E.length ∧ E.length ≤ rem.length := by
  have h1 : putL env x = putL env (x.take (i + 1)) ++ putL env (x.drop (i + 1)) := by rw [← putL_append, List.take_append_drop]
  rw [hp, List.append_assoc] at h1
  have h2 : putL env (x.take i) ++ rem = putL env (x.take i) ++ (E ++ putL env (x.drop (i + 1))) := by rw [hw, ← h, h1]
  have h3 := List.append_cancel_left h2
  rw [h3]
  constructor
  · rw [List.take_left']
    rfl
  · rw [List.length_append]
    omega
set_option maxHeartbeats 8000000 in
theorem becomes_calls {w : World} {A B D : Option Addr} {c cb cd : Nat} {env : List (Int × Ex)} {x want : Ex} (hC : Kd.C kB w A env.length env) (hs : Rising env) (hl : env.length ≤ 4194304) (hsh : ∀ b ∈ env, b.2.length ≤ 4194304)
    (hX : Kd.C kI w B x.length x) (hxl : x.length ≤ 4194304) (hW : Kd.C kI w D want.length want) (hwl : want.length ≤ 4194304) (hwc : want.length ≤ cd) (q : Bool) (hq : q = decide (putL env x = want)) :
    Calls Tryz.prog 60 #[.agg #[.slice A env.length c], .slice B x.length cb, .slice D want.length cd] w fun e w' => e = .returned (.bool q) ∧ Below w.heap.size w w' := by
  have M := Aside0.mk (box_fresh (Sep.start w) 103 #[.slice A env.length c])
  have HC := Aside0.mk hC
  have HS := Aside0.mk hs
  have HSH := Aside0.mk hsh
  have HX := Aside0.mk hX
  have HW := Aside0.mk hW
  have HQ := Aside0.mk hq
  clear hC hs hsh hX hW hq
  go_enter Tryz.func60, Tryz.ntmps60
  go_wp2_with fail
  go_loopw [2, 8, 9, 10, 13] (fun v2 v8 v9 v10 v13 wr => ∃ (i : Nat) (rem : Ex) (AR : Option Addr) (cR : Nat), i ≤ x.length ∧ v13 = .int .i64 i ∧ v2 = .slice AR rem.length cR ∧ rem.length ≤ cR ∧ rem.length ≤ 4194304 ∧ Aside0 (putL env (x.take i) ++ rem = want) ∧ Aside0 (Kd.C kI w AR rem.length rem) ∧
    Aside0 (Sep w wr [boxR w.heap.size 103 #[.slice A env.length c]])) (fun _ _ _ _ v13 _ => x.length - (intOf v13).toNat)
  case atStart => exact ⟨0, want, D, cd, by omega, rfl, rfl, hwc, hwl, ⟨by rw [List.take_zero, putL_nil]; rfl⟩, HW, M⟩
  case round =>
    clear M
    obtain ⟨i, rem, AR, cR, hi, rfl, rfl, hcR, hrl, HP, HR, M⟩ := hrel
    by_cases hlt : i < x.length
    · obtain ⟨ad, rfl, x0⟩ := int_at (Kd.C_below HX.out M.out.1) hlt
      have hp := Aside0.mk (putL_take (env := env) hlt)
      have hle := Aside0.mk (putL_le env x (i + 1))
      generalize x[i] = y at x0 hp
      have p0 := (box_cell M.out (j := 0) rfl).1
      have hcE := Aside0.mk (Kd.C_below HC.out M.out.1)
      obtain ⟨E, hE⟩ : ∃ E, E = (find env y).getD [y] := ⟨_, rfl⟩
      rw [← hE] at hp
      have HE := Aside0.mk hE
      have hEl : E.length ≤ 4194304 := by
        rw [hE]
        cases hf : find env y with
        | none => simp
        | some e => exact HSH.out _ (find_mem hf)
      clear hE
      have hof := Of_calls (c := c) M.out y hcE.out HS.out (by omega) (fun b hb => by have := HSH.out b hb; omega)
      go_upto_region 5 with (go_at_call 85; refine hof.mono ?_; clear hof; rintro e w1 ⟨L, A', c', hL, rfl, hc', hb, hm⟩; have M1 := Aside0.mk hm; have HL := Aside0.mk hL; clear M hm hL hb hcE x0 p0)
      obtain ⟨q1, hq1⟩ : ∃ q1, q1 = (find env y).isSome := ⟨_, rfl⟩
      rw [← hq1]
      have HQ1 := Aside0.mk hq1
      clear hq1
      go_upto_if 24 with fail
      go_cut [9] (fun v9 wx => ∃ (F : Option Addr) (d : Nat), v9 = .slice F E.length d ∧ E.length ≤ d ∧ Aside0 (Sep w wx [rowR 3 1 (.slice F E.length d) E.length (E.map num), boxR w.heap.size 103 #[.slice A env.length c]]))
      case first =>
        have hL := HL.out
        have hE := HE.out
        have hq := HQ1.out
        cases hf : find env y with
        | none =>
          rw [hf] at hL hE hq
          obtain rfl : L = [] := hL
          have hEv : E = [y] := hE
          have M2 := Aside0.mk (row_lits M1.out.tail 3 1 1 #[.int .i64 y] rfl (by unfold maxLen; omega))
          have HEv := Aside0.mk hEv
          obtain rfl : q1 = false := hq
          clear hE hEv hf
          go_wp2_with fail
          go_meet
          rw [HEv.out]
          exact ⟨some ⟨w1.heap.size, 0, none⟩, 1, rfl, Nat.le_refl _, ⟨M2.out⟩⟩
        | some e0 =>
          rw [hf] at hL hE hq
          obtain rfl : L = e0 := hL
          obtain rfl : E = L := hE
          obtain rfl : q1 = true := hq
          clear hf
          go_wp2_with fail
          go_meet
          exact ⟨A', c', rfl, hc', M1⟩
      case rest =>
        clear M1 hc' HL HE HQ1
        obtain ⟨F, d, rfl, hd, M⟩ := hcut
        by_cases hlen : E.length ≤ rem.length
        · obtain ⟨hEc, hEC⟩ := row_Ci M.out.row (by omega)
          have HEC := Aside0.mk hEC
          have hRw := Kd.C_below HR.out M.out.1
          have HRT := Aside0.mk (Kd.C_take hRw hlen)
          have hRD := Kd.C_drop HR.out hlen hcR
          obtain ⟨k, hk⟩ := eq_ok E (rem.take E.length) hEl
          obtain ⟨q2, hq2⟩ : ∃ q2, q2 = decide (E = rem.take E.length) := ⟨_, rfl⟩
          rw [← hq2] at hk
          have HK := Aside0.mk hk
          have HQ2 := Aside0.mk hq2
          clear hEC hRw hk hq2
          have hlt2 : (rem.take E.length).length = E.length := by rw [List.length_take]; omega
          have hcl := expr_Equal.calls k F d E AR cR (rem.take E.length) q2 wc HEC.out hEc HRT.out (by rw [hlt2]; omega) HK.out
          rw [hlt2] at hcl
          have h1 : ¬ rem.length < E.length := by omega
          have h2 : ¬ (rem.length : Int) < (E.length : Int) := by omega
          have h3 : (0 : Int) ≤ (E.length : Int) := by omega
          have h4 : (E.length : Int) ≤ (cR : Int) := by omega
          have h5 : (E.length : Int) ≤ (rem.length : Int) := by omega
          have h6 : decide (rem.length < E.length) = false := by simpa using hlen
          obtain ⟨AN, hAN⟩ : ∃ AN, AN = (if cR = E.length then AR else AR.map (·.add (E.length * kI.sz))) := ⟨_, rfl⟩
          rw [← hAN] at hRD
          have HRD := Aside0.mk hRD
          clear hRD HEC HRT HK
          cases q2 with
          | false =>
            go_wp2_with (go_at_call 54; refine hcl.mono ?_; clear hcl; rintro e w2 ⟨rfl, hd2⟩; have M2 := Aside0.mk (M.out.drawn hd2); clear M hd2)
            go_ret
            have hqf : q = false := by
              rw [HQ.out, decide_eq_false_iff_not]
              intro he
              have h8 := (put_split hp.out HP.out he).1
              have h9 := HQ2.out
              rw [decide_eq_true h8] at h9
              cases h9
            rw [hqf]
            exact ⟨rfl, M2.out.1⟩
          | true =>
            go_wp2_with (go_at_call 54; refine hcl.mono ?_; clear hcl; rintro e w2 ⟨rfl, hd2⟩; have M2 := Aside0.mk (M.out.drawn hd2); clear M hd2)
            have hdl : (rem.drop E.length).length = rem.length - E.length := List.length_drop ..
            go_roundw
            case rel =>
              refine ⟨i + 1, rem.drop E.length, AN, cR - E.length, by omega, by go_num, ?_, by omega, by omega, ⟨?_⟩, HRD, ⟨M2.out.tail⟩⟩
              · rw [hdl, hAN, show kI.sz = 1 from rfl, Nat.mul_one]
              · rw [hp.out, List.append_assoc]
                have h8 := of_decide_eq_true HQ2.out.symm
                have h9 : E ++ rem.drop E.length = rem := by
                  have := List.take_append_drop E.length rem
                  rw [← h8] at this
                  exact this
                rw [h9, HP.out]
            case measure => simp [intOf]; omega
        · have h1 : rem.length < E.length := by omega
          have h2 : (rem.length : Int) < (E.length : Int) := by omega
          have h6 : decide (rem.length < E.length) = true := by simpa using h1
          go_wp2_with fail
          go_ret
          have hqf : q = false := by
            rw [HQ.out, decide_eq_false_iff_not]
            intro he
            have h8 := (put_split hp.out HP.out he).2
            omega
          rw [hqf]
          exact ⟨rfl, M.out.1⟩
    · have hie : i = x.length := by omega
      subst hie
      rw [List.take_length] at HP
      cases rem with
      | nil =>
        go_wp2_with fail
        go_ret
        have hqt : q = true := by
          rw [HQ.out, decide_eq_true_iff, ← HP.out, List.append_nil]
        rw [hqt]
        exact ⟨rfl, M.out.1⟩
      | cons r0 rt =>
        have h1 : ¬ (rt.length : Int) + 1 = 0 := by omega
        go_wp2_with fail
        go_ret
        have hqt : q = false := by
          rw [HQ.out, decide_eq_false_iff_not]
          intro he
          rw [← HP.out] at he
          have h3 := congrArg List.length he
          simp at h3
        rw [hqt]
        exact ⟨rfl, M.out.1⟩
end Go.Proofs.YtcfocbfocemapaaGreat.BecW

namespace Go.Proofs.YtcfocbfocemapaaGreat.ApplyW
open Go.RowKit Go.Maps Go.Lib Go.Proofs.YtcfocbfocemapaaGreat.Sep Go.Proofs.YtcfocbfocemapaaGreat.Mem Go.Proofs.YtcfocbfocemapaaGreat.Sets Go.Proofs.YtcfocbfocemapaaGreat.PlayP Go.Proofs.YtcfocbfocemapaaGreat.BindP Go.Proofs.YtcfocbfocemapaaGreat.PStackPlays Go.Proofs.YtcfocbfocemapaaGreat.LibC Go.Proofs.YtcfocbfocemapaaGreat.DistB Go.Proofs.YtcfocbfocemapaaGreat.DistC Go.Proofs.YtcfocbfocemapaaGreat.SubA Go.Proofs.YtcfocbfocemapaaGreat.SubB Go.Proofs.YtcfocbfocemapaaGreat.SubC Go.Proofs.YtcfocbfocemapaaGreat.SubN Go.Proofs.YtcfocbfocemapaaGreat.NewS Go.Proofs.YtcfocbfocemapaaGreat.Brk Go.Proofs.YtcfocbfocemapaaGreat.Breach Go.Proofs.YtcfocbfocemapaaGreat.IterA Go.Proofs.YtcfocbfocemapaaGreat.BindW Go.Proofs.YtcfocbfocemapaaGreat.BecW Go.Proofs.YtcfocbfocemapaaGreat.StkA Go.Proofs.YtcfocbfocemapaaGreat.StkB
open Go.Proofs.YtcfocbfocemapaaGreatW.PrintWords Go.Proofs.YtcfocbfocemapaaGreatW.PrintLast Go.Proofs.YtcfocbfocemapaaGreatW.PrintMore
set_option linter.unusedVariables false
set_option linter.unusedSimpArgs false
set_option maxRecDepth 100000

/-- The entries, read. -/
theorem ents_C {W w : World} {A : Option Addr} {n c : Nat} {items : List BI} {rs : List Res} (M : Sep W w (rowR 24 1 (.slice A n c) n (items.map cellE) :: exR items :: rs)) (hn : n = items.length) (hl : n ≤ 4194304) (hs : ∀ q ∈ items, q.ex.length ≤ 4194304) : Kd.C kE w A (items.map BI.ex).length (items.map BI.ex) := by
  obtain ⟨f, hf, -⟩ := M.swap.head
  have hrow := M.row
  rw [List.length_map]
  refine ⟨by simp, by omega, fun hp => ?_⟩
  obtain ⟨b, cap, e, _, hcell, _⟩ := row_some hrow (by omega)
  simp only [Value.slice.injEq, true_and] at e
  refine ⟨⟨b, 0, none⟩, e.1, fun j p hp => ?_⟩
  rw [List.getElem?_map] at hp
  obtain ⟨q, hq, rfl⟩ := Option.map_eq_some_iff.1 hp
  have hqm := List.mem_of_getElem? hq
  obtain ⟨h1, h2⟩ := ex_reads (hf q hqm) (by have := hs q hqm; omega)
  refine ⟨[.slice q.A q.ex.length q.c], rfl, ⟨q.A, q.c, rfl, h1, h2⟩, fun i u hu => ?_⟩
  have hi : i = 0 := by
    have := (List.getElem?_eq_some_iff.1 hu).1
    simpa using this
  subst hi
  simp at hu
  subst hu
  have e3 : (⟨b, 0, none⟩ : Addr).add (j * kE.sz + 0) = ⟨b, j, none⟩ := by rw [add0]; simp [show kE.sz = 1 from rfl]
  rw [e3]
  exact hcell j _ (by rw [List.getElem?_map, hq]; rfl)
theorem pairs_get (ps : List S50) : ∀ {j : Nat} (hj : j < ps.length), (pairCells (ps.map prP))[j * 2]? = some (.int .i64 ps[j].f0) ∧ (pairCells (ps.map prP))[j * 2 + 1]? = some (.int .i64 ps[j].f1) := by
  induction ps with
  | nil => intro j hj; simp at hj
  | cons a l ih =>
    intro j hj
    have e : pairCells ((a :: l).map prP) = .int .i64 a.f0 :: .int .i64 a.f1 :: pairCells (l.map prP) := rfl
    rw [e]
    cases j with
    | zero => exact ⟨rfl, rfl⟩
    | succ j =>
      obtain ⟨h1, h2⟩ := ih (j := j) (by simpa using hj)
      rw [show (j + 1) * 2 = j * 2 + 1 + 1 by omega]
      exact ⟨by simpa using h1, by simpa [Nat.add_assoc] using h2⟩
theorem row_CP {w : World} {A : Option Addr} {c : Nat} {ps : List S50} (h : w.ownsRow 0 50 2 (.slice A ps.length c) ps.length (pairCells (ps.map prP))) (hl : ps.length ≤ 9223372036854775807) : Kd.C k50 w A ps.length ps := by
  refine ⟨rfl, by omega, fun hn => ?_⟩
  obtain ⟨b, cap, e, _, hcell, _⟩ := row_some h hn
  simp only [Value.slice.injEq, true_and] at e
  refine ⟨⟨b, 0, none⟩, e.1, fun j p hp => ?_⟩
  have hj := (List.getElem?_eq_some_iff.1 hp).1
  have hq2 : ps[j] = p := (List.getElem?_eq_some_iff.1 hp).2
  obtain ⟨n1, n2⟩ := pairs_get ps hj
  rw [hq2] at n1 n2
  refine ⟨[.int .i64 p.f0, .int .i64 p.f1], rfl, ⟨[.int .i64 p.f0], [.int .i64 p.f1], rfl, rfl, rfl⟩, fun i u hu => ?_⟩
  have e3 : ∀ i, (⟨b, 0, none⟩ : Addr).add (j * k50.sz + i) = ⟨b, j * 2 + i, none⟩ := fun i => add0 b (j * 2 + i)
  rw [e3]
  match i, hu with
  | 0, hu => simp at hu; subst hu; exact hcell _ _ n1
  | 1, hu => simp at hu; subst hu; exact hcell _ _ n2
  | i + 2, hu => simp at hu
theorem env_all {Pr : Int → Prop} (hs : List Hy) : ∀ es : List Ex, (∀ e ∈ es, ∀ x ∈ e, Pr x) → ∀ b ∈ envOf hs es, ∀ x ∈ b.2, Pr x := by
  induction hs with
  | nil => intro es _ b hb; cases es <;> cases hb
  | cons h hs ih =>
    intro es he b hb
    cases es with
    | nil => cases hb
    | cons e es =>
      have hi := ih es (fun x hx => he x (List.mem_cons_of_mem _ hx))
      unfold envOf at hb
      split at hb
      · rcases List.mem_cons.1 hb with rfl | hb
        · intro x hx
          exact he e (List.mem_cons_self ..) x (List.mem_of_mem_tail hx)
        · exact hi b hb
      · exact hi b hb
theorem binds_no {w w' : World} {hs : List Hy} {es : List Ex} {e : Ending} (h : BindsOut w hs es e w') (hk : kindB hs es = false) : e = .returned (.tuple #[.agg #[.slice none 0 0], .int .i64 114]) ∧ Below w.heap.size w w' := by
  unfold BindsOut at h
  rw [if_pos hk] at h
  exact h
theorem binds_yes {w w' : World} {hs : List Hy} {es : List Ex} {e : Ending} (h : BindsOut w hs es e w') (hk : kindB hs es = true) : NewOut w (envOf hs es) e w' := by
  unfold BindsOut at h
  rw [if_neg (by rw [hk]; simp)] at h
  exact h
/-- The machine behind an Apply. -/
def Mac.applied (m : Mac) (k : Nat) (q : BI) (A : Option Addr) (c : Nat) : Mac := { m with eA := A, ec := c, items := m.items.take k ++ [q], peak := max m.peak (k + 1), count := m.count + 1 }
def ApplyOut (W : World) (p : Nat) (m : Mac) (r : Except Int Ex) (k : Nat) (rs : List Res) (e : Ending) (w' : World) : Prop :=
  match r with
  | .error n => e = .returned (.int .i64 n) ∧ Sep W w' (macR p m :: rs)
  | .ok L => e = .returned (.int .i64 0) ∧ ∃ A c q, q.ex = L ∧ Sep W w' (macR p (Mac.applied m k q A c) :: rs)
structure MacOK (m : Mac) : Prop where
  few : m.items.length ≤ 40
  pairs : m.ps.length ≤ 4194304
  pok : ∀ p ∈ m.ps, PairOK (prP p)
  short : ∀ q ∈ m.items, q.ex.length ≤ 1048576
  iok : ∀ q ∈ m.items, ∀ x ∈ q.ex, IntOK x
  cnt : m.count ≤ 4398046511104
set_option maxHeartbeats 3000000 in
theorem apply_calls {W w : World} {rs : List Res} {p : Nat} {m : Mac} (h : Sep W w (macR p m :: rs)) (hm : MacOK m) {f : Fr} (hf : FrameOK f) {A P G : Option Addr} {c d g : Nat}
    (hH : Kd.C k93 w A f.hyps.length f.hyps) (hP : Kd.C k50 w P f.pairs.length f.pairs) (hG : Kd.C kI w G f.goal.length f.goal) (hpo : ∀ q ∈ f.pairs, PairOK (prP q)) (r : Except Int Ex) (hr : r = applyE VB m.ps f m.ents) :
    Calls Tryz.prog 35 #[.pointer (some ⟨p, 0, none⟩), .agg #[.slice A f.hyps.length c, .slice P f.pairs.length d, .slice G f.goal.length g]] w (ApplyOut W p m r (m.items.length - f.hyps.length) rs) := by
  have HM := Aside0.mk h
  have HF := Aside0.mk hf
  have HO := Aside0.mk hm
  have HH := Aside0.mk hH
  have HP := Aside0.mk hP
  have HG := Aside0.mk hG
  have HPO := Aside0.mk hpo
  have HR := Aside0.mk hr
  have MB := Aside0.mk (box_fresh (Sep.start w) 68 #[.slice A f.hyps.length c, .slice P f.pairs.length d, .slice G f.goal.length g])
  have hfew := hm.few
  have hfew2 := hf.few
  have hel : m.ents.length = m.items.length := by unfold Mac.ents; rw [List.length_map]
  have hcw := mac_b (mac_open h)
  have HC := Aside0.mk (fun w' (hb : Below w.heap.size w w') => (⟨(hb.cell (World.block_lt_of_cell? _ _ hcw.1)).trans hcw.1, (hb.cell (World.block_lt_of_cell? _ _ hcw.2.2.1)).trans hcw.2.2.1, (hb.cell (World.block_lt_of_cell? _ _ hcw.2.2.2.1)).trans hcw.2.2.2.1⟩ : w'.cell? ⟨p, 0, none⟩ = some (.slice m.pA m.ps.length m.pc) ∧ w'.cell? ⟨p, 2, none⟩ = some (.func (.func 8) #[] #[]) ∧ w'.cell? ⟨p, 3, none⟩ = some (.slice m.eA m.items.length m.ec)))
  clear h hf hm hH hP hG hpo hr hcw
  by_cases hlt : m.items.length < f.hyps.length
  · have hwr : IntKind.i64.wrap ((m.items.length : Int) - (f.hyps.length : Int)) = (m.items.length : Int) - (f.hyps.length : Int) := by rw [i64_w]; unfold Go.RowKit.wrap64; omega
    have h1 : (m.items.length : Int) - (f.hyps.length : Int) < 0 := by omega
    have h1' : (m.items.length : Int) < (f.hyps.length : Int) := by omega
    have p3 := (HC.out _ MB.out.1).2.2
    have q0 := (box_cell MB.out (j := 0) rfl).1
    go_enter Tryz.func35, Tryz.ntmps35
    go_upto_region 1 with fail
    go_quiet (fail)
    go_wp2_with fail
    go_ret
    have hre : r = .error 113 := by
      rw [HR.out]
      unfold applyE
      rw [if_pos (by rw [hel]; exact hlt)]
    rw [hre]
    exact ⟨rfl, (HM.out.below MB.out.1).drawn ⟨nq, rfl⟩⟩
  · obtain ⟨k, hk⟩ : ∃ k, m.items.length = k + f.hyps.length := ⟨m.items.length - f.hyps.length, by omega⟩
    have hsub : m.items.length - f.hyps.length = k := by omega
    rw [hsub]
    have hdl : m.ents.length - f.hyps.length = k := by omega
    obtain ⟨es, hes⟩ : ∃ es, es = m.ents.drop k := ⟨_, rfl⟩
    have hesl : es.length = f.hyps.length := by rw [hes, List.length_drop]; omega
    have hreq : r = (if kindB f.hyps es = false then .error 114 else if essB (envOf f.hyps es) f.hyps es = false then .error 115 else if brokenB VB m.ps (envOf f.hyps es) f.pairs = true then .error 116 else
      if 200 < (putL (envOf f.hyps es) f.goal).length then .error 31 else if 40 ≤ k then .error 117 else .ok (putL (envOf f.hyps es) f.goal)) := by
      rw [HR.out]
      unfold applyE
      rw [if_neg (by rw [hel]; exact hlt), hdl, ← hes]
    have HREQ := Aside0.mk hreq
    have HES := Aside0.mk hes
    have hE0 := ents_C (mac_ents (mac_open HM.out)) rfl (by omega) (fun q hq => by have := HO.out.short q hq; omega)
    obtain ⟨_, _, e5, h5⟩ := row_slice (mac_ents (mac_open HM.out)).row
    simp only [Value.slice.injEq, true_and] at e5
    obtain ⟨-, rfl⟩ := e5
    have hEd := Kd.C_drop (c := m.items.length) (m := k) hE0 (by rw [List.length_map]; omega) (by rw [List.length_map]; omega)
    obtain ⟨AT, hAT⟩ : ∃ AT, AT = (if m.items.length = k then m.eA else m.eA.map (·.add (k * kE.sz))) := ⟨_, rfl⟩
    rw [← hAT] at hEd
    have hEq : m.items.map BI.ex = m.ents := rfl
    rw [hEq, ← hes] at hEd
    rw [show kE.sz = 1 from rfl, Nat.mul_one] at hAT
    have HE := Aside0.mk hEd
    have hcap := h5
    clear hE0 hEd hEq hreq hes
    have hn : m.items.length - k = es.length := by omega
    have hsh : ∀ e ∈ es, e.length ≤ 1048576 := fun e he => by
      rw [HES.out] at he
      obtain ⟨q, hq, rfl⟩ := List.mem_map.1 (List.mem_of_mem_drop he)
      exact HO.out.short q hq
    have hio : ∀ e ∈ es, ∀ x ∈ e, IntOK x := fun e he => by
      rw [HES.out] at he
      obtain ⟨q, hq, rfl⟩ := List.mem_map.1 (List.mem_of_mem_drop he)
      exact HO.out.iok q hq
    have HSH := Aside0.mk hsh
    have HIO := Aside0.mk hio
    clear hsh hio
    have hwr : IntKind.i64.wrap ((m.items.length : Int) - (f.hyps.length : Int)) = (k : Int) := by rw [i64_w]; unfold Go.RowKit.wrap64; omega
    have h1 : ¬ (k : Int) < 0 := by omega
    have h2 : (0 : Int) ≤ (k : Int) := by omega
    have h3 : (k : Int) ≤ (m.items.length : Int) := by omega
    have h4 : (m.items.length : Int) ≤ (m.ec : Int) := by omega
    have h6 : k ≤ m.items.length := by omega
    have p3 := (HC.out _ MB.out.1).2.2
    have q0 := (box_cell MB.out (j := 0) rfl).1
    have hAT2 := hAT.symm
    have HK := Aside0.mk hk
    have HESL := Aside0.mk hesl
    clear hAT hk hesl hdl hsub hel hlt
    go_enter Tryz.func35, Tryz.ntmps35
    go_upto_region 1 with fail
    go_quiet (fail)
    have MB1 := Aside0.mk (MB.out.drawn (w' := (w.alloc (.cells #[.slice A f.hyps.length c, .slice P f.pairs.length d, .slice G f.goal.length g] 68)).drewN nq) ⟨nq, rfl⟩)
    have p3' := (HC.out _ MB1.out.1).2.2
    clear p3 q0 MB
    generalize (w.alloc (.cells #[.slice A f.hyps.length c, .slice P f.pairs.length d, .slice G f.goal.length g] 68)).drewN nq = w1 at MB1 p3' ⊢
    go_upto_region 4 with fail
    go_quiet (fail)
    have MB2 := Aside0.mk (MB1.out.drawn (w' := w1.drewN nq) ⟨nq, rfl⟩)
    clear MB1 p3' hAT2 h3 h4 h5 hcap hwr
    generalize w1.drewN nq = w2 at MB2 ⊢
    have hbi := binds_calls (w := w2) (c := c) (d := es.length) (.slice P f.pairs.length d) (.slice G f.goal.length g) (Kd.C_below HH.out MB2.out.1) (Kd.C_below HE.out MB2.out.1) HESL.out HF.out.few HF.out.nodup HF.out.typed (fun h hh => by have := HF.out.short h hh; omega) (fun e he => by have := HSH.out e he; omega)
    have q0 := (box_cell MB2.out (j := 0) rfl).1
    have q1 := (box_cell MB2.out (j := 1) rfl).1
    have q2 := (box_cell MB2.out (j := 2) rfl).1
    cases hkb : kindB f.hyps es with
    | false =>
      have hbi := hbi.mono (fun e w' h => binds_no h hkb)
      have hre : r = .error 114 := by rw [HREQ.out, if_pos hkb]
      go_wp2_with (go_at_call 59; refine hbi.mono ?_; clear hbi; rintro e w3 ⟨rfl, hb⟩; have MB3 := Aside0.mk ((MB2.out.below hb).alloc (.cells #[.slice none 0 0] 103)); clear MB2 hb)
      go_ret
      rw [hre]
      exact ⟨rfl, HM.out.below MB3.out.1⟩
    | true =>
      have hbi := hbi.mono (fun e w' h => binds_yes h hkb)
      have HKB := Aside0.mk hkb
      clear hkb
      go_upto_region 6 with (go_at_call 59; refine hbi.mono ?_; clear hbi; rintro e w3 ⟨its, A', c', rfl, hpe, hri, hm3⟩; have MB3 := Aside0.mk (box_fresh (sep_over MB2.out hm3) 103 #[.slice A' its.length c']); have HPE := Aside0.mk hpe; have HRI := Aside0.mk hri; clear MB2 hm3 hpe hri q0 q1 q2)
      have hitl : its.length ≤ 2097152 := by
        have h7 := HPE.out.length_eq
        rw [List.length_map] at h7
        have h8 := env_len f.hyps es
        omega
      have hits : ∀ b ∈ envOf f.hyps es, b.2.length ≤ 1048576 := env_short f.hyps es HSH.out
      have HIS := Aside0.mk (its_short HPE.out hits)
      have HFD := Aside0.mk (fun x => find_perm HPE.out (rising_nodup HRI.out) x)
      clear hits h1
      generalize w3.alloc (.cells #[.slice A' its.length c'] 103) = w4 at MB3 ⊢
      generalize w3.heap.size = b7 at MB3 ⊢
      have q0 := (box_cell (MB3.out.pull 3 (by simp)) (j := 0) rfl).1
      go_wp2_with fail
      clear q0
      go_loopw [9, 10, 53] (fun v9 v10 v53 wr => ∃ (i : Nat), i ≤ f.hyps.length ∧ v53 = .int .i64 i ∧ Aside0 (essB (envOf f.hyps es) (f.hyps.take i) (es.take i) = true) ∧
        Aside0 (Sep w wr [boxR b7 103 #[.slice A' its.length c'], rowR 101 2 (.slice A' its.length c') its.length (cellsB (its.map BI.bm)), exR its, boxR w.heap.size 68 #[.slice A f.hyps.length c, .slice P f.pairs.length d, .slice G f.goal.length g]])) (fun _ _ v53 _ => f.hyps.length - (intOf v53).toNat)
      case atStart => exact ⟨0, by omega, rfl, ⟨by rw [List.take_zero]; rfl⟩, MB3⟩
      case round =>
        clear MB3
        obtain ⟨i, hi, rfl, HS, M⟩ := hrel
        by_cases hlt : i < f.hyps.length
        · obtain ⟨ad, A3, c3, hA, y0, y1, y2, y3, hc3, hK3⟩ := hyp_at (Kd.C_below HH.out M.out.1) hlt
          have hlte : i < es.length := by rw [HESL.out]; exact hlt
          have HME := Aside0.mk (ess_more (envOf f.hyps es) f.hyps es i hlt hlte)
          have HAT := Aside0.mk (fun (hq : essB (envOf f.hyps es) f.hyps es = true) => ess_at (envOf f.hyps es) f.hyps es hq i hlt hlte)
          obtain ⟨ae, A4, c4, hE4, zw, hc4, hK4⟩ := lst_at HE.out hlte
          have hh3 := HF.out.short _ (List.getElem_mem hlt)
          have hel := HSH.out _ (List.getElem_mem hlte)
          obtain ⟨h, hh⟩ : ∃ h, h = f.hyps[i] := ⟨_, rfl⟩
          obtain ⟨e, he⟩ : ∃ e, e = es[i] := ⟨_, rfl⟩
          rw [← hh] at y0 y1 y2 y3 hc3 hK3 hh3
          rw [← he] at zw hc4 hK4 hel
          have HZ := Aside0.mk (fun w' (hb : Below w.heap.size w w') => (hb.cell (World.block_lt_of_cell? _ _ zw)).trans zw)
          have HK4 := Aside0.mk hK4
          have HK3 := Aside0.mk hK3
          clear zw hK4 hK3
          rw [← hh, ← he] at HME
          rw [← hh, ← he] at HAT
          clear hh he hlte
          obtain ⟨f0, f1, x, tc⟩ := h
          simp only at y0 y1 y2 y3 hc3 hh3
          simp only at HK3
          simp only at HME
          simp only at HAT
          subst hA
          subst hE4
          have hm0 : (its.map BI.pr).length = its.length := List.length_map ..
          cases f1 with
          | true =>
            have HS1 := Aside0.mk (show essB (envOf f.hyps es) (f.hyps.take (i + 1)) (es.take (i + 1)) = true by rw [HME.out, HS.out]; rfl)
            go_upto_region 11 with fail
            have MD := Aside0.mk (box_fresh M.out 93 #[.string f0, .bool true, .int .i64 x, .slice A3 tc.length c3])
            obtain ⟨x1, -⟩ := box_cell MD.out (j := 1) rfl
            clear HS HME HAT HZ HK4 HK3 y0 y1 y2 y3 M
            generalize wr.alloc (.cells #[.string f0, .bool true, .int .i64 x, .slice A3 tc.length c3] 93) = w5 at MD x1 ⊢
            go_quiet (fail)
            have M2 := Aside0.mk (MD.out.tail.drawn (w' := w5.drewN nq) ⟨nq, rfl⟩)
            clear MD x1
            go_wp2_with fail
            go_roundw
            case rel => exact ⟨i + 1, by omega, by go_num, HS1, M2⟩
            case measure => simp [intOf]; omega
          | false =>
            obtain ⟨q, hq⟩ : ∃ q, q = decide (putL (its.map BI.pr) tc = e) := ⟨_, rfl⟩
            have HQ := Aside0.mk hq
            clear hq
            go_upto_region 11 with fail
            have MD := Aside0.mk ((box_fresh M.out 93 #[.string f0, .bool false, .int .i64 x, .slice A3 tc.length c3]).drawn (w' := (wr.alloc (.cells #[.string f0, .bool false, .int .i64 x, .slice A3 tc.length c3] 93)).drew) ⟨1, rfl⟩)
            have hK3 := Aside0.mk (Kd.C_below HK3.out (below_drew ((Below.refl wr.heap.size wr).alloc (Nat.le_refl _) (.cells #[.string f0, .bool false, .int .i64 x, .slice A3 tc.length c3] 93))))
            have hK4 := Aside0.mk (Kd.C_below HK4.out MD.out.1)
            have hIC := Aside0.mk (its_C ((MD.out.pull 3 (by simp)).pull 3 (by simp)) (by omega) (fun q hq => by have := HIS.out q hq; omega))
            have hbe := becomes_calls (c := c') (cb := c3) (cd := c4) hIC.out HRI.out (by omega) (fun b hb => by obtain ⟨q5, hq5, rfl⟩ := List.mem_map.1 hb; have := HIS.out q5 hq5; show q5.ex.length ≤ _; omega) hK3.out (by omega) hK4.out (by omega) hc4 q HQ.out
            rw [hm0] at hbe
            have HBE := Aside0.mk hbe
            have hi1 : (i : Int) < (es.length : Int) := by rw [HESL.out]; omega
            clear hbe hIC hK3 hK4 HK3 HK4 y0 y1 y2 y3
            cases q with
            | false =>
              go_region_held3 (fun w' => w'.cell? ⟨b7, 0, none⟩ = some (.slice A' its.length c') ∧ w'.cell? ⟨wr.heap.size, 1, none⟩ = some (.bool false) ∧ w'.cell? ⟨wr.heap.size, 3, none⟩ = some (.slice A3 tc.length c3) ∧ w'.cell? (ae.add i) = some (.slice A4 e.length c4))
                (first
                  | exact ⟨(box_cell (MD.out.pull 1 (by simp)) (j := 0) rfl).1, (box_cell MD.out (j := 1) rfl).1, (box_cell MD.out (j := 3) rfl).1, HZ.out _ MD.out.1⟩
                  | exact ⟨(box_cell (M5.out.pull 1 (by simp)) (j := 0) rfl).1, (box_cell M5.out (j := 1) rfl).1, (box_cell M5.out (j := 3) rfl).1, HZ.out _ M5.out.1⟩)
                (first
                  | (go_at_call 60; refine HBE.out.mono ?_; rintro e5 w5 ⟨rfl, hb5⟩; have M5 := Aside0.mk (MD.out.below hb5); clear hb5)
                  | fail)
              have hre : r = .error 115 := by
                have hef : essB (envOf f.hyps es) f.hyps es = false := by
                  cases hz : essB (envOf f.hyps es) f.hyps es with
                  | false => rfl
                  | true =>
                    have h8 := HAT.out hz
                    rw [Bool.false_or, ← putL_congr HFD.out, ← HQ.out] at h8
                    cases h8
                rw [HREQ.out, if_neg (by rw [HKB.out]; simp), if_pos hef]
              have MF := Aside0.mk (HM.out.below M5.out.1)
              clear M5 MD HBE M
              go_wp2_with fail
              go_ret
              rw [hre]
              exact ⟨rfl, MF.out⟩
            | true =>
              go_region_held3 (fun w' => w'.cell? ⟨b7, 0, none⟩ = some (.slice A' its.length c') ∧ w'.cell? ⟨wr.heap.size, 1, none⟩ = some (.bool false) ∧ w'.cell? ⟨wr.heap.size, 3, none⟩ = some (.slice A3 tc.length c3) ∧ w'.cell? (ae.add i) = some (.slice A4 e.length c4))
                (first
                  | exact ⟨(box_cell (MD.out.pull 1 (by simp)) (j := 0) rfl).1, (box_cell MD.out (j := 1) rfl).1, (box_cell MD.out (j := 3) rfl).1, HZ.out _ MD.out.1⟩
                  | exact ⟨(box_cell (M5.out.pull 1 (by simp)) (j := 0) rfl).1, (box_cell M5.out (j := 1) rfl).1, (box_cell M5.out (j := 3) rfl).1, HZ.out _ M5.out.1⟩)
                (first
                  | (go_at_call 60; refine HBE.out.mono ?_; rintro e5 w5 ⟨rfl, hb5⟩; have M5 := Aside0.mk (MD.out.below hb5); clear hb5)
                  | fail)
              have HS1 := Aside0.mk (show essB (envOf f.hyps es) (f.hyps.take (i + 1)) (es.take (i + 1)) = true by rw [HME.out, HS.out, ← putL_congr HFD.out, ← HQ.out]; rfl)
              have M6 := Aside0.mk M5.out.tail
              clear M5 MD HBE M HS HME HAT HQ
              go_wp2_with fail
              go_roundw
              case rel =>
                exact ⟨i + 1, by omega, by go_num, HS1, M6⟩
              case measure => simp [intOf]; omega
        · have hie : i = f.hyps.length := by omega
          subst hie
          rw [List.take_length, List.take_of_length_le (by rw [HESL.out]; omega)] at HS
          have hm0 : (its.map BI.pr).length = its.length := List.length_map ..
          have hHC := row_CP (Sep.row (rs := boxR p 77 m.cells :: rowR 24 1 (.slice m.eA m.items.length m.ec) m.items.length (m.items.map cellE) :: exR m.items :: rowR 3 1 (.slice m.gA m.goal.length m.gc) m.goal.length (m.goal.map num) :: rs) ((mac_open HM.out).pull 3 (by simp [Mac.rs]))) (by have := HO.out.pairs; omega)
          obtain ⟨q, hq⟩ : ∃ q, q = brokenB VB m.ps (its.map BI.pr) f.pairs := ⟨_, rfl⟩
          have hio' : ∀ b ∈ its.map BI.pr, ∀ x ∈ b.2, IntOK x := fun b hb => env_all f.hyps es HIO.out b (HPE.out.mem_iff.1 hb)
          have HBR := Aside0.mk (fun w' (MD : Sep w w' [boxR b7 103 #[.slice A' its.length c'], rowR 101 2 (.slice A' its.length c') its.length (cellsB (its.map BI.bm)), exR its, boxR w.heap.size 68 #[.slice A f.hyps.length c, .slice P f.pairs.length d, .slice G f.goal.length g]]) => by
            have hIC := its_C ((MD.pull 2 (by simp)).pull 2 (by simp)) (by omega) (fun q hq => by have := HIS.out q hq; omega)
            have hbr := breach_calls (d := d) (c := c') (k := m.pc) hIC HRI.out (by omega) (fun b hb => by obtain ⟨q5, hq5, rfl⟩ := List.mem_map.1 hb; exact HIS.out q5 hq5) (fun b hb x hx => hio' b hb x hx) (Kd.C_below HP.out MD.1) (by have := HF.out.fewp; omega) HPO.out (Kd.C_below hHC MD.1) HO.out.pairs HO.out.pok q hq
            rw [hm0] at hbr
            exact hbr)
          have HQ := Aside0.mk hq
          clear hq hHC hio'
          go_upto_region 14 with fail
          go_cut [11, 12] (fun v11 v12 wx => v12 = .bool q ∧ Aside0 (Sep w wx [boxR b7 103 #[.slice A' its.length c'], rowR 101 2 (.slice A' its.length c') its.length (cellsB (its.map BI.bm)), exR its, boxR w.heap.size 68 #[.slice A f.hyps.length c, .slice P f.pairs.length d, .slice G f.goal.length g]]))
          case first =>
            have MD := Aside0.mk (M.out.drawn (w' := wr.drew) ⟨1, rfl⟩)
            have hS := (fun w' (MD : Sep w w' [boxR b7 103 #[.slice A' its.length c'], rowR 101 2 (.slice A' its.length c') its.length (cellsB (its.map BI.bm)), exR its, boxR w.heap.size 68 #[.slice A f.hyps.length c, .slice P f.pairs.length d, .slice G f.goal.length g]]) =>
              (⟨(box_cell (MD.pull 3 (by simp)) (j := 1) rfl).1, (box_cell MD (j := 0) rfl).1, (HC.out _ MD.1).2.1, (HC.out _ MD.1).1⟩ : w'.cell? ⟨w.heap.size, 1, none⟩ = some (.slice P f.pairs.length d) ∧ w'.cell? ⟨b7, 0, none⟩ = some (.slice A' its.length c') ∧ w'.cell? ⟨p, 2, none⟩ = some (.func (.func 8) #[] #[]) ∧ w'.cell? ⟨p, 0, none⟩ = some (.slice m.pA m.ps.length m.pc)))
            have HSS := Aside0.mk hS
            clear hS M HM HH HP HG HPO HR HF HO HREQ HES HE HSH HIO HK HESL HKB HIS HFD HPE HRI HS HQ
            go_region_held3 (fun w' => w'.cell? ⟨w.heap.size, 1, none⟩ = some (.slice P f.pairs.length d) ∧ w'.cell? ⟨b7, 0, none⟩ = some (.slice A' its.length c') ∧ w'.cell? ⟨p, 2, none⟩ = some (.func (.func 8) #[] #[]) ∧ w'.cell? ⟨p, 0, none⟩ = some (.slice m.pA m.ps.length m.pc))
              (first
                | exact HSS.out _ MD.out
                | exact HSS.out _ (MD.out.alloc _)
                | exact HSS.out _ M5.out
                | exact HSS.out _ (M5.out.alloc _)
                | exact HSS.out _ (box_set (box_set M7.out 0 _) 1 _).tail)
              (first
                | (go_at_call 58; refine (HBR.out _ MD.out).mono ?_; rintro e5 w5 ⟨ba, bb, rfl, hb5⟩; have M5 := Aside0.mk (MD.out.below hb5); clear hb5)
                | (go_at_call 58; refine (HBR.out _ (MD.out.alloc _)).mono ?_; rintro e5 w5 ⟨ba, bb, rfl, hb5⟩; have M7 := Aside0.mk ((box_fresh MD.out 50 #[.int .i64 0, .int .i64 0]).below hb5); have M5 := Aside0.mk M7.out.tail; have d0 : w5.cell? ⟨wr.heap.size, 0, none⟩ = some (.int .i64 0) := (box_cell M7.out (j := 0) rfl).1; have d1 : w5.cell? ⟨wr.heap.size, 1, none⟩ = some (.int .i64 0) := (box_cell M7.out (j := 1) rfl).1; have g0 : w5.frozen? ⟨wr.heap.size, 0, none⟩ = false := (box_cell M7.out (j := 0) rfl).2; have g1 : w5.frozen? ⟨wr.heap.size, 1, none⟩ = false := (box_cell M7.out (j := 1) rfl).2; clear hb5)
                | fail)
            all_goals go_wp2_with fail
            all_goals go_meet
            all_goals (first
              | exact ⟨rfl, ⟨M5.out.alloc _⟩⟩
              | exact ⟨rfl, ⟨(box_set (box_set M7.out 0 _) 1 _).tail⟩⟩)
          case rest =>
            clear M HBR
            obtain ⟨rfl, M⟩ := hcut
            have HB2 := Aside0.mk (show q = brokenB VB m.ps (envOf f.hyps es) f.pairs by rw [HQ.out, broken_congr HFD.out])
            cases q with
            | true =>
              have hre : r = .error 116 := by rw [HREQ.out, if_neg (by rw [HKB.out]; simp), if_neg (by rw [HS.out]; simp), if_pos HB2.out.symm]
              go_wp2_with fail
              go_ret
              rw [hre]
              exact ⟨rfl, HM.out.below M.out.1⟩
            | false =>
              have hIC := Aside0.mk (its_C ((M.out.pull 2 (by simp)).pull 2 (by simp)) (by omega) (fun q hq => by have := HIS.out q hq; omega))
              have hrb := Aside0.mk (show r = (if 200 < (putL (envOf f.hyps es) f.goal).length then .error 31 else if 40 ≤ k then .error 117 else .ok (putL (envOf f.hyps es) f.goal)) by rw [HREQ.out, if_neg (by rw [HKB.out]; simp), if_neg (by rw [HS.out]; simp), if_neg (by rw [← HB2.out]; simp)])
              have hap := SubC.apply_calls (c := c') (d := g) M.out hIC.out HRI.out (by omega) (Kd.C_below HG.out M.out.1) (by have := HF.out.fewg; omega) (fun b hb => by obtain ⟨q5, hq5, rfl⟩ := List.mem_map.1 hb; have := HIS.out q5 hq5; show q5.ex.length ≤ _; omega)
              rw [hm0, putL_congr HFD.out] at hap
              have HAP := Aside0.mk hap
              have hb7 := (box_cell M.out (j := 0) rfl).1
              have hg2 := (box_cell (M.out.pull 3 (by simp)) (j := 2) rfl).1
              clear hap hIC
              generalize putL (envOf f.hyps es) f.goal = L at HAP hrb
              by_cases hbig : 200 < L.length
              · have hre : r = .error 31 := by rw [hrb.out, if_pos hbig]
                go_wp2_with (go_at_call 57; refine HAP.out.mono ?_; intro e5 w5 ho; unfold SubC.ApplyOut at ho; rw [if_pos hbig] at ho; obtain ⟨rfl, hb5, hm5⟩ := ho; have M5 := Aside0.mk hm5; clear hb5 hm5 hb7 hg2 M)
                go_ret
                rw [hre]
                exact ⟨rfl, HM.out.below M5.out.1⟩
              · by_cases h40 : 40 ≤ k
                · have hre : r = .error 117 := by rw [hrb.out, if_neg hbig, if_pos h40]
                  have h40' : (40 : Int) ≤ (k : Int) := by omega
                  go_wp2_with (go_at_call 57; refine HAP.out.mono ?_; intro e5 w5 ho; unfold SubC.ApplyOut at ho; rw [if_neg hbig] at ho; obtain ⟨A8, c8, rfl, hc8, hb5, hm5⟩ := ho; have M5 := Aside0.mk hm5; clear hb5 hm5 hb7 hg2 M)
                  go_ret
                  rw [hre]
                  exact ⟨rfl, HM.out.below M5.out.1⟩
                · have hre : r = .ok L := by rw [hrb.out, if_neg hbig, if_neg h40]
                  have h40' : ¬ (40 : Int) ≤ (k : Int) := by omega
                  go_upto_region 22 with (go_at_call 57; refine HAP.out.mono ?_; intro e5 w5 ho; unfold SubC.ApplyOut at ho; rw [if_neg hbig] at ho; obtain ⟨A8, c8, rfl, hc8, hb5, hm5⟩ := ho; have M5 := Aside0.mk hm5; clear hb5 hm5 hb7 hg2 M)
                  have M9 := Aside0.mk (mac_open (sep_over HM.out M5.out).swap.tail.swap.tail.swap.tail.swap.tail.swap)
                  obtain ⟨_, _, e5, h5⟩ := row_slice (mac_ents M9.out).row
                  simp only [Value.slice.injEq, true_and] at e5
                  obtain ⟨-, rfl⟩ := e5
                  have b3 : w5.cell? ⟨p, 3, none⟩ = some (.slice m.eA m.items.length m.ec) := (box_cell M9.out (j := 3) rfl).1
                  have f3 : w5.frozen? ⟨p, 3, none⟩ = false := (box_cell M9.out (j := 3) rfl).2
                  have M10 := Aside0.mk (show Sep W (w5.setCell ⟨p, 3, none⟩ (.slice m.eA k k)) (boxR p 77 #[.slice m.pA m.ps.length m.pc, .slice m.gA m.goal.length m.gc, .func (.func 8) #[] #[], .slice m.eA k k, nat m.peak, nat m.count] :: rowR 24 1 (.slice m.eA m.items.length m.ec) m.items.length (m.items.map cellE) :: exR m.items :: rowR 50 2 (.slice m.pA m.ps.length m.pc) m.ps.length (pairCells (m.ps.map prP)) :: rowR 3 1 (.slice m.gA m.goal.length m.gc) m.goal.length (m.goal.map num) :: rowR 3 1 (.slice A8 L.length c8) L.length (L.map num) :: rs) from box_set M9.out 3 (.slice m.eA k k))
                  have i1 : (k : Int) ≤ (m.ec : Int) := by omega
                  have i2 : k ≤ m.ec := by omega
                  have hcn := HO.out.cnt
                  have hwc : IntKind.i64.wrap ((m.count : Int) + 1) = (m.count : Int) + 1 := by rw [i64_w]; unfold Go.RowKit.wrap64; omega
                  clear M9 M5 HAP hrb HB2 HQ HS HRI HPE HFD HIS HKB HIO HSH HE HES HREQ HR HPO HG HP HH HF HM h5 hbi
                  go_wp2_with (go_at_call 52; refine (lay_calls M10.out (.inr ⟨h6, rfl⟩) (by omega)).mono ?_; rintro e6 w6 ⟨rfl, A9, c9, hm6⟩; have M11 := Aside0.mk hm6; have b5 : w6.cell? ⟨p, 5, none⟩ = some (.int .i64 (m.count : Int)) := (box_cell M11.out (j := 5) rfl).1; have f5 : w6.frozen? ⟨p, 5, none⟩ = false := (box_cell M11.out (j := 5) rfl).2; clear hm6 M10 b3 f3)
                  go_ret
                  rw [hre]
                  have h12 : Sep W (w6.setCell ⟨p, 5, none⟩ (.int .i64 ((m.count : Int) + 1))) (boxR p 77 #[.slice m.pA m.ps.length m.pc, .slice m.gA m.goal.length m.gc, .func (.func 8) #[] #[], .slice A9 (k + 1) c9, nat (max m.peak (k + 1)), .int .i64 ((m.count : Int) + 1)] :: rowR 24 1 (.slice A9 (k + 1) c9) (k + 1) ((m.items.map cellE).take k ++ [.slice A8 L.length c8]) :: exR m.items :: rowR 50 2 (.slice m.pA m.ps.length m.pc) m.ps.length (pairCells (m.ps.map prP)) :: rowR 3 1 (.slice m.gA m.goal.length m.gc) m.goal.length (m.goal.map num) :: rowR 3 1 (.slice A8 L.length c8) L.length (L.map num) :: rs) := box_set M11.out 5 (.int .i64 ((m.count : Int) + 1))
                  generalize w6.setCell ⟨p, 5, none⟩ (.int .i64 ((m.count : Int) + 1)) = w7 at h12 ⊢
                  refine ⟨rfl, A9, c9, ⟨0, L, A8, c8⟩, rfl, mac_shut ?_⟩
                  have h13 := (h12.pull 2 (by simp)).told (r := exR (m.items.take k)) (fun ff hff q hq => hff q (List.mem_of_mem_take hq))
                  have h14 := ex_more (q := (⟨0, L, A8, c8⟩ : BI)) (h13.pull 5 (by simp))
                  have h15 := (h14.pull 2 (by simp)).pull 2 (by simp)
                  have e1 : (m.items.map cellE).take k ++ [.slice A8 L.length c8] = (m.items.take k ++ [(⟨0, L, A8, c8⟩ : BI)]).map cellE := by rw [List.map_append, List.map_take]; rfl
                  rw [e1] at h15
                  have e2 : (Mac.applied m k ⟨0, L, A8, c8⟩ A9 c9).items.length = k + 1 := by simp [Mac.applied]; omega
                  show Sep W w7 (Mac.rs p (Mac.applied m k ⟨0, L, A8, c8⟩ A9 c9) ++ rs)
                  unfold Mac.rs Mac.cells
                  rw [e2]
                  exact h15
end Go.Proofs.YtcfocbfocemapaaGreat.ApplyW
