/- ExprParts walked: cutUp, Join, Places, in and Equal by their contracts. -/
import Derived.Test.YtambldebfhhjpaaPartsPure
namespace Go.Proofs.Ytambldebfhhjpaa.PartsWalk
open Go.RowKit Go.Proofs.Ytambldebfhhjpaa.PExprParts Go.Proofs.Ytambldebfhhjpaa.PartsPure Go.Proofs.YtambldebfhhjpaaW.PrintWords

theorem F_ints {w : World} {A : Option Addr} {n : Nat} {xs : List Int} {k : IntKind} (h : (Kd.int k).C w A n xs) : Kd.F (Kd.int k) w (fun _ => True) A n xs := by
  intro W' hW
  obtain ⟨h1, h2, h3⟩ := h
  refine ⟨h1, h2, fun hp => ?_⟩
  obtain ⟨ad, e, hc⟩ := h3 hp
  refine ⟨ad, e, fun j p hj => ?_⟩
  obtain ⟨c, hl, hr, hcc⟩ := hc j p hj
  refine ⟨c, hl, hr, fun i u hu => ?_⟩
  have hx := hcc i u hu
  have hb := World.block_lt_of_cell? w _ hx
  rw [← hx]
  simp [World.cell?, hW _ trivial hb]

def pre (r : List (List Int)) (i : Nat) : Int := ((r.take i).flatten.length : Int)
theorem pre_le (r : List (List Int)) (i : Nat) : 0 ≤ pre r i ∧ pre r i ≤ r.flatten.length := by
  have e2 : r.flatten = (r.take i).flatten ++ (r.drop i).flatten := by rw [← List.flatten_append, List.take_append_drop]
  have := congrArg List.length e2
  rw [List.length_append] at this
  unfold pre
  omega
theorem pre_succ (r : List (List Int)) {i : Nat} (hi : i < r.length) : pre r i + r[i].length = pre r (i + 1) := by
  unfold pre
  rw [List.take_succ_eq_append_getElem hi, List.flatten_append, List.flatten_cons, List.flatten_nil, List.append_nil, List.length_append]
  omega
theorem equal_quiet (A0 : Option Addr) (c0 : Nat) (x : List Int) (A1 : Option Addr) (c1 : Nat) (w : World) (n : Nat) (hC0 : Kd.C (Kd.int .i64) w A0 x.length x) (hc0 : x.length ≤ c0) (hC1 : Kd.C (Kd.int .i64) w A1 x.length x) (hc1 : x.length ≤ c1) (hx : x.length ≤ 1048576) :
    Calls Try.prog 11 #[.slice A0 x.length c0, .slice A1 x.length c1] (w.drewN n) fun e w' => e = .returned (.bool true) ∧ ∃ m, w' = w.drewN m := by
  obtain ⟨k, hk⟩ := equal_f x x (by omega)
  rw [decide_eq_true rfl] at hk
  refine (expr_Equal.calls k A0 c0 x A1 c1 x true _ (Kd.C_drewN hC0 n) hc0 (Kd.C_drewN hC1 n) hc1 hk).mono ?_
  rintro e w' ⟨rfl, m, rfl⟩
  exact ⟨rfl, n + m, by rw [World.drewN_drewN]⟩
set_option maxHeartbeats 1000000 in
set_option maxRecDepth 100000 in
theorem law_walk (A0 : Option Addr) (c0 : Nat) (e : List Int) (A1 : Option Addr) (c1 : Nat) (cuts : List Int) (w : World)
    (hC0 : Kd.C (Kd.int .i64) w A0 e.length e) (hc0 : e.length ≤ c0) (hC1 : Kd.C (Kd.int .i64) w A1 cuts.length cuts) (hc1 : cuts.length ≤ c1)
    (he : e.length ≤ 1048576) (hcu : cuts.length ≤ 1048576) :
    Calls Try.prog 3 #[.slice A0 e.length c0, .slice A1 cuts.length c1] w fun ed w' => ed = .returned (.bool true) ∧ Below w.heap.size w w' := by
  obtain ⟨kc, r, hr, hf, hl⟩ := cut_f e cuts he hcu
  have Hf := Aside0.mk hf
  clear hf
  go_enter Try.func3, Try.ntmps3
  go_wp2_with fail
  refine (lemmalaw03_cutUp.calls kc (fun _ => True) A0 c0 e A1 c1 cuts r _ (Kd.V_mk hc0 (F_ints hC0)) hC1 hc1 hr).mono ?_
  rintro ed w1 ⟨v5, rfl, HN, hB⟩
  obtain ⟨A5, c5, rfl, hl5, hC5⟩ := Kd.N_reads HN
  go_wp2_with fail
  by_cases h2 : e.length ≤ 200
  · obtain ⟨kj, hj⟩ : ∃ k, expr_Join.f k r = some (e, 0) := by
      obtain ⟨kj, hj⟩ := join_ok r hl (by rw [Hf.out]; exact h2)
      exact ⟨kj, by rw [hj, Hf.out]⟩
    refine (expr_Join.calls kj A5 c5 r e 0 _ hC5 hl5 hj).mono ?_
    rintro ed w2 ⟨v6, rfl, HR, hB2⟩
    obtain ⟨A6, c6, rfl, hl6, hC6⟩ := Kd.R_reads HR
    have d2 : decide ((200 : Int) < (e.length : Int)) = false := decide_eq_false (by omega)
    go_wp2_with fail
    have hB3 := hB.trans (hB2.mono hB.size)
    obtain ⟨ks, hs⟩ := same_law e (by omega)
    refine (lemmalaw03_same.calls ks A6 c6 e A0 c0 e true _ hC6 hl6 (Kd.C_below hC0 hB3) hc0 hs).mono ?_
    rintro ed w3 ⟨rfl, n3, rfl⟩
    have hB4 := pw_below_drewN hB3 n3
    have hC5' := Kd.C_drewN (Kd.C_below hC5 hB2) n3
    have hC0' := Kd.C_drewN (Kd.C_below hC0 hB3) n3
    clear hC6 hl6 HR HN d2
    go_wp2_with fail
    clear hC5 hC0 hB hB2 hB3 hC1 hr hj hs
    go_loopw [8, 9] (fun v8 v9 wr => ∃ i : Nat, i ≤ r.length ∧ v9 = .int .i64 i ∧ v8 = .int .i64 (pre r i) ∧ Aside0 (Kd.C (Kd.slice 3 (Kd.int .i64)) wr A5 r.length r) ∧ Aside0 (Kd.C (Kd.int .i64) wr A0 e.length e) ∧ Aside0 (Below w.heap.size w wr)) (fun _ v9 _ => r.length - (intOf v9).toNat)
    case atStart => exact ⟨0, by omega, rfl, by simp [pre], ⟨hC5'⟩, ⟨hC0'⟩, ⟨hB4⟩⟩
    case round =>
      clear hC5' hC0' hB4
      obtain ⟨i, hi, rfl, rfl, HC5, HC0, HB⟩ := hrel
      have hp := pre_le r i
      rw [Hf.out] at hp
      by_cases hlt : i < r.length
      · obtain ⟨ad, Ai, ci, rfl, hx, hli, hCi⟩ := at_L1 HC5.out (i : Int) (by omega) (by omega)
        rw [rdL_of hlt] at hx hli hCi
        rw [Int.toNat_natCast] at hx
        have hst := piece_stands r hlt
        rw [Hf.out] at hst
        have hps := pre_succ r hlt
        obtain ⟨x, hxx⟩ : ∃ x, x = r[i] := ⟨_, rfl⟩
        rw [← hxx] at hx hli hCi hst hps
        have Hst := Aside0.mk (show stands e x (r.take i).flatten.length from hst)
        have hpx : pre r i + x.length ≤ e.length := by have := hst.1; unfold pre; omega
        have Hps := Aside0.mk hps
        have Hx := Aside0.mk hxx
        clear hst hps hxx
        obtain ⟨kp, n, hpl, hn1, hn2⟩ := places_f e x he (by omega)
        go_wp2_with fail
        refine (expr_Places.calls kp A0 c0 e Ai ci x _ _ HC0.out hc0 hCi hli hpl).mono ?_
        rintro ed w4 ⟨v10, rfl, HR, hB5⟩
        obtain ⟨A10, c10, rfl, hl10, hC10⟩ := Kd.R_reads HR
        obtain ⟨ps, hpsd⟩ : ∃ ps, ps = placesTo e x n := ⟨_, rfl⟩
        rw [← hpsd] at hC10 hl10 hpl ⊢
        have Hpsd := Aside0.mk hpsd
        have hin : pre r i ∈ ps := by rw [hpsd]; exact places_mem hn1 Hst.out
        obtain ⟨kn, hkn⟩ := in_f ps (pre r i) (by rw [hpsd]; have := placesTo_len e x n; omega) hin
        have hpl2 : ps.length ≤ 1048577 := by rw [hpsd]; have := placesTo_len e x n; omega
        clear hpsd hin hpl HR
        go_wp2_with fail
        refine (lemmalaw03_in.calls kn A10 c10 ps (pre r i) true _ hC10 hl10 hkn).mono ?_
        rintro ed w5 ⟨rfl, n5, rfl⟩
        go_wp2_with fail
        have hBq := pw_below_drewN (HB.out.trans (hB5.mono HB.out.size)) n5
        have hC5q := Kd.C_drewN (Kd.C_below HC5.out hB5) n5
        have hC0q := Kd.C_drewN (Kd.C_below HC0.out hB5) n5
        have hC1q := Kd.C_drewN hC10 n5
        have hCiq := Kd.C_drewN (Kd.C_below hCi hB5) n5
        clear HB HC5 HC0 hC10 hCi hx hkn hB5
        obtain ⟨wo, hwo⟩ : ∃ wo, wo = w4.drewN n5 := ⟨_, rfl⟩
        rw [← hwo] at hBq hC5q hC0q hC1q hCiq ⊢
        clear hwo
        go_loopw [11] (fun v11 wq => ∃ k : Nat, k ≤ ps.length ∧ v11 = .int .i64 k ∧ Aside0 (Kd.C (Kd.slice 3 (Kd.int .i64)) wq (some ad) r.length r) ∧ Aside0 (Kd.C (Kd.int .i64) wq A0 e.length e) ∧ Aside0 (Kd.C (Kd.int .i64) wq A10 ps.length ps) ∧ Aside0 (Kd.C (Kd.int .i64) wq Ai x.length x) ∧ Aside0 (Below w.heap.size w wq)) (fun v11 _ => ps.length - (intOf v11).toNat)
        case atStart => exact ⟨0, by omega, rfl, ⟨hC5q⟩, ⟨hC0q⟩, ⟨hC1q⟩, ⟨hCiq⟩, ⟨hBq⟩⟩
        case round =>
          clear hBq hC5q hC0q hC1q hCiq
          obtain ⟨k, hk, rfl, HC5, HC0, HC10, HCi, HB⟩ := hrel
          by_cases hklt : k < ps.length
          · obtain ⟨adp, hadp, hy⟩ := Kd.at_int HC10.out (k : Int) (by omega) (by omega)
            cases hadp
            rw [rd_of hklt, Int.toNat_natCast] at hy
            obtain ⟨q, hq, hsq⟩ : ∃ q : Nat, ps[k] = (q : Int) ∧ stands e x q := by
              have hk' := hklt
              rw [Hpsd.out] at hk'
              obtain ⟨q, h1, h2⟩ := places_at hk'
              exact ⟨q, by rw [← h1]; congr 1; exact Hpsd.out, h2⟩
            rw [hq] at hy
            have hqq := Aside0.mk hq
            clear hq
            obtain ⟨hsq1, hsq2⟩ := hsq
            obtain ⟨ad', Ai', ci', had, hx, hli', hCi'⟩ := at_L1 HC5.out (i : Int) (by omega) (by omega)
            cases had
            rw [rdL_of hlt, Int.toNat_natCast, ← Hx.out] at hx
            rw [rdL_of hlt, ← Hx.out] at hli' hCi'
            obtain ⟨i010, hi010, _, hsz10, _⟩ := info_parts info3
            obtain ⟨Am, hcut, hAm, hCm⟩ := print_mid_of (P := Try.prog) (Value.int .i64) 0 22 3 .i64 .i64 Try.underlying22 hi010 hsz10 A0 c0 e (q : Int) ((q : Int) + (x.length : Int)) (by omega) (by omega) (by omega) hc0
            have HCm := Kd.C_of_reads (h1 := fun _ => rfl) (hAm _ (Kd.reads_of_C HC0.out))
            have hmid : (e.take ((q : Int) + (x.length : Int)).toNat).drop (q : Int).toNat = x := by
              rw [show ((q : Int) + (x.length : Int)).toNat = q + x.length by omega, Int.toNat_natCast, drop_take, hsq2]
            rw [hmid] at HCm hcut hCm
            rw [Int.toNat_natCast] at hcut hCm
            clear hAm hmid hi010 hsz10 hsq2
            have g1 : decide ((q : Int) < 0) = false := decide_eq_false (by omega)
            have g2 : decide ((e.length : Int) < (q : Int) + (x.length : Int)) = false := decide_eq_false (by omega)
            have hq0 : (0 : Int) ≤ q := by omega
            have hqm : (q : Int) + (x.length : Int) ≤ (e.length : Int) := by omega
            have hk0 : (0 : Int) ≤ k := by omega
            have hkl : (k : Int) < (ps.length : Int) := by omega
            rcases Nat.eq_zero_or_pos k with h0 | h0
            · subst h0
              have hy0 : wr.cell? adp = some (.int .i64 q) := by simpa [Addr.add] using hy
              clear hy
              go_wp2_with fail
              go_quiet ((go_at_call 11; exact equal_quiet _ _ x _ _ _ _ HCm hCm hCi' hli' (by omega)))
              go_wp2_with fail
              go_roundw
              case rel => exact ⟨0 + 1, by omega, by go_num, ⟨Kd.C_drewN HC5.out _⟩, ⟨Kd.C_drewN HC0.out _⟩, ⟨Kd.C_drewN HC10.out _⟩, ⟨Kd.C_drewN HCi.out _⟩, ⟨pw_below_drewN HB.out _⟩⟩
              case measure => simp [intOf]; omega
            · obtain ⟨adq, hadq, hz⟩ := Kd.at_int HC10.out ((k - 1 : Nat) : Int) (by omega) (by omega)
              cases hadq
              rw [rd_of (show k - 1 < ps.length by omega), Int.toNat_natCast] at hz
              have hup : ps[k - 1]'(by omega) < (q : Int) := by
                have h1 := hqq.out
                have hk' : (k - 1) + 1 < (placesTo e x n).length := by rw [← Hpsd.out]; omega
                have h2 := places_up hk'
                have h3 : (placesTo e x n)[k - 1]'(by omega) = ps[k - 1]'(by omega) := by congr 1; exact Hpsd.out.symm
                have h4 : (placesTo e x n)[(k - 1) + 1] = ps[k] := by
                  have : k - 1 + 1 = k := by omega
                  simp only [this]
                  congr 1
                  exact Hpsd.out.symm
                rw [h3, h4, h1] at h2
                exact h2
              generalize ps[k - 1]'(by omega) = q' at hz hup
              have g3 : decide ((q : Int) ≤ q') = false := decide_eq_false (by omega)
              have g4 : decide ((0 : Int) < (k : Int)) = true := decide_eq_true (by omega)
              have hk1 : (0 : Int) ≤ (k : Int) - 1 := by omega
              have hk1' : (1 : Int) ≤ (k : Int) := by omega
              have hk2 : (k : Int) - 1 < (ps.length : Int) := by omega
              clear hup
              go_wp2_with fail
              go_quiet ((go_at_call 11; exact equal_quiet _ _ x _ _ _ _ HCm hCm hCi' hli' (by omega)))
              go_wp2_with fail
              go_roundw
              case rel => exact ⟨k + 1, by omega, by go_num, ⟨Kd.C_drewN HC5.out _⟩, ⟨Kd.C_drewN HC0.out _⟩, ⟨Kd.C_drewN HC10.out _⟩, ⟨Kd.C_drewN HCi.out _⟩, ⟨pw_below_drewN HB.out _⟩⟩
              case measure => simp [intOf]; omega
          · obtain ⟨ad', Ai', ci', had, hx, hli', hCi'⟩ := at_L1 HC5.out (i : Int) (by omega) (by omega)
            cases had
            rw [rdL_of hlt, Int.toNat_natCast, ← Hx.out] at hx
            clear hli' hCi'
            go_wp2_with fail
            go_roundw
            case rel => exact ⟨i + 1, by omega, by go_num, by rw [← Hps.out], HC5, HC0, HB⟩
            case measure => simp [intOf]; omega
      · go_wp2_with fail
        go_ret
        exact ⟨rfl, HB.out⟩
  · obtain ⟨kj, hj⟩ := join_long r hl (by rw [Hf.out]; exact he) (by rw [Hf.out]; omega)
    refine (expr_Join.calls kj A5 c5 r [] 31 _ hC5 hl5 hj).mono ?_
    rintro ed w2 ⟨v6, rfl, HR, hB2⟩
    obtain ⟨A6, c6, rfl, hl6, hC6⟩ := Kd.R_reads HR
    have d2 : decide ((200 : Int) < (e.length : Int)) = true := decide_eq_true (by omega)
    go_wp2_with fail
    go_ret
    exact ⟨rfl, hB.trans (hB2.mono hB.size)⟩
end Go.Proofs.Ytambldebfhhjpaa.PartsWalk
