/- SymFull walked. -/
import Derived.Test.YtpoojimmponklaaDoorFullMore
namespace Go.Proofs.YtpoojimmponklaaDoor.SymFull
open Go.RowKit Go.Maps Go.Proofs.YtpoojimmponklaaDoor.SymTab Go.Proofs.YtpoojimmponklaaDoor.SymHeap Go.Proofs.YtpoojimmponklaaDoor.SymApi Go.Proofs.YtpoojimmponklaaDoor.SymBegun Go.Proofs.YtpoojimmponklaaDoor.SymScan Go.Proofs.YtpoojimmponklaaDoor.SymScript Go.Proofs.YtpoojimmponklaaDoor.SymReads Go.Proofs.YtpoojimmponklaaDoor.SymFullPure
open Go.Proofs.YtpoojimmponklaaDoorW.PrintWords (Aside0 Drawn0)
set_option linter.unusedVariables false
set_option linter.unusedSimpArgs false

theorem past {w0 w w' : World} {p g : Nat} {T : Tab} (h : Mine w0 w p g T) (hb : Below w.heap.size w w') : Mine w0 w' p g T :=
  ⟨(h.1.bound.move (fun k hk => hb.block k hk.2)).mono (fun k hk => hk.1), h.2.trans (hb.mono h.2.size)⟩
theorem size_n {n : Nat} (h : n < 1024) : (nameN n).size ≤ maxLen := by
  have := (symOk_size (sym_ok h)).2
  unfold maxLen
  omega

theorem at_is (m : Int) : ∃ r, 0 ≤ r ∧ r < 1024 ∧ PSymFull.lemmalaw02_at.f m 1024 = some r := by
  unfold PSymFull.lemmalaw02_at.f
  have e : IntKind.u64.wrap 1024 = 1024 := by decide
  rw [e, if_neg (by decide)]
  have h0 : 0 ≤ IntKind.u64.wrap m := by
    simp [IntKind.wrap, IntKind.signed, IntKind.bits]
    omega
  refine ⟨_, ?_, ?_, rfl⟩
  · unfold wrap64; rw [Int.tmod_eq_emod_of_nonneg h0]; omega
  · unfold wrap64; rw [Int.tmod_eq_emod_of_nonneg h0]; omega
theorem labels_is {w0 w : World} {p g : Nat} {T : Tab} (h : Mine w0 w p g T) {n : Nat} (hn : T.labels.length = n) :
    Calls Tryd.prog 29 #[.pointer (some ⟨p, 0, none⟩)] w fun e w' => ∃ A c, e = .returned (.slice A n c) ∧ Mine w0 w' p g T := by
  refine (SymNew.labels_calls h.1).mono fun e w' ⟨v', he, hR, ht⟩ => ?_
  obtain ⟨A, c, rfl⟩ := Go.Proofs.YtpoojimmponklaaDoorW.PrintWords.Kd.R_slice hR
  rw [hn] at he
  exact ⟨A, c, he, past h (ht.below (Nat.le_refl _) (fun _ h => h.elim))⟩

set_option maxHeartbeats 8000000 in
set_option maxRecDepth 100000 in
theorem walk {w : World} (hb : Blanks w) (A : Option Addr) (c : Nat) (bs : List Bool) (hl : bs.length ≤ 1152921504606846976) (hs : 0 < bs.length → ∃ a, A = some a) (hat : ∀ a i, A = some a → i < bs.length → w.cell? (a.add i) = some (.bool (bs.getD i false))) (m : Int) :
    Calls Tryd.prog 8 #[.slice A bs.length c, .int .i64 m] w fun e w' => e = .returned (.bool true) ∧ Below w.heap.size w w' := by
  have Hb := Lib.hid hb
  have HS := Lib.hid hs
  have HAt := Lib.hid hat
  clear hb hs hat
  go_enter Tryd.func8, Tryd.ntmps8
  go_wp2_with fail
  refine (begun_calls Hb.out).mono ?_
  rintro e w1 ⟨p, rfl, h1, t1⟩
  have M1 := Aside0.mk (Mine.begun h1 t1)
  clear h1 t1
  go_wp2_with fail
  go_loopw [7] (fun v7 wr => ∃ (n : Nat) (T : Tab), 2 ≤ n ∧ n ≤ 512 ∧ v7 = .int .i64 n ∧ Aside0 (Fills (fun i => bs.getD i false) (n - 2) T) ∧ Aside0 (Mine w wr p (4 + 2 * n) T)) (fun v7 _ => 512 - (intOf v7).toNat)
  case atStart => exact ⟨2, T2, by omega, by omega, rfl, ⟨fills_start _⟩, ⟨M1.out.more (by omega)⟩⟩
  case round =>
    clear M1
    obtain ⟨n, T, hn2, hn5, rfl, HF, M⟩ := hrel
    by_cases hlt : n < 512
    · obtain ⟨k, hk⟩ : ∃ k, k = n - 2 := ⟨_, rfl⟩
      have hkn : k + 2 = n := by omega
      cases hv : bs.getD n false with
      | true =>
        have hn : n < bs.length := by
          rcases Nat.lt_or_ge n bs.length with h | h
          · exact h
          · rw [List.getD_eq_getElem?_getD, List.getElem?_eq_none h] at hv
            cases hv
        obtain ⟨a, rfl⟩ := HS.out (by omega)
        have c0 := (M.out.2.cell (World.block_lt_of_cell? w _ (HAt.out a n rfl hn))).trans (HAt.out a n rfl hn)
        rw [hv] at c0
        obtain ⟨U, V, X, h1, h2, h3, h4⟩ := fill_var (k := k) M.out.wf (hk ▸ HF.out) (by omega) (by rw [hkn]; exact hv)
        rw [hkn] at h2
        rw [show k + 1 = n + 1 - 2 by omega] at h4
        have H1 := Aside0.mk h1
        have H2 := Aside0.mk h2
        have H3 := Aside0.mk h3
        have H4 := Aside0.mk h4
        clear h1 h2 h3 h4 hv hk hkn
        go_wp2_with fail
        refine (open_is M.out H1.out).mono ?_
        rintro e w2 ⟨rfl, hm⟩
        replace M := Aside0.mk hm
        clear hm
        go_wp2_with fail
        refine (num_calls (n := n) (by omega)).mono ?_
        rintro e w2 ⟨rfl, hd⟩
        replace M := Aside0.mk (past M.out hd)
        clear hd
        go_wp2_with fail
        refine (var_is M.out Hb.out (size_n (by omega)) (by unfold maxLen; omega) H2.out).mono ?_
        rintro e w2 ⟨rfl, hm⟩
        replace M := Aside0.mk hm
        clear hm
        go_wp2_with fail
        refine (close_is M.out H3.out).mono ?_
        rintro e w2 ⟨rfl, hm⟩
        replace M := Aside0.mk hm
        clear hm
        go_wp2_with fail
        go_roundw
        case rel => exact ⟨n + 1, _, by omega, by omega, by go_num, H4, ⟨M.out.more (by omega)⟩⟩
        case measure => simp [intOf]; omega
      | false =>
        obtain ⟨U, h1, h2⟩ := fill_const (k := k) M.out.wf (hk ▸ HF.out) (by omega) (by rw [hkn]; exact hv)
        rw [hkn] at h1
        rw [show k + 1 = n + 1 - 2 by omega] at h2
        have H1 := Aside0.mk h1
        have H2 := Aside0.mk h2
        by_cases hn : n < bs.length
        · obtain ⟨a, rfl⟩ := HS.out (by omega)
          have c0 := (M.out.2.cell (World.block_lt_of_cell? w _ (HAt.out a n rfl hn))).trans (HAt.out a n rfl hn)
          rw [hv] at c0
          clear h1 h2 hv hk hkn
          go_wp2_with fail
          refine (num_calls (n := n) (by omega)).mono ?_
          rintro e w2 ⟨rfl, hd⟩
          replace M := Aside0.mk (past M.out hd)
          clear hd
          go_wp2_with fail
          refine (const_is M.out Hb.out (size_n (by omega)) (by unfold maxLen; omega) H1.out).mono ?_
          rintro e w2 ⟨rfl, hm⟩
          replace M := Aside0.mk hm
          clear hm
          go_wp2_with fail
          go_roundw
          case rel => exact ⟨n + 1, _, by omega, by omega, by go_num, H2, ⟨M.out.more (by omega)⟩⟩
          case measure => simp [intOf]; omega
        · clear h1 h2 hv hk hkn
          go_wp2_with fail
          refine (num_calls (n := n) (by omega)).mono ?_
          rintro e w2 ⟨rfl, hd⟩
          replace M := Aside0.mk (past M.out hd)
          clear hd
          go_wp2_with fail
          refine (const_is M.out Hb.out (size_n (by omega)) (by unfold maxLen; omega) H1.out).mono ?_
          rintro e w2 ⟨rfl, hm⟩
          replace M := Aside0.mk hm
          clear hm
          go_wp2_with fail
          go_roundw
          case rel => exact ⟨n + 1, _, by omega, by omega, by go_num, H2, ⟨M.out.more (by omega)⟩⟩
          case measure => simp [intOf]; omega
    · have hn' : n = 512 := by omega
      subst hn'
      go_wp2_with fail
      refine (const_is M.out Hb.out (by decide) (by unfold maxLen; omega) (full_new HF.out)).mono ?_
      rintro e w2 ⟨rfl, hm⟩
      replace M := Aside0.mk hm
      clear hm
      go_wp2_with fail
      refine (var_is M.out Hb.out (by decide) (by unfold maxLen; omega) (full_var M.out.wf HF.out)).mono ?_
      rintro e w2 ⟨rfl, hm⟩
      replace M := Aside0.mk hm
      clear hm
      go_wp2_with fail
      refine (var_is M.out Hb.out (by decide) (by unfold maxLen; omega) (full_dollar T)).mono ?_
      rintro e w2 ⟨rfl, hm⟩
      replace M := Aside0.mk hm
      clear hm
      go_wp2_with fail
      refine (const_is M.out Hb.out (by decide) (by unfold maxLen; omega) (full_v0 M.out.wf HF.out)).mono ?_
      rintro e w2 ⟨rfl, hm⟩
      replace M := Aside0.mk hm
      clear hm
      go_wp2_with fail
      refine (count_is M.out (n := 512) (by rw [HF.out.syms, symsF_len])).mono ?_
      rintro e w2 ⟨rfl, hm⟩
      replace M := Aside0.mk hm
      clear hm
      have HA := Aside0.mk (again_of HF.out)
      clear HF
      go_wp2_with fail
      obtain ⟨g, hg, hM⟩ : ∃ g, g ≤ 1100 ∧ Mine w w2 p g T := ⟨_, by omega, M.out⟩
      replace M := Aside0.mk hM
      clear hM hlt hn2 hn5
      go_loopw [22] (fun v22 wq => ∃ (n : Nat) (T : Tab), 2 ≤ n ∧ n ≤ 512 ∧ v22 = .int .i64 n ∧ Aside0 (Again (fun i => bs.getD i false) n T) ∧ Aside0 (Mine w wq p (1100 + 2 * n) T)) (fun v22 _ => 512 - (intOf v22).toNat)
      case atStart => exact ⟨2, T, by omega, by omega, rfl, HA, ⟨M.out.more (by omega)⟩⟩
      case round =>
        clear M HA
        obtain ⟨n, T, hn2, hn5, rfl, HA, M⟩ := hrel
        by_cases hn : n < 512
        · by_cases hlt : n < bs.length
          · obtain ⟨a, rfl⟩ := HS.out (by omega)
            have Hc := Aside0.mk (HAt.out a n rfl hlt)
            cases hv : bs.getD n false with
            | true =>
              obtain ⟨U, h1, h2⟩ := again_new M.out.wf HA.out hn2 hn hv
              have H1 := Aside0.mk h1
              have H2 := Aside0.mk h2
              clear h1 h2
              go_wp2_with fail
              refine (num_calls (n := n) (by omega)).mono ?_
              rintro e w2 ⟨rfl, hd⟩
              replace M := Aside0.mk (past M.out hd)
              clear hd
              go_wp2_with fail
              refine (var_is M.out Hb.out (size_n (by omega)) (by unfold maxLen; omega) H1.out).mono ?_
              rintro e w3 ⟨rfl, hm⟩
              replace M := Aside0.mk hm
              clear hm
              have c0 := (M.out.2.cell (World.block_lt_of_cell? w _ Hc.out)).trans Hc.out
              rw [hv] at c0
              clear hv
              go_wp2_with fail
              exact ⟨⟨n + 1, _, by omega, by omega, by go_num, H2, ⟨M.out.more (by omega)⟩⟩, by simp [intOf]; omega⟩
            | false =>
              obtain ⟨h1, h2⟩ := again_old HA.out hn hv
              have H1 := Aside0.mk h1
              have H2 := Aside0.mk h2
              clear h1 h2
              go_wp2_with fail
              refine (num_calls (n := n) (by omega)).mono ?_
              rintro e w2 ⟨rfl, hd⟩
              replace M := Aside0.mk (past M.out hd)
              clear hd
              go_wp2_with fail
              refine (var_is M.out Hb.out (size_n (by omega)) (by unfold maxLen; omega) H1.out).mono ?_
              rintro e w3 ⟨rfl, hm⟩
              replace M := Aside0.mk hm
              clear hm
              have c0 := (M.out.2.cell (World.block_lt_of_cell? w _ Hc.out)).trans Hc.out
              rw [hv] at c0
              clear hv
              go_wp2_with fail
              exact ⟨⟨n + 1, _, by omega, by omega, by go_num, H2, ⟨M.out.more (by omega)⟩⟩, by simp [intOf]; omega⟩
          · have HL := Aside0.mk (show Labs 0 T from ⟨by rw [HA.out.syms, symsF_len], HA.out.scopes, HA.out.labels⟩)
            replace M := Aside0.mk (M.out.more (g' := 2200) (by omega))
            clear HA
            go_wp2_with fail
            go_loopw [25] (fun v25 wq => ∃ (n : Nat) (T : Tab), n ≤ 1024 ∧ v25 = .int .i64 n ∧ Aside0 (Labs n T) ∧ Aside0 (Mine w wq p (2200 + 2 * n) T)) (fun v25 _ => 1024 - (intOf v25).toNat)
            case atStart => exact ⟨0, T, by omega, rfl, HL, M⟩
            case round =>
              clear M HL
              obtain ⟨n, T, hn5, rfl, HL, M⟩ := hrel
              by_cases hn : n < 1024
              · obtain ⟨U, h1, h2⟩ := labs_step HL.out hn
                have H1 := Aside0.mk h1
                have H2 := Aside0.mk h2
                clear h1 h2
                go_wp2_with fail
                refine (num_calls (n := n) (by omega)).mono ?_
                rintro e w2 ⟨rfl, hd⟩
                replace M := Aside0.mk (past M.out hd)
                clear hd
                go_wp2_with fail
                refine (label_is M.out (by first | decide | exact size_n (by omega)) (by unfold maxLen; omega) H1.out).mono ?_
                rintro e w2 ⟨rfl, hm⟩
                replace M := Aside0.mk hm
                clear hm
                go_wp2_with fail
                go_roundw
                case rel => exact ⟨n + 1, _, by omega, by go_num, H2, ⟨M.out.more (by omega)⟩⟩
                case measure => simp [intOf]; omega
              · have hn' : n = 1024 := by omega
                subst hn'
                obtain ⟨r, hr0, hr1, hr⟩ := at_is m
                have Hr := Aside0.mk hr
                clear hr
                go_wp2_with fail
                refine (label_is M.out (by first | decide | exact size_n (by omega)) (by unfold maxLen; omega) (labs_new HL.out)).mono ?_
                rintro e w2 ⟨rfl, hm⟩
                replace M := Aside0.mk hm
                clear hm
                go_wp2_with fail
                refine (PSymFull.lemmalaw02_at.calls m 1024 r _ Hr.out).mono ?_
                rintro e w2 ⟨rfl, hd⟩
                replace M := Aside0.mk (M.out.drawn hd)
                clear hd
                obtain ⟨q, rfl⟩ := Int.eq_ofNat_of_zero_le hr0
                have hq : q < 1024 := by omega
                go_wp2_with fail
                refine (num_calls (n := q) hq).mono ?_
                rintro e w2 ⟨rfl, hd⟩
                replace M := Aside0.mk (past M.out hd)
                clear hd
                go_wp2_with fail
                refine (label_is M.out (by first | decide | exact size_n (by omega)) (by unfold maxLen; omega) (labs_old HL.out hq)).mono ?_
                rintro e w2 ⟨rfl, hm⟩
                replace M := Aside0.mk hm
                clear hm
                go_wp2_with fail
                refine (label_is M.out (by first | decide | exact size_n (by omega)) (by unfold maxLen; omega) (labs_empty T)).mono ?_
                rintro e w2 ⟨rfl, hm⟩
                replace M := Aside0.mk hm
                clear hm
                have HO := Aside0.mk (opens_of HL.out)
                obtain ⟨g, hg, hM⟩ : ∃ g, g ≤ 5000 ∧ Mine w w2 p g T := ⟨_, by omega, M.out⟩
                replace M := Aside0.mk hM
                clear hM HL
                go_wp2_with fail
                go_loopw [26] (fun v26 wq => ∃ (n : Nat) (T : Tab), n ≤ 16 ∧ v26 = .int .i64 n ∧ Aside0 (Opens n T) ∧ Aside0 (Mine w wq p g T)) (fun v26 _ => 16 - (intOf v26).toNat)
                case atStart => exact ⟨0, T, by omega, rfl, HO, M⟩
                case round =>
                  clear M HO
                  obtain ⟨n, T, hn5, rfl, HO, M⟩ := hrel
                  by_cases hn : n < 16
                  · obtain ⟨U, h1, h2⟩ := opens_step HO.out hn
                    have H1 := Aside0.mk h1
                    have H2 := Aside0.mk h2
                    clear h1 h2
                    go_wp2_with fail
                    refine (open_is M.out H1.out).mono ?_
                    rintro e w2 ⟨rfl, hm⟩
                    replace M := Aside0.mk hm
                    clear hm
                    go_wp2_with fail
                    go_roundw
                    case rel => exact ⟨n + 1, _, by omega, by go_num, H2, M⟩
                    case measure => simp [intOf]; omega
                  · have hn' : n = 16 := by omega
                    subst hn'
                    go_wp2_with fail
                    refine (open_is M.out (opens_end HO.out)).mono ?_
                    rintro e w2 ⟨rfl, hm⟩
                    replace M := Aside0.mk hm
                    clear hm
                    go_wp2_with fail
                    refine (depth_is M.out HO.out.scopes).mono ?_
                    rintro e w2 ⟨rfl, hm⟩
                    replace M := Aside0.mk hm
                    clear hm
                    go_wp2_with fail
                    refine (count_is M.out HO.out.len).mono ?_
                    rintro e w2 ⟨rfl, hm⟩
                    replace M := Aside0.mk hm
                    clear hm
                    go_wp2_with fail
                    refine (labels_is M.out HO.out.labels).mono ?_
                    rintro e w2 ⟨A9, c9, rfl, hm⟩
                    replace M := Aside0.mk hm
                    clear hm
                    go_wp2_with fail
                    go_ret
                    exact ⟨rfl, M.out.2⟩
        · have HL := Aside0.mk (show Labs 0 T from ⟨by rw [HA.out.syms, symsF_len], HA.out.scopes, HA.out.labels⟩)
          replace M := Aside0.mk (M.out.more (g' := 2200) (by omega))
          clear HA
          go_wp2_with fail
          go_loopw [25] (fun v25 wq => ∃ (n : Nat) (T : Tab), n ≤ 1024 ∧ v25 = .int .i64 n ∧ Aside0 (Labs n T) ∧ Aside0 (Mine w wq p (2200 + 2 * n) T)) (fun v25 _ => 1024 - (intOf v25).toNat)
          case atStart => exact ⟨0, T, by omega, rfl, HL, M⟩
          case round =>
            clear M HL
            obtain ⟨n, T, hn5, rfl, HL, M⟩ := hrel
            by_cases hn : n < 1024
            · obtain ⟨U, h1, h2⟩ := labs_step HL.out hn
              have H1 := Aside0.mk h1
              have H2 := Aside0.mk h2
              clear h1 h2
              go_wp2_with fail
              refine (num_calls (n := n) (by omega)).mono ?_
              rintro e w2 ⟨rfl, hd⟩
              replace M := Aside0.mk (past M.out hd)
              clear hd
              go_wp2_with fail
              refine (label_is M.out (by first | decide | exact size_n (by omega)) (by unfold maxLen; omega) H1.out).mono ?_
              rintro e w2 ⟨rfl, hm⟩
              replace M := Aside0.mk hm
              clear hm
              go_wp2_with fail
              go_roundw
              case rel => exact ⟨n + 1, _, by omega, by go_num, H2, ⟨M.out.more (by omega)⟩⟩
              case measure => simp [intOf]; omega
            · have hn' : n = 1024 := by omega
              subst hn'
              obtain ⟨r, hr0, hr1, hr⟩ := at_is m
              have Hr := Aside0.mk hr
              clear hr
              go_wp2_with fail
              refine (label_is M.out (by first | decide | exact size_n (by omega)) (by unfold maxLen; omega) (labs_new HL.out)).mono ?_
              rintro e w2 ⟨rfl, hm⟩
              replace M := Aside0.mk hm
              clear hm
              go_wp2_with fail
              refine (PSymFull.lemmalaw02_at.calls m 1024 r _ Hr.out).mono ?_
              rintro e w2 ⟨rfl, hd⟩
              replace M := Aside0.mk (M.out.drawn hd)
              clear hd
              obtain ⟨q, rfl⟩ := Int.eq_ofNat_of_zero_le hr0
              have hq : q < 1024 := by omega
              go_wp2_with fail
              refine (num_calls (n := q) hq).mono ?_
              rintro e w2 ⟨rfl, hd⟩
              replace M := Aside0.mk (past M.out hd)
              clear hd
              go_wp2_with fail
              refine (label_is M.out (by first | decide | exact size_n (by omega)) (by unfold maxLen; omega) (labs_old HL.out hq)).mono ?_
              rintro e w2 ⟨rfl, hm⟩
              replace M := Aside0.mk hm
              clear hm
              go_wp2_with fail
              refine (label_is M.out (by first | decide | exact size_n (by omega)) (by unfold maxLen; omega) (labs_empty T)).mono ?_
              rintro e w2 ⟨rfl, hm⟩
              replace M := Aside0.mk hm
              clear hm
              have HO := Aside0.mk (opens_of HL.out)
              obtain ⟨g, hg, hM⟩ : ∃ g, g ≤ 5000 ∧ Mine w w2 p g T := ⟨_, by omega, M.out⟩
              replace M := Aside0.mk hM
              clear hM HL
              go_wp2_with fail
              go_loopw [26] (fun v26 wq => ∃ (n : Nat) (T : Tab), n ≤ 16 ∧ v26 = .int .i64 n ∧ Aside0 (Opens n T) ∧ Aside0 (Mine w wq p g T)) (fun v26 _ => 16 - (intOf v26).toNat)
              case atStart => exact ⟨0, T, by omega, rfl, HO, M⟩
              case round =>
                clear M HO
                obtain ⟨n, T, hn5, rfl, HO, M⟩ := hrel
                by_cases hn : n < 16
                · obtain ⟨U, h1, h2⟩ := opens_step HO.out hn
                  have H1 := Aside0.mk h1
                  have H2 := Aside0.mk h2
                  clear h1 h2
                  go_wp2_with fail
                  refine (open_is M.out H1.out).mono ?_
                  rintro e w2 ⟨rfl, hm⟩
                  replace M := Aside0.mk hm
                  clear hm
                  go_wp2_with fail
                  go_roundw
                  case rel => exact ⟨n + 1, _, by omega, by go_num, H2, M⟩
                  case measure => simp [intOf]; omega
                · have hn' : n = 16 := by omega
                  subst hn'
                  go_wp2_with fail
                  refine (open_is M.out (opens_end HO.out)).mono ?_
                  rintro e w2 ⟨rfl, hm⟩
                  replace M := Aside0.mk hm
                  clear hm
                  go_wp2_with fail
                  refine (depth_is M.out HO.out.scopes).mono ?_
                  rintro e w2 ⟨rfl, hm⟩
                  replace M := Aside0.mk hm
                  clear hm
                  go_wp2_with fail
                  refine (count_is M.out HO.out.len).mono ?_
                  rintro e w2 ⟨rfl, hm⟩
                  replace M := Aside0.mk hm
                  clear hm
                  go_wp2_with fail
                  refine (labels_is M.out HO.out.labels).mono ?_
                  rintro e w2 ⟨A9, c9, rfl, hm⟩
                  replace M := Aside0.mk hm
                  clear hm
                  go_wp2_with fail
                  go_ret
                  exact ⟨rfl, M.out.2⟩
end Go.Proofs.YtpoojimmponklaaDoor.SymFull
