/- SymFinds walked. -/
import Derived.Test.YtpoojimmponklaaDoorScript
namespace Go.Proofs.YtpoojimmponklaaDoor.SymFinds
open Go.RowKit Go.Maps Go.Proofs.YtpoojimmponklaaDoor.SymTab Go.Proofs.YtpoojimmponklaaDoor.SymHeap Go.Proofs.YtpoojimmponklaaDoor.SymApi Go.Proofs.YtpoojimmponklaaDoor.SymBegun Go.Proofs.YtpoojimmponklaaDoor.SymScan Go.Proofs.YtpoojimmponklaaDoor.SymScript Go.Proofs.YtpoojimmponklaaDoor.SymReads
open Go.Proofs.YtpoojimmponklaaDoorW.PrintWords (Aside0 Drawn0)

theorem eqb (s t : ByteArray) : (s.toList == t.toList) = (false || decide (s = t)) := by
  rw [Bool.false_or, ByteArray.toList_eq, ByteArray.toList_eq, Bool.eq_iff_iff, beq_iff_eq, decide_eq_true_eq]
  constructor
  · intro h
    cases s; cases t
    simpa using h
  · intro h
    rw [h]
set_option maxHeartbeats 8000000 in
set_option maxRecDepth 100000 in
theorem walk {w : World} (hb : Blanks w) (A : Option Addr) (c : Nat) (l : List OpRec) (hl : l.length ≤ 4398046511104) (hs : Script w A l) (odd : ByteArray) (hodd : odd.size ≤ maxLen) :
    Calls Tryd.prog 7 #[.slice A l.length c, .string odd] w fun e w' => e = .returned (.bool true) ∧ Below w.heap.size w w' := by
  have Hb := Lib.hid hb
  have HS := Lib.hid hs
  have Hodd := Lib.hid hodd
  clear hb hs hodd
  go_enter Tryd.func7, Tryd.ntmps7
  go_wp2_with fail
  refine (begun_calls Hb.out).mono ?_
  rintro e w1 ⟨p, rfl, h1, t1⟩
  have M1 := Aside0.mk (Mine.begun h1 t1)
  clear h1 t1
  go_wp2_with fail
  go_loopw [7] (fun v7 wr => ∃ i : Nat, i ≤ l.length ∧ v7 = .int .i64 i ∧ Aside0 (Mine w wr p (4 + 2 * i) (run T2 (l.take i)))) (fun v7 _ => l.length - (intOf v7).toNat)
  case atStart => exact ⟨0, by omega, rfl, M1⟩
  case round =>
    clear M1
    obtain ⟨i, hi, rfl, M⟩ := hrel
    by_cases hlt : i < l.length
    · obtain ⟨a, rfl⟩ := HS.out.some_ (by omega)
      obtain ⟨c1, c2, c3, hx⟩ := (HS.out.below M.out.2).at_ a i l[i] rfl (List.getElem?_eq_getElem hlt)
      have ht := run_take (T := T2) hlt
      generalize l[i] = x at c1 c2 c3 hx ht
      have Ht := Lib.hid ht
      have hd := does_calls (M.out.blanks Hb.out) M.out.1 x.k x.s x.n hx (by unfold maxLen; omega)
      have Hd := Lib.hid hd
      clear ht hd hx
      go_wp2_with fail
      refine Hd.out.mono ?_
      rintro e w2 ⟨rfl, hd2⟩
      have M2 := Aside0.mk (M.out.does hd2)
      clear M Hd hd2 c1 c2 c3
      go_wp2_with fail
      go_roundw
      case rel => exact ⟨i + 1, by omega, by go_num, by rw [Ht.out]; exact M2⟩
      case measure => simp [intOf]; omega
    · have hi' : i = l.length := by omega
      have hM := M.out
      rw [List.take_of_length_le (by omega)] at hM
      obtain ⟨T, hT⟩ : ∃ T, T = run T2 l := ⟨_, rfl⟩
      rw [← hT] at hM
      obtain ⟨g, hg, hM⟩ : ∃ g, g ≤ 8796093022300 ∧ Mine w wr p g T := ⟨4 + 2 * i, by omega, hM⟩
      have M' := Aside0.mk hM
      clear hM M hi' hT
      go_wp2_with fail
      go_loopw [8, 9] (fun v8 v9 wq => ∃ (n : Nat) (kn : Bool) (U : Tab), n ≤ T.syms.length ∧ v9 = .int .i64 n ∧ v8 = .bool kn ∧ U.syms = T.syms ∧ Aside0 (kn = true ↔ odd ∈ (T.syms.take n).map (·.1)) ∧ Aside0 (Mine w wq p (g + 4 * n) U)) (fun _ v9 _ => T.syms.length - (intOf v9).toNat)
      case atStart => exact ⟨0, false, T, by omega, rfl, rfl, rfl, ⟨by simp⟩, M'⟩
      case round =>
        clear M'
        obtain ⟨n, kn, U, hn, rfl, rfl, hU, Hk, M⟩ := hrel
        by_cases hlt : n < T.syms.length
        · have hlu : n < U.syms.length := by rw [hU]; exact hlt
          have hwf := M.out.wf
          have Hc := Aside0.mk (show U.syms.length = T.syms.length by rw [hU])
          have Hn := Aside0.mk (name_at hlu)
          have hsz := (symOk_size (ok_at hwf hlu)).2
          have Hs := Aside0.mk (show (nameOf U n).size ≤ maxLen by unfold maxLen; omega)
          have Hcs := Aside0.mk (fun hz : U.scopes.length = 0 => const_again hwf hlu hz)
          have hdeep := hwf.deep
          have Hk2 := Aside0.mk (show (kn || decide (nameOf U n = odd)) = true ↔ odd ∈ (T.syms.take (n + 1)).map (·.1) by
            have e : nameOf U n = T.syms[n].1 := by
              unfold nameOf
              rw [hU, List.getD_eq_getElem?_getD, List.getElem?_eq_getElem hlt]
              rfl
            rw [List.take_succ_eq_append_getElem hlt, List.map_append, List.mem_append, Bool.or_eq_true, Hk.out, e]
            simp [eq_comm])
          have hf2 := hwf.few
          have HU := Aside0.mk hU
          rw [hU] at hf2
          cases hact : U.act (nameOf U n) with
          | some m =>
            obtain rfl := act_at hwf hlu hact
            have Hf := Aside0.mk (show findT U (nameOf U m) = (m, true) by unfold findT; rw [hact])
            have Ha := Aside0.mk (show activeT U m = true by rw [active_at hlu, hact]; rfl)
            have Ha2 := Ha
            have Hvr := Aside0.mk (var_on hwf hlu hact)
            generalize nameOf U m = s at *
            clear hU hact hwf hM
            cases hv : isVarT U m
            all_goals
              have Hv := Aside0.mk hv
              clear hv
              by_cases hz : U.scopes.length = 0
              · have Hd := Aside0.mk hz
                have Hz := Aside0.mk hz
                clear hz
                cases kn
                all_goals
                  go_wp2_with (first
                      | (go_at_call 20; refine (count_is M.out Hc.out).mono ?_; rintro e w2 ⟨rfl, hm⟩; replace M := Aside0.mk hm; clear hm)
                      | (go_at_call 23; refine (name_is M.out Hn.out).mono ?_; rintro e w2 ⟨rfl, hm⟩; replace M := Aside0.mk hm; clear hm)
                      | (go_at_call 31; refine (find_is M.out Hs.out Hf.out).mono ?_; rintro e w2 ⟨rfl, hm⟩; replace M := Aside0.mk hm; clear hm)
                      | (go_at_call 21; refine (active_is M.out Ha.out).mono ?_; rintro e w2 ⟨rfl, hm⟩; replace M := Aside0.mk hm; clear hm)
                      | (go_at_call 24; refine (isVar_is M.out Hv.out).mono ?_; rintro e w2 ⟨rfl, hm⟩; replace M := Aside0.mk hm; clear hm)
                      | (go_at_call 16; refine (depth_is M.out Hd.out).mono ?_; rintro e w2 ⟨rfl, hm⟩; replace M := Aside0.mk hm; clear hm)
                      | (go_at_call 18; refine (const_is M.out Hb.out Hs.out (by unfold maxLen; omega) (Hcs.out Hz.out)).mono ?_; rintro e w2 ⟨rfl, hm⟩; replace M := Aside0.mk hm; clear hm)
                      | (go_at_call 22; refine (var_is M.out Hb.out Hs.out (by unfold maxLen; omega) Hvr.out).mono ?_; rintro e w2 ⟨rfl, hm⟩; replace M := Aside0.mk hm; replace Ha := Ha2; clear hm))
                  refine ⟨⟨m + 1, _, U, by omega, by go_num, rfl, HU.out, ⟨?_⟩, ⟨M.out.more (by omega)⟩⟩, by simp [intOf]; omega⟩
                  first | exact Hk2.out | (rw [eqb]; exact Hk2.out)
              · obtain ⟨dd, hdd⟩ : ∃ dd, U.scopes.length = dd := ⟨_, rfl⟩
                have Hd := Aside0.mk hdd
                have dz : ((dd : Int) == 0) = false := beq_eq_false_iff_ne.2 (by omega)
                have Hz : Aside0 (U.scopes.length = 0 → False) := ⟨fun e => hz e⟩
                clear hz hdd
                cases kn
                all_goals
                  go_wp2_with (first
                      | (go_at_call 20; refine (count_is M.out Hc.out).mono ?_; rintro e w2 ⟨rfl, hm⟩; replace M := Aside0.mk hm; clear hm)
                      | (go_at_call 23; refine (name_is M.out Hn.out).mono ?_; rintro e w2 ⟨rfl, hm⟩; replace M := Aside0.mk hm; clear hm)
                      | (go_at_call 31; refine (find_is M.out Hs.out Hf.out).mono ?_; rintro e w2 ⟨rfl, hm⟩; replace M := Aside0.mk hm; clear hm)
                      | (go_at_call 21; refine (active_is M.out Ha.out).mono ?_; rintro e w2 ⟨rfl, hm⟩; replace M := Aside0.mk hm; clear hm)
                      | (go_at_call 24; refine (isVar_is M.out Hv.out).mono ?_; rintro e w2 ⟨rfl, hm⟩; replace M := Aside0.mk hm; clear hm)
                      | (go_at_call 16; refine (depth_is M.out Hd.out).mono ?_; rintro e w2 ⟨rfl, hm⟩; replace M := Aside0.mk hm; clear hm)
                      | (go_at_call 18; refine (const_is M.out Hb.out Hs.out (by unfold maxLen; omega) (Hcs.out Hz.out)).mono ?_; rintro e w2 ⟨rfl, hm⟩; replace M := Aside0.mk hm; clear hm)
                      | (go_at_call 22; refine (var_is M.out Hb.out Hs.out (by unfold maxLen; omega) Hvr.out).mono ?_; rintro e w2 ⟨rfl, hm⟩; replace M := Aside0.mk hm; replace Ha := Ha2; clear hm))
                  refine ⟨⟨m + 1, _, U, by omega, by go_num, rfl, HU.out, ⟨?_⟩, ⟨M.out.more (by omega)⟩⟩, by simp [intOf]; omega⟩
                  first | exact Hk2.out | (rw [eqb]; exact Hk2.out)
          | none =>
            have Hv := Aside0.mk (isVar_off hwf hlu hact)
            have Hf := Aside0.mk (show findT U (nameOf U n) = (0, false) by unfold findT; rw [hact])
            have Ha := Aside0.mk (show activeT U n = false by rw [active_at hlu, hact]; rfl)
            have Ha2 := Aside0.mk (active_again hlu)
            have Hvr := Aside0.mk (var_off hwf hlu hact)
            generalize nameOf U n = s at *
            clear hU hact hwf hM
            by_cases hz : U.scopes.length = 0
            · have Hd := Aside0.mk hz
              have Hz := Aside0.mk hz
              clear hz
              cases kn
              all_goals
                go_wp2_with (first
                    | (go_at_call 20; refine (count_is M.out Hc.out).mono ?_; rintro e w2 ⟨rfl, hm⟩; replace M := Aside0.mk hm; clear hm)
                    | (go_at_call 23; refine (name_is M.out Hn.out).mono ?_; rintro e w2 ⟨rfl, hm⟩; replace M := Aside0.mk hm; clear hm)
                    | (go_at_call 31; refine (find_is M.out Hs.out Hf.out).mono ?_; rintro e w2 ⟨rfl, hm⟩; replace M := Aside0.mk hm; clear hm)
                    | (go_at_call 21; refine (active_is M.out Ha.out).mono ?_; rintro e w2 ⟨rfl, hm⟩; replace M := Aside0.mk hm; clear hm)
                    | (go_at_call 24; refine (isVar_is M.out Hv.out).mono ?_; rintro e w2 ⟨rfl, hm⟩; replace M := Aside0.mk hm; clear hm)
                    | (go_at_call 16; refine (depth_is M.out Hd.out).mono ?_; rintro e w2 ⟨rfl, hm⟩; replace M := Aside0.mk hm; clear hm)
                    | (go_at_call 18; refine (const_is M.out Hb.out Hs.out (by unfold maxLen; omega) (Hcs.out Hz.out)).mono ?_; rintro e w2 ⟨rfl, hm⟩; replace M := Aside0.mk hm; clear hm)
                    | (go_at_call 22; refine (var_is M.out Hb.out Hs.out (by unfold maxLen; omega) Hvr.out).mono ?_; rintro e w2 ⟨rfl, hm⟩; replace M := Aside0.mk hm; replace Ha := Ha2; clear hm))
                refine ⟨⟨n + 1, _, (activate U s n), by omega, by go_num, rfl, HU.out, ⟨?_⟩, ⟨M.out.more (by omega)⟩⟩, by simp [intOf]; omega⟩
                first | exact Hk2.out | (rw [eqb]; exact Hk2.out)
            · obtain ⟨dd, hdd⟩ : ∃ dd, U.scopes.length = dd := ⟨_, rfl⟩
              have Hd := Aside0.mk hdd
              have dz : ((dd : Int) == 0) = false := beq_eq_false_iff_ne.2 (by omega)
              have Hz : Aside0 (U.scopes.length = 0 → False) := ⟨fun e => hz e⟩
              clear hz hdd
              cases kn
              all_goals
                go_wp2_with (first
                    | (go_at_call 20; refine (count_is M.out Hc.out).mono ?_; rintro e w2 ⟨rfl, hm⟩; replace M := Aside0.mk hm; clear hm)
                    | (go_at_call 23; refine (name_is M.out Hn.out).mono ?_; rintro e w2 ⟨rfl, hm⟩; replace M := Aside0.mk hm; clear hm)
                    | (go_at_call 31; refine (find_is M.out Hs.out Hf.out).mono ?_; rintro e w2 ⟨rfl, hm⟩; replace M := Aside0.mk hm; clear hm)
                    | (go_at_call 21; refine (active_is M.out Ha.out).mono ?_; rintro e w2 ⟨rfl, hm⟩; replace M := Aside0.mk hm; clear hm)
                    | (go_at_call 24; refine (isVar_is M.out Hv.out).mono ?_; rintro e w2 ⟨rfl, hm⟩; replace M := Aside0.mk hm; clear hm)
                    | (go_at_call 16; refine (depth_is M.out Hd.out).mono ?_; rintro e w2 ⟨rfl, hm⟩; replace M := Aside0.mk hm; clear hm)
                    | (go_at_call 18; refine (const_is M.out Hb.out Hs.out (by unfold maxLen; omega) (Hcs.out Hz.out)).mono ?_; rintro e w2 ⟨rfl, hm⟩; replace M := Aside0.mk hm; clear hm)
                    | (go_at_call 22; refine (var_is M.out Hb.out Hs.out (by unfold maxLen; omega) Hvr.out).mono ?_; rintro e w2 ⟨rfl, hm⟩; replace M := Aside0.mk hm; replace Ha := Ha2; clear hm))
                refine ⟨⟨n + 1, _, (activate U s n), by omega, by go_num, rfl, HU.out, ⟨?_⟩, ⟨M.out.more (by omega)⟩⟩, by simp [intOf]; omega⟩
                first | exact Hk2.out | (rw [eqb]; exact Hk2.out)
        · have hn' : n = T.syms.length := by omega
          have Hc := Aside0.mk (show U.syms.length = T.syms.length by rw [hU])
          have Hf : Aside0 (kn = false → findT U odd = (0, false)) := ⟨fun hk => by
            have h1 := Hk.out
            rw [hn', List.take_of_length_le (Nat.le_refl _)] at h1
            unfold findT
            cases ha : U.act odd with
            | none => rfl
            | some k =>
              have h2 := M.out.wf.act _ _ ha
              rw [hU] at h2
              have h3 := idx_some_iff.1 (show (idx T.syms odd).isSome = true by rw [h2]; rfl)
              have h4 := h1.2 h3
              rw [hk] at h4
              cases h4⟩
          clear hn' hU hM
          cases kn
          · have Hf2 := Aside0.mk (Hf.out rfl)
            go_wp2_with (first
              | (go_at_call 20; refine (count_is M.out Hc.out).mono ?_; rintro e w2 ⟨rfl, hm⟩; replace M := Aside0.mk hm; clear hm)
              | (go_at_call 31; refine (find_is M.out Hodd.out Hf2.out).mono ?_; rintro e w2 ⟨rfl, hm⟩; replace M := Aside0.mk hm; clear hm))
            go_ret
            exact ⟨rfl, M.out.2⟩
          · go_wp2_with (go_at_call 20; refine (count_is M.out Hc.out).mono ?_; rintro e w2 ⟨rfl, hm⟩; replace M := Aside0.mk hm; clear hm)
            go_ret
            exact ⟨rfl, M.out.2⟩
end Go.Proofs.YtpoojimmponklaaDoor.SymFinds
