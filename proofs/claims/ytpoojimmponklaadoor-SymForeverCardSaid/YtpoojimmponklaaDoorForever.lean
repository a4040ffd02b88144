/- SymForever walked. -/
import Derived.Test.YtpoojimmponklaaDoorForeverPure
namespace Go.Proofs.YtpoojimmponklaaDoor.SymForever
open Go.RowKit Go.Maps Go.Proofs.YtpoojimmponklaaDoor.SymTab Go.Proofs.YtpoojimmponklaaDoor.SymHeap Go.Proofs.YtpoojimmponklaaDoor.SymApi Go.Proofs.YtpoojimmponklaaDoor.SymBegun Go.Proofs.YtpoojimmponklaaDoor.SymScan Go.Proofs.YtpoojimmponklaaDoor.SymScript Go.Proofs.YtpoojimmponklaaDoor.SymReads Go.Proofs.YtpoojimmponklaaDoor.SymLists Go.Proofs.YtpoojimmponklaaDoor.SymForeverPure
open Go.Proofs.YtpoojimmponklaaDoor.SymLabels (obox)
open Go.Proofs.YtpoojimmponklaaDoorW.PrintWords (Aside0 Drawn0 own_move)
set_option linter.unusedVariables false
set_option linter.unusedSimpArgs false

theorem str_ne {s t : ByteArray} (h : s ≠ t) : (s.toList == t.toList) = false := by
  rw [beq_eq_false_iff_ne]
  intro e
  exact h (SymLabelsPure.toList_inj.1 e)

set_option maxHeartbeats 8000000 in
set_option maxRecDepth 100000 in
theorem walk {w : World} (hb : Blanks w) (A : Option Addr) (c : Nat) (l : List OpRec) (hl : l.length ≤ 4398046511104) (hs : Script w A l) :
    Calls Tryd.prog 4 #[.slice A l.length c] w fun e w' => e = .returned (.bool true) ∧ Below w.heap.size w w' := by
  have Hb := Lib.hid hb
  have HS := Lib.hid hs
  clear hb hs
  go_enter Tryd.func4, Tryd.ntmps4
  go_wp2_with fail
  refine (begun_calls Hb.out).mono ?_
  rintro e w1 ⟨p, rfl, h1, t1⟩
  have hM := ((Besides.start (Mine.begun h1 t1) Hb.out.lt).lit 9 [.string c0, .string v0] (by simp [maxLen])).lit 4 [.bool false, .bool true] (by simp [maxLen])
  have e1 : (w1.alloc (Obj.cells [Value.string c0, .string v0].toArray 9)).heap.size = w1.heap.size + 1 := by simp
  rw [e1] at hM
  have M2 := Aside0.mk hM
  clear h1 t1 hM e1
  go_wp2_with fail
  go_loopw [5, 6, 7] (fun v5 v6 v7 wr => ∃ (i : Nat) (T : Tab), i ≤ l.length ∧ v7 = .int .i64 i ∧ Aside0 (Besides w wr p (4 + 2 * i) T [⟨4, v6, kinds T⟩, ⟨9, v5, names T⟩])) (fun _ _ v7 _ => l.length - (intOf v7).toNat)
  case atStart => exact ⟨0, T2, by omega, rfl, M2⟩
  case round =>
    clear M2
    obtain ⟨i, T, hi, rfl, M⟩ := hrel
    obtain ⟨A5, c5, e5, hc5⟩ := row_slice (M.out.own (List.mem_cons_of_mem _ (List.mem_cons_self ..)))
    obtain ⟨A6, c6, e6, hc6⟩ := row_slice (M.out.own (List.mem_cons_self ..))
    simp only [names_len, kinds_len] at e5 e6 hc5 hc6
    subst e5 e6
    obtain ⟨C, hC⟩ : ∃ C, T.syms.length = C := ⟨_, rfl⟩
    have hCf := M.out.wf.few
    have hw := Aside0.mk M.out.wf
    have HC := Aside0.mk hC
    rw [hC] at hCf hc5 hc6
    by_cases hlt : i < l.length
    · obtain ⟨a, rfl⟩ := HS.out.some_ (by omega)
      rw [hC] at M ⊢
      go_wp2_with fail
      refine (count_isB M.out HC.out).mono ?_
      rintro e w2 ⟨rfl, hm2⟩
      have M0 := Aside0.mk hm2
      clear hm2 M
      obtain ⟨c1, c2, c3, hx⟩ := (HS.out.below M0.out.1).at_ a i l[i] rfl (List.getElem?_eq_getElem hlt)
      generalize l[i] = x at c1 c2 c3 hx
      have Hx := Aside0.mk hx
      obtain ⟨k, s, n⟩ := x
      simp only at c1 c2 c3
      have M1 := Aside0.mk (M0.out.lit 28 [.int .i64 k, .string s, .int .i64 n] (by simp [maxLen]))
      clear hx
      by_cases h3 : k = 3
      · subst h3
        rcases const_cases T s with ⟨f, hf, hL⟩ | ⟨U, hL, hU, hnew⟩
        · have HL := Aside0.mk hL
          have hf' : ((f : Int) == 0) = false := beq_eq_false_iff_ne.2 (by omega)
          clear hL hC
          go_wp2_with fail
          refine (const_isB Hb.out M1.out Hx.out (by unfold maxLen; omega) HL.out).mono ?_
          rintro e w3 ⟨rfl, hm3⟩
          have M3 := Aside0.mk hm3
          clear hm3 M1 M0 c1 c2 c3 HL
          obtain ⟨b0, b1, b2⟩ := obox M3.out
          go_wp2_with fail
          refine (count_isB M3.out HC.out).mono ?_
          rintro e w4 ⟨rfl, hm4⟩
          have M4 := Aside0.mk hm4
          clear hm4 M3 b0 b1 b2
          go_wp2_with fail
          refine (count_isB M4.out HC.out).mono ?_
          rintro e w5 ⟨rfl, hm5⟩
          have M5 := Aside0.mk hm5
          clear hm5 M4
          go_wp2_with fail
          go_roundw
          case rel => exact ⟨i + 1, T, by omega, by go_num, ⟨M5.out.tail.more (by omega)⟩⟩
          case measure => simp [intOf]; omega
        · rw [hC] at hL
          have HL := Aside0.mk hL
          have HU := Aside0.mk hU
          have Hnew := Aside0.mk hnew
          clear hL hU hnew
          go_wp2_with fail
          refine (const_isB Hb.out M1.out Hx.out (by unfold maxLen; omega) HL.out).mono ?_
          rintro e w3 ⟨rfl, hm3⟩
          have M3 := Aside0.mk hm3
          clear hm3 M1 M0 c1 c2 c3 HL
          obtain ⟨b0, b1, b2⟩ := obox M3.out
          clear b0 b1 b2
          go_wp2_with fail
          go_loopw [16] (fun v16 wq => ∃ j : Nat, j ≤ C ∧ v16 = .int .i64 j ∧ Aside0 (Besides w wq p (4 + 2 * i + 2) U [⟨28, .slice (some ⟨w2.heap.size, 0, none⟩) 3 3, [.int .i64 3, .string s, .int .i64 n]⟩, ⟨4, .slice A6 C c6, kinds T⟩, ⟨9, .slice A5 C c5, names T⟩])) (fun v16 _ => C - (intOf v16).toNat)
          case atStart => exact ⟨0, by omega, rfl, M3⟩
          case round =>
            clear M3
            obtain ⟨j, hj, rfl, M3⟩ := hrel
            by_cases hjlt : j < C
            · obtain ⟨bn, rfl, hcell⟩ := row_at (v := .nilIface) M3.out (List.mem_cons_of_mem _ (List.mem_cons_of_mem _ (List.mem_cons_self ..))) (by rw [names_len, hC]; omega)
              have n0 := hcell j _ (names_at (by omega))
              have hne := str_ne (Hnew.out j (by omega))
              generalize nameOf T j = t at n0 hne
              clear hcell hC
              obtain ⟨b0, b1, b2⟩ := obox M3.out
              go_wp2_with (go_quiet (fail))
              go_roundw
              case rel => exact ⟨j + 1, by omega, by go_num, ⟨M3.out.drawn ⟨_, rfl⟩⟩⟩
              case measure => simp [intOf]; omega
            · have hj' : j = C := by omega
              subst hj'
              have HN := Aside0.mk (names_more HU.out)
              have HK := Aside0.mk (kinds_more HU.out)
              have HC2 := Aside0.mk (show U.syms.length = j + 1 by rw [HU.out, List.length_append, HC.out]; rfl)
              obtain ⟨b0, b1, b2⟩ := obox M3.out
              obtain ⟨i0, hi0, hz0, hz1, hz2⟩ := info_parts SymNew.info9
              have HI := Aside0.mk hi0
              have Hz0 := Aside0.mk hz0
              have Hz1 := Aside0.mk hz1
              have Hz2 := Aside0.mk hz2
              have HM := Aside0.mk ((sub (rows' := [⟨9, .slice A5 j c5, names T⟩, ⟨28, .slice (some ⟨w2.heap.size, 0, none⟩) 3 3, [.int .i64 3, .string s, .int .i64 n]⟩, ⟨4, .slice A6 j c6, kinds T⟩]) M3.out (fun r hr => by simp only [List.mem_cons, List.not_mem_nil, or_false] at hr; rcases hr with rfl | rfl | rfl <;> simp)).alloc (.cells #[.string s] 9))
              have hO := HM.out.own (List.mem_cons_self ..)
              simp only [names_len, hC] at hO
              have HO := Aside0.mk hO
              clear hi0 hz0 hz1 hz2 hO
              have hsz := HM.out.1.size
              go_wp2_with (at_builtin; refine wpList_append_own_at _ rfl (.tmp 93) (.tmp 96) 38 rfl w.heap.size 9 i0 (.string .empty) 1 16 Tryd.underlying38 HI.out Hz0.out Hz1.out Hz2.out rfl (by decide) _ j (names T) rfl HO.out ⟨wr.heap.size, 0, none⟩ 1 1 [.string s] rfl rfl (cell_one_new _ _ _) ?c2 (by unfold maxLen; omega) (by omega) HM.out.1.size ?_)
              case c2 => intro u hu; simp at hu; subst hu; rfl
              intro v5' w5 hown5 hgrow5 hnil5 hat5
              have hb5 := HM.out.appended (fun r hr => by simp only [List.mem_cons, List.not_mem_nil, or_false] at hr; rcases hr with rfl | rfl <;> simp) (by rw [names_len, hC]) hown5 hgrow5 (by simpa using hat5)
              rw [← HN.out] at hb5
              obtain ⟨A7, c7, e7, hc7⟩ := row_slice (hb5.own (List.mem_cons_self ..))
              simp only [names_len, HC2.out] at e7 hc7
              subst e7
              have M5 := Aside0.mk hb5
              obtain ⟨b0, b1, b2⟩ := obox (sub (rows' := [⟨28, .slice (some ⟨w2.heap.size, 0, none⟩) 3 3, [.int .i64 3, .string s, .int .i64 n]⟩]) hb5 (fun r hr => by simp only [List.mem_cons, List.not_mem_nil, or_false] at hr; rcases hr with rfl; simp))
              obtain ⟨i1, hi0, hz0, hz1, hz2⟩ := info_parts bools_info
              have HI := Aside0.mk hi0
              have Hz0 := Aside0.mk hz0
              have Hz1 := Aside0.mk hz1
              have Hz2 := Aside0.mk hz2
              have HM := Aside0.mk ((sub (rows' := [⟨4, .slice A6 j c6, kinds T⟩, ⟨9, .slice A7 (j + 1) c7, names U⟩]) M5.out (fun r hr => by simp only [List.mem_cons, List.not_mem_nil, or_false] at hr; rcases hr with rfl | rfl <;> simp)).alloc (.cells #[.bool false] 4))
              have hO := HM.out.own (List.mem_cons_self ..)
              simp only [kinds_len, hC] at hO
              have HO := Aside0.mk hO
              clear hi0 hz0 hz1 hz2 hO hb5 hown5 hgrow5 hnil5 hat5 M3 hsz
              go_wp2_with (at_builtin; refine wpList_append_own_at _ rfl (.tmp 98) (.tmp 102) 29 rfl w.heap.size 4 i1 (.bool false) 1 1 Tryd.underlying29 HI.out Hz0.out Hz1.out Hz2.out rfl (by decide) _ j (kinds T) rfl HO.out ⟨w5.heap.size, 0, none⟩ 1 1 [.bool false] rfl rfl (cell_one_new _ _ _) ?c2 (by unfold maxLen; omega) (by omega) HM.out.1.size ?_)
              case c2 => intro u hu; simp at hu; subst hu; rfl
              intro v6' w6 hown6 hgrow6 hnil6 hat6
              have hb6 := HM.out.appended (fun r hr => by simp only [List.mem_cons, List.not_mem_nil, or_false] at hr; rcases hr with rfl; simp) (by rw [kinds_len, hC]) hown6 hgrow6 (by simpa using hat6)
              rw [← HK.out] at hb6
              have M6 := Aside0.mk hb6
              clear hb6 hown6 hgrow6 hnil6 hat6 HM HO HI Hz0 Hz1 Hz2 M5 b0 b1 b2 hC
              go_wp2_with fail
              refine (count_isB M6.out HC2.out).mono ?_
              rintro e w7 ⟨rfl, hm7⟩
              have M7 := Aside0.mk hm7
              clear hm7 M6
              go_wp2_with fail
              go_roundw
              case rel => exact ⟨i + 1, U, by omega, by go_num, ⟨M7.out.more (by omega)⟩⟩
              case measure => simp [intOf]; omega
      · by_cases h4 : k = 4
        · subst h4
          rcases var_cases hw.out s with ⟨f, hf, hL⟩ | ⟨U, hL, hU, hnew⟩ | ⟨U, m, hL, hm, hU, hnm, hkd⟩
          · have HL := Aside0.mk hL
            have hf' : ((f : Int) == 0) = false := beq_eq_false_iff_ne.2 (by omega)
            clear hL hC
            go_wp2_with fail
            refine (var_isB Hb.out M1.out Hx.out (by unfold maxLen; omega) HL.out).mono ?_
            rintro e w3 ⟨rfl, hm3⟩
            have M3 := Aside0.mk hm3
            clear hm3 M1 M0 c1 c2 c3 HL
            obtain ⟨b0, b1, b2⟩ := obox M3.out
            go_wp2_with fail
            refine (count_isB M3.out HC.out).mono ?_
            rintro e w4 ⟨rfl, hm4⟩
            have M4 := Aside0.mk hm4
            clear hm4 M3 b0 b1 b2
            go_wp2_with fail
            refine (count_isB M4.out HC.out).mono ?_
            rintro e w5 ⟨rfl, hm5⟩
            have M5 := Aside0.mk hm5
            clear hm5 M4
            go_wp2_with fail
            go_roundw
            case rel => exact ⟨i + 1, T, by omega, by go_num, ⟨M5.out.tail.more (by omega)⟩⟩
            case measure => simp [intOf]; omega
          · rw [hC] at hL
            have HL := Aside0.mk hL
            have HU := Aside0.mk hU
            have Hnew := Aside0.mk hnew
            clear hL hU hnew
            go_wp2_with fail
            refine (var_isB Hb.out M1.out Hx.out (by unfold maxLen; omega) HL.out).mono ?_
            rintro e w3 ⟨rfl, hm3⟩
            have M3 := Aside0.mk hm3
            clear hm3 M1 M0 c1 c2 c3 HL
            obtain ⟨b0, b1, b2⟩ := obox M3.out
            clear b0 b1 b2
            go_wp2_with fail
            go_loopw [16] (fun v16 wq => ∃ j : Nat, j ≤ C ∧ v16 = .int .i64 j ∧ Aside0 (Besides w wq p (4 + 2 * i + 2) U [⟨28, .slice (some ⟨w2.heap.size, 0, none⟩) 3 3, [.int .i64 4, .string s, .int .i64 n]⟩, ⟨4, .slice A6 C c6, kinds T⟩, ⟨9, .slice A5 C c5, names T⟩])) (fun v16 _ => C - (intOf v16).toNat)
            case atStart => exact ⟨0, by omega, rfl, M3⟩
            case round =>
              clear M3
              obtain ⟨j, hj, rfl, M3⟩ := hrel
              by_cases hjlt : j < C
              · obtain ⟨bn, rfl, hcell⟩ := row_at (v := .nilIface) M3.out (List.mem_cons_of_mem _ (List.mem_cons_of_mem _ (List.mem_cons_self ..))) (by rw [names_len, hC]; omega)
                have n0 := hcell j _ (names_at (by omega))
                have hne := str_ne (Hnew.out j (by omega))
                generalize nameOf T j = t at n0 hne
                clear hcell hC
                obtain ⟨b0, b1, b2⟩ := obox M3.out
                go_wp2_with (go_quiet (fail))
                go_roundw
                case rel => exact ⟨j + 1, by omega, by go_num, ⟨M3.out.drawn ⟨_, rfl⟩⟩⟩
                case measure => simp [intOf]; omega
              · have hj' : j = C := by omega
                subst hj'
                have HN := Aside0.mk (names_more HU.out)
                have HK := Aside0.mk (kinds_more HU.out)
                have HC2 := Aside0.mk (show U.syms.length = j + 1 by rw [HU.out, List.length_append, HC.out]; rfl)
                obtain ⟨b0, b1, b2⟩ := obox M3.out
                obtain ⟨i0, hi0, hz0, hz1, hz2⟩ := info_parts SymNew.info9
                have HI := Aside0.mk hi0
                have Hz0 := Aside0.mk hz0
                have Hz1 := Aside0.mk hz1
                have Hz2 := Aside0.mk hz2
                have HM := Aside0.mk ((sub (rows' := [⟨9, .slice A5 j c5, names T⟩, ⟨28, .slice (some ⟨w2.heap.size, 0, none⟩) 3 3, [.int .i64 4, .string s, .int .i64 n]⟩, ⟨4, .slice A6 j c6, kinds T⟩]) M3.out (fun r hr => by simp only [List.mem_cons, List.not_mem_nil, or_false] at hr; rcases hr with rfl | rfl | rfl <;> simp)).alloc (.cells #[.string s] 9))
                have hO := HM.out.own (List.mem_cons_self ..)
                simp only [names_len, hC] at hO
                have HO := Aside0.mk hO
                clear hi0 hz0 hz1 hz2 hO
                have hsz := HM.out.1.size
                go_wp2_with (at_builtin; refine wpList_append_own_at _ rfl (.tmp 93) (.tmp 96) 38 rfl w.heap.size 9 i0 (.string .empty) 1 16 Tryd.underlying38 HI.out Hz0.out Hz1.out Hz2.out rfl (by decide) _ j (names T) rfl HO.out ⟨wr.heap.size, 0, none⟩ 1 1 [.string s] rfl rfl (cell_one_new _ _ _) ?c2 (by unfold maxLen; omega) (by omega) HM.out.1.size ?_)
                case c2 => intro u hu; simp at hu; subst hu; rfl
                intro v5' w5 hown5 hgrow5 hnil5 hat5
                have hb5 := HM.out.appended (fun r hr => by simp only [List.mem_cons, List.not_mem_nil, or_false] at hr; rcases hr with rfl | rfl <;> simp) (by rw [names_len, hC]) hown5 hgrow5 (by simpa using hat5)
                rw [← HN.out] at hb5
                obtain ⟨A7, c7, e7, hc7⟩ := row_slice (hb5.own (List.mem_cons_self ..))
                simp only [names_len, HC2.out] at e7 hc7
                subst e7
                have M5 := Aside0.mk hb5
                obtain ⟨b0, b1, b2⟩ := obox (sub (rows' := [⟨28, .slice (some ⟨w2.heap.size, 0, none⟩) 3 3, [.int .i64 4, .string s, .int .i64 n]⟩]) hb5 (fun r hr => by simp only [List.mem_cons, List.not_mem_nil, or_false] at hr; rcases hr with rfl; simp))
                obtain ⟨i1, hi0, hz0, hz1, hz2⟩ := info_parts bools_info
                have HI := Aside0.mk hi0
                have Hz0 := Aside0.mk hz0
                have Hz1 := Aside0.mk hz1
                have Hz2 := Aside0.mk hz2
                have HM := Aside0.mk ((sub (rows' := [⟨4, .slice A6 j c6, kinds T⟩, ⟨9, .slice A7 (j + 1) c7, names U⟩]) M5.out (fun r hr => by simp only [List.mem_cons, List.not_mem_nil, or_false] at hr; rcases hr with rfl | rfl <;> simp)).alloc (.cells #[.bool true] 4))
                have hO := HM.out.own (List.mem_cons_self ..)
                simp only [kinds_len, hC] at hO
                have HO := Aside0.mk hO
                clear hi0 hz0 hz1 hz2 hO hb5 hown5 hgrow5 hnil5 hat5 M3 hsz
                go_wp2_with (at_builtin; refine wpList_append_own_at _ rfl (.tmp 98) (.tmp 102) 29 rfl w.heap.size 4 i1 (.bool false) 1 1 Tryd.underlying29 HI.out Hz0.out Hz1.out Hz2.out rfl (by decide) _ j (kinds T) rfl HO.out ⟨w5.heap.size, 0, none⟩ 1 1 [.bool true] rfl rfl (cell_one_new _ _ _) ?c2 (by unfold maxLen; omega) (by omega) HM.out.1.size ?_)
                case c2 => intro u hu; simp at hu; subst hu; rfl
                intro v6' w6 hown6 hgrow6 hnil6 hat6
                have hb6 := HM.out.appended (fun r hr => by simp only [List.mem_cons, List.not_mem_nil, or_false] at hr; rcases hr with rfl; simp) (by rw [kinds_len, hC]) hown6 hgrow6 (by simpa using hat6)
                rw [← HK.out] at hb6
                have M6 := Aside0.mk hb6
                clear hb6 hown6 hgrow6 hnil6 hat6 HM HO HI Hz0 Hz1 Hz2 M5 b0 b1 b2 hC
                go_wp2_with fail
                refine (count_isB M6.out HC2.out).mono ?_
                rintro e w7 ⟨rfl, hm7⟩
                have M7 := Aside0.mk hm7
                clear hm7 M6
                go_wp2_with fail
                go_roundw
                case rel => exact ⟨i + 1, U, by omega, by go_num, ⟨M7.out.more (by omega)⟩⟩
                case measure => simp [intOf]; omega
          · rw [hC] at hm
            have HL := Aside0.mk hL
            have HU := Aside0.mk hU
            have hmC : ((m : Int) == (C : Int)) = false := beq_eq_false_iff_ne.2 (by omega)
            clear hL hU
            go_wp2_with fail
            refine (var_isB Hb.out M1.out Hx.out (by unfold maxLen; omega) HL.out).mono ?_
            rintro e w3 ⟨rfl, hm3⟩
            have M3 := Aside0.mk hm3
            clear hm3 M1 M0 c1 c2 c3 HL
            obtain ⟨b0, b1, b2⟩ := obox M3.out
            obtain ⟨bn, rfl, hcell⟩ := row_at (v := .nilIface) M3.out (List.mem_cons_of_mem _ (List.mem_cons_of_mem _ (List.mem_cons_self ..))) (by rw [names_len, hC]; omega)
            obtain ⟨bk, rfl, hcellk⟩ := row_at (v := .nilIface) M3.out (List.mem_cons_of_mem _ (List.mem_cons_self ..)) (by rw [kinds_len, hC]; omega)
            have n0 := hcell m _ (by rw [names_at (by omega), hnm])
            have k0 := hcellk m _ (by rw [kinds_at (by omega), hkd])
            have HC2 := Aside0.mk (show U.syms.length = C by rw [HU.out, HC.out])
            have g1 : decide ((m : Int) < 0) = false := decide_eq_false (by omega)
            have g2 : decide ((m : Int) > (C : Int)) = false := decide_eq_false (by omega)
            have g4 : decide (C < m) = false := decide_eq_false (by omega)
            have g5 : ¬ C < m := by omega
            have g3 : decide ((C : Int) < (m : Int)) = false := decide_eq_false (by omega)
            clear hcell hcellk hC hnm hkd
            go_wp2_with fail
            go_quiet (fail)
            have M4 := Aside0.mk (M3.out.tail.drawn ⟨_, rfl⟩ : Besides w (w3.drewN nq) _ _ _ _)
            clear M3 b0 b1 b2 n0 k0
            go_wp2_with fail
            refine (count_isB M4.out HC2.out).mono ?_
            rintro e w7 ⟨rfl, hm7⟩
            have M7 := Aside0.mk hm7
            clear hm7 M4
            go_wp2_with fail
            go_roundw
            case rel => exact ⟨i + 1, U, by omega, by go_num, ⟨by rw [names_same HU.out, kinds_same HU.out]; exact M7.out.more (by omega)⟩⟩
            case measure => simp [intOf]; omega
        · have Hdo := Aside0.mk (do_syms T k s h3 h4)
          have hk3 : (k == 3) = false := beq_eq_false_iff_ne.2 h3
          have hk4 : (k == 4) = false := beq_eq_false_iff_ne.2 h4
          clear hC
          go_wp2_with fail
          refine (does_isB Hb.out M1.out.tail ⟨k, s, n⟩ Hx.out (by unfold maxLen; omega)).mono ?_
          rintro e w3 ⟨rfl, hm3⟩
          have M3 := Aside0.mk hm3
          have HC3 := Aside0.mk (show (doT T k s).syms.length = C by rw [Hdo.out, HC.out])
          clear hm3 M1 M0 c1 c2 c3
          go_wp2_with fail
          refine (count_isB M3.out HC3.out).mono ?_
          rintro e w4 ⟨rfl, hm4⟩
          have M4 := Aside0.mk hm4
          clear hm4 M3
          go_wp2_with fail
          go_roundw
          case rel => exact ⟨i + 1, _, by omega, by go_num, ⟨by rw [names_same Hdo.out, kinds_same Hdo.out]; exact M4.out.more (by omega)⟩⟩
          case measure => simp [intOf]; omega
    · have hi' : i = l.length := by omega
      rw [hC] at M ⊢
      clear hlt
      go_wp2_with fail
      go_loopw [17] (fun v17 wq => ∃ j : Nat, j ≤ C ∧ v17 = .int .i64 j ∧ Aside0 (Besides w wq p (4 + 2 * i) T [⟨4, .slice A6 C c6, kinds T⟩, ⟨9, .slice A5 C c5, names T⟩])) (fun v17 _ => C - (intOf v17).toNat)
      case atStart => exact ⟨0, by omega, rfl, M⟩
      case round =>
        clear M
        obtain ⟨j, hj, rfl, M⟩ := hrel
        by_cases hjlt : j < C
        · obtain ⟨bn, rfl, hn⟩ := row_at (v := .nilIface) M.out (List.mem_cons_of_mem _ (List.mem_cons_self ..)) (by rw [names_len, hC]; omega)
          obtain ⟨bk, rfl, hk⟩ := row_at (v := .nilIface) M.out (List.mem_cons_self ..) (by rw [kinds_len, hC]; omega)
          have Nat_ := Aside0.mk (names_at (T := T) (n := j) (by omega))
          have Kat_ := Aside0.mk (kinds_at (T := T) (n := j) (by omega))
          have Hnm := Aside0.mk (name_at (T := T) (n := j) (by omega))
          have Hiv := Aside0.mk (isVar_at (T := T) (n := j) (by omega))
          have n0 := hn _ _ Nat_.out
          have k0 := hk _ _ Kat_.out
          generalize nameOf T j = s at *
          generalize (T.syms.getD j (ByteArray.empty, false)).2 = b at *
          have hpos : 0 < T.syms.length := by omega
          have Hpn := Aside0.mk (show 0 < (names T).length by rw [names_len]; exact hpos)
          have Hpk := Aside0.mk (show 0 < (kinds T).length by rw [kinds_len]; exact hpos)
          clear hn hk hC hpos
          go_wp2_with fail
          go_quiet (first
            | (go_at_call 23; exact name_quiet M.out Hnm.out _)
            | (go_at_call 24; exact isVar_quiet M.out Hiv.out _))
          have M' := Aside0.mk (M.out.drawn ⟨_, rfl⟩ : Besides w (wr.drewN nq) _ _ _ _)
          clear M
          go_wp2_with fail
          go_roundw
          case rel => exact ⟨j + 1, by omega, by go_num, M'⟩
          case measure => simp [intOf]; omega
        · have hj' : j = C := by omega
          have Hn1 := Aside0.mk (show nameT T (-1) = ByteArray.empty from rfl)
          have Hn2 := Aside0.mk (show nameT T (C : Int) = ByteArray.empty from by rw [← hC]; unfold nameT there; simp)
          have Hv1 := Aside0.mk (show isVarT T (-1) = false from rfl)
          have Hv2 := Aside0.mk (show isVarT T (C : Int) = false from by rw [← hC]; unfold isVarT there; simp)
          have Ha1 := Aside0.mk (show activeT T (-1) = false from rfl)
          have Ha2 := Aside0.mk (show activeT T (C : Int) = false from by rw [← hC]; unfold activeT there; simp)
          clear hC
          go_wp2_with fail
          refine (name_isB M.out Hn1.out).mono ?_
          rintro e w2 ⟨rfl, hm⟩
          replace M := Aside0.mk hm
          clear hm
          go_wp2_with fail
          refine (name_isB M.out Hn2.out).mono ?_
          rintro e w2 ⟨rfl, hm⟩
          replace M := Aside0.mk hm
          clear hm
          go_wp2_with fail
          refine (isVar_isB M.out Hv1.out).mono ?_
          rintro e w2 ⟨rfl, hm⟩
          replace M := Aside0.mk hm
          clear hm
          go_wp2_with fail
          refine (isVar_isB M.out Hv2.out).mono ?_
          rintro e w2 ⟨rfl, hm⟩
          replace M := Aside0.mk hm
          clear hm
          go_wp2_with fail
          refine (active_isB M.out Ha1.out).mono ?_
          rintro e w2 ⟨rfl, hm⟩
          replace M := Aside0.mk hm
          clear hm
          go_wp2_with fail
          refine (active_isB M.out Ha2.out).mono ?_
          rintro e w2 ⟨rfl, hm⟩
          replace M := Aside0.mk hm
          clear hm
          go_wp2_with fail
          go_ret
          exact ⟨rfl, M.out.1⟩
end Go.Proofs.YtpoojimmponklaaDoor.SymForever
