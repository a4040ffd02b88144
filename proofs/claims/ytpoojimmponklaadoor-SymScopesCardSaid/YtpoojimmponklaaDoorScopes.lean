/- SymScopes walked. -/
import Derived.Test.YtpoojimmponklaaDoorScopesPure
import Derived.Test.YtpoojimmponklaaDoorStates
namespace Go.Proofs.YtpoojimmponklaaDoor.SymScopes
open Go.RowKit Go.Maps Go.Proofs.YtpoojimmponklaaDoor.SymTab Go.Proofs.YtpoojimmponklaaDoor.SymHeap Go.Proofs.YtpoojimmponklaaDoor.SymApi Go.Proofs.YtpoojimmponklaaDoor.SymBegun Go.Proofs.YtpoojimmponklaaDoor.SymScan Go.Proofs.YtpoojimmponklaaDoor.SymScript Go.Proofs.YtpoojimmponklaaDoor.SymReads Go.Proofs.YtpoojimmponklaaDoor.SymBeside Go.Proofs.YtpoojimmponklaaDoor.SymStates
open Go.Proofs.YtpoojimmponklaaDoorW.PrintWords (Aside0 Drawn0 own_move)
set_option linter.unusedVariables false
set_option linter.unusedSimpArgs false

theorem beside {w0 w w1 : World} {p g : Nat} {T : Tab} (h : Mine w0 w p g T) (h0 : 0 < w0.heap.size) (hb : Below w.heap.size w w1) :
    MineF w0.heap.size (fun k => w0.heap.size ≤ k ∧ k < w.heap.size) w1 w1 p g T :=
  ⟨(h.1.bound.move (fun k hk => hb.block k hk.2)).mono (fun k hk => .inl hk), Turns.refl _ _, fun k hk => hk.1, Nat.le_trans h.2.size hb.size, h0⟩

theorem const_in {U : Tab} {s : ByteArray} (h : U.scopes ≠ []) : constT U s = (U, 0, 23) := by
  unfold constT
  rw [if_pos (List.length_pos_iff.2 h)]

theorem within_do {T U : Tab} {ex : List (List Nat)} (h : Within T U ex) (hex : ex ≠ []) (k : Int) (s : ByteArray) (hk : k = 2 → ex.length ≠ 1) : ∃ ex', Within T (doT U k s) ex' ∧ ex' ≠ [] := by
  unfold doT
  split
  · obtain ⟨ex', h1, h2⟩ := within_open h
    exact ⟨ex', h1, fun e => by subst e; simp at h2; exact hex h2⟩
  · split
    · rename_i h2
      have h3 := hk (by omega)
      rcases List.eq_nil_or_concat ex with e | ⟨a, b, e⟩
      · exact absurd e hex
      · rw [List.concat_eq_append] at e
        subst e
        refine ⟨a, (within_close h).1, fun e => ?_⟩
        subst e
        simp at h3
    · split
      · rw [const_in (by rw [h.scopes]; simp [hex])]
        exact ⟨ex, h, hex⟩
      · split
        · obtain ⟨ex', h1, h2⟩ := within_var h hex s
          exact ⟨ex', h1, fun e => by subst e; exact hex (List.eq_nil_of_length_eq_zero h2.symm)⟩
        · split
          · exact ⟨ex, within_label h s, hex⟩
          · exact ⟨ex, h, hex⟩

/-- What was told ahead lies where it lay. -/
theorem was_at {N : Nat} {F : Nat → Prop} {ws w' : World} {p g Z n cap : Nat} {U : Tab} {A : Option Addr} {xs : List Value} (h : MineF N F ws w' p g U) (hr : ws.ownsRow Z 4 1 (.slice A n cap) n xs) (hF : ∀ k, F k → k < Z) (hn : 0 < n) :
    ∃ b, A = some ⟨b, 0, none⟩ ∧ ∀ j u, xs[j]? = some u → w'.cell? ⟨b, j, none⟩ = some u := by
  have h2 := h.row hr (fun k hk e => by have := hF k e; have := (hr.lt k hk).1; omega)
  obtain ⟨b, c, e, _, hc, _⟩ := row_some h2 hn
  simp only [Value.slice.injEq] at e
  exact ⟨b, e.1, hc⟩

set_option maxHeartbeats 8000000 in
set_option maxRecDepth 100000 in
theorem walk {w : World} (hb : Blanks w) (A : Option Addr) (c : Nat) (l : List OpRec) (hl : l.length ≤ 4398046511104) (hs : Script w A l) (B : Option Addr) (d : Nat) (m : List OpRec) (hm : m.length ≤ 4398046511104) (ht : Script w B m) :
    Calls Tryd.prog 3 #[.slice A l.length c, .slice B m.length d] w fun e w' => e = .returned (.bool true) ∧ Below w.heap.size w w' := by
  have Hb := Lib.hid hb
  have HS := Lib.hid hs
  have HT := Lib.hid ht
  clear hb hs ht
  go_enter Tryd.func3, Tryd.ntmps3
  go_wp2_with fail
  refine (begun_calls Hb.out).mono ?_
  rintro e w1 ⟨p, rfl, h1, t1⟩
  have M1 := Aside0.mk (Mine.begun h1 t1)
  clear h1 t1
  go_wp2_with fail
  go_loopw [7] (fun v7 wr => ∃ i : Nat, i ≤ l.length ∧ v7 = .int .i64 i ∧ Aside0 (Mine w wr p (4 + 2 * i) (run T2 (l.take i)))) (fun v7 _ => l.length - (intOf v7).toNat)
  case atStart => exact ⟨0, by omega, rfl, M1⟩
  case round =>
    clear M1
    obtain ⟨i, hi, rfl, M⟩ := hrel
    by_cases hlt : i < l.length
    · obtain ⟨a, rfl⟩ := HS.out.some_ (by omega)
      obtain ⟨c1, c2, c3, hx⟩ := (HS.out.below M.out.2).at_ a i l[i] rfl (List.getElem?_eq_getElem hlt)
      have ht := run_take (T := T2) hlt
      generalize l[i] = x at c1 c2 c3 hx ht
      have Ht := Lib.hid ht
      have hd := does_calls (M.out.blanks Hb.out) M.out.1 x.k x.s x.n hx (by unfold maxLen; omega)
      have Hd := Lib.hid hd
      clear ht hd hx
      go_wp2_with fail
      refine Hd.out.mono ?_
      rintro e w2 ⟨rfl, hd2⟩
      have M2 := Aside0.mk (M.out.does hd2)
      clear M Hd hd2 c1 c2 c3
      go_wp2_with fail
      go_roundw
      case rel => exact ⟨i + 1, by omega, by go_num, by rw [Ht.out]; exact M2⟩
      case measure => simp [intOf]; omega
    · have hi' : i = l.length := by omega
      have hM := M.out
      rw [List.take_of_length_le (by omega)] at hM
      obtain ⟨T, hT⟩ : ∃ T, T = run T2 l := ⟨_, rfl⟩
      rw [← hT] at hM
      obtain ⟨g, hg, hM⟩ : ∃ g, g ≤ 8796093022300 ∧ Mine w wr p g T := ⟨4 + 2 * i, by omega, hM⟩
      have M' := Aside0.mk hM
      clear hM M hi' hT
      clear hi
      go_wp2_with fail
      have hst := states_calls M'.out.1
      have Hst := Aside0.mk hst
      clear hst
      refine Hst.out.mono ?_
      rintro e ws ⟨v, rfl, hrow, hbel⟩
      obtain ⟨Z, F, hm2, hF, hrow⟩ : ∃ (Z : Nat) (F : Nat → Prop), MineF w.heap.size F ws ws p g T ∧ (∀ k, F k → k < Z) ∧ ws.ownsRow Z 4 1 v T.syms.length (acts T T.syms.length) :=
        ⟨_, _, beside M'.out Hb.out.lt hbel, fun k hk => hk.2, hrow⟩
      have HR := Aside0.mk hrow
      have M2 := Aside0.mk hm2
      have HF := Aside0.mk hF
      have Hbs := Aside0.mk ((M'.out.blanks Hb.out).move (hbel.block 0 (Nat.lt_of_lt_of_le Hb.out.lt M'.out.2.size)))
      have HE := Aside0.mk (M'.out.2.trans (hbel.mono M'.out.2.size))
      clear Hst hrow hbel hm2 hF
      go_wp2_with fail
      obtain ⟨A2, cap, e, _⟩ := row_slice HR.out
      subst e
      have hwf := M2.out.wf
      have hdeep := hwf.deep
      have hfew := hwf.few
      obtain ⟨D, hD⟩ : ∃ D, T.scopes.length = D := ⟨_, rfl⟩
      have HD := Aside0.mk hD
      rw [hD] at hdeep
      clear M' hlt
      refine (depth_isF M2.out HD.out).mono ?_
      rintro e w3 ⟨rfl, hm3⟩
      have M3 := Aside0.mk hm3
      clear hm3
      by_cases h16 : D = 16
      · subst h16
        have Ho := Aside0.mk (show openS T = (T, 23) by unfold openS; rw [if_pos (by omega)])
        clear hD hwf
        go_wp2_with fail
        refine (open_isF M3.out Ho.out).mono ?_
        rintro e w4 ⟨rfl, hm4⟩
        have M4 := Aside0.mk hm4
        clear hm4
        go_wp2_with fail
        refine (depth_isF M4.out HD.out).mono ?_
        rintro e w5 ⟨rfl, hm5⟩
        have M5 := Aside0.mk hm5
        clear hm5
        go_wp2_with fail
        go_ret
        exact ⟨rfl, HE.out.trans M5.out.below⟩
      · obtain ⟨ho1, ho2⟩ := within_start hwf (by omega)
        obtain ⟨U1, hU1⟩ : ∃ U, U = (openS T).1 := ⟨_, rfl⟩
        rw [← hU1] at ho1
        have Ho := Aside0.mk (show openS T = (U1, 0) by rw [hU1, ← ho2])
        have HW1 := Aside0.mk ho1
        have HD1 := Aside0.mk (show U1.scopes.length = D + 1 by rw [ho1.scopes, List.length_append, hD]; rfl)
        have dz : ((D : Int) == 16) = false := beq_eq_false_iff_ne.2 (by omega)
        have HWF := Aside0.mk hwf
        clear hD hwf ho1 ho2 hU1
        go_wp2_with fail
        refine (open_isF M3.out Ho.out).mono ?_
        rintro e w4 ⟨rfl, hm4⟩
        have M4 := Aside0.mk hm4
        clear hm4
        go_wp2_with fail
        refine (depth_isF M4.out HD1.out).mono ?_
        rintro e w5 ⟨rfl, hm5⟩
        have M5 := Aside0.mk hm5
        clear hm5 M3 M4
        clear dz h16
        go_wp2_with fail
        go_loopw [11] (fun v11 wr2 => ∃ (j : Nat) (U : Tab) (ex : List (List Nat)), j ≤ m.length ∧ v11 = .int .i64 j ∧ Aside0 (MineF w.heap.size F ws wr2 p (g + 2 * j) U) ∧ Aside0 (Within T U ex) ∧ ex ≠ []) (fun v11 _ => m.length - (intOf v11).toNat)
        case atStart => exact ⟨0, U1, [[]], by omega, rfl, M5, HW1, by simp⟩
        case round =>
          clear M5
          obtain ⟨j, U, ex, hj, rfl, M, HW, hex⟩ := hrel
          by_cases hlt : j < m.length
          · obtain ⟨a, rfl⟩ := HT.out.some_ (by omega)
            have hsc := HT.out.below (HE.out.trans M.out.below)
            obtain ⟨c1, c2, c3, hx⟩ := hsc.at_ a j m[j] rfl (List.getElem?_eq_getElem hlt)
            generalize m[j] = x at c1 c2 c3 hx
            have Hx := Aside0.mk hx
            clear hsc hx
            have M1 := Aside0.mk (M.out.alloc (Obj.cells #[Value.int IntKind.i64 x.k, Value.string x.s, Value.int IntKind.i64 x.n] 28))
            have hsl : U.scopes.length = D + ex.length := by rw [HW.out.scopes, List.length_append, HD.out]
            have Hsl := Aside0.mk hsl
            have hex1 : 0 < ex.length := List.length_pos_iff.2 hex
            by_cases hk2 : x.k = 2
            · obtain ⟨kk, ks, kn⟩ := x
              cases hk2
              by_cases he1 : ex.length = 1
              · have Hsl1 := Aside0.mk (show U.scopes.length = D + 1 by omega)
                clear hsl hex1 he1
                go_wp2_with fail
                refine (depth_isF M1.out Hsl1.out).mono ?_
                rintro e w2 ⟨rfl, hm2⟩
                have M2' := Aside0.mk hm2
                clear hm2 M1 M
                go_wp2_with fail
                go_roundw
                case rel => exact ⟨j + 1, U, ex, by omega, by go_num, ⟨M2'.out.more (by omega)⟩, HW, hex⟩
                case measure => simp [intOf]; omega
              · obtain ⟨ex', hw', hex'⟩ := within_do HW.out hex 2 ks (fun _ => he1)
                have HW' := Aside0.mk hw'
                obtain ⟨L, hL⟩ : ∃ L, U.scopes.length = L := ⟨_, rfl⟩
                have HL := Aside0.mk hL
                have dz : ((L : Int) == (D : Int) + 1) = false := beq_eq_false_iff_ne.2 (by omega)
                clear hsl hex1 he1 hw' hL
                go_wp2_with fail
                refine (depth_calls M1.out.1).mono ?_
                rintro e w2 ⟨rfl, hdr⟩
                have M2' := Aside0.mk (M1.out.drawn hdr)
                have hc : ∀ i, w2.cell? ⟨wr.heap.size, i, none⟩ = #[Value.int IntKind.i64 2, Value.string ks, Value.int IntKind.i64 kn][i]? := by
                  obtain ⟨n, rfl⟩ := hdr
                  exact fun i => (cell_at (w := wr.alloc (Obj.cells #[Value.int IntKind.i64 2, Value.string ks, Value.int IntKind.i64 kn] 28)) (heap_alloc_new _ _) i).1
                have b0 := hc 0
                have b1 := hc 1
                have b2 := hc 2
                simp only [List.getElem?_toArray, List.getElem?_cons_zero, List.getElem?_cons_succ] at b0 b1 b2
                clear hdr M1 M hc
                rw [HL.out]
                go_wp2_with fail
                refine (does_isF M2'.out Hbs.out ⟨2, ks, kn⟩ Hx.out (by unfold maxLen; omega)).mono ?_
                rintro e w3 ⟨rfl, hm3⟩
                have M3' := Aside0.mk hm3
                clear hm3 M2' b0 b1 b2
                go_wp2_with fail
                go_roundw
                case rel => exact ⟨j + 1, _, ex', by omega, by go_num, ⟨M3'.out.more (by omega)⟩, HW', hex'⟩
                case measure => simp [intOf]; omega
            · by_cases hk3 : x.k = 3
              · obtain ⟨kk, ks, kn⟩ := x
                cases hk3
                have Hc := Aside0.mk (show constT U ks = (U, 0, 23) from const_in (List.ne_nil_of_length_pos (by omega)))
                clear hsl hex1 hk2
                go_wp2_with fail
                refine (const_isF M1.out Hbs.out Hx.out (by unfold maxLen; omega) Hc.out).mono ?_
                rintro e w2 ⟨rfl, hm2⟩
                have M2' := Aside0.mk hm2
                clear hm2 M1 M
                go_wp2_with fail
                go_roundw
                case rel => exact ⟨j + 1, U, ex, by omega, by go_num, ⟨M2'.out.more (by omega)⟩, HW, hex⟩
                case measure => simp [intOf]; omega
              · obtain ⟨ex', hw', hex'⟩ := within_do HW.out hex x.k x.s (fun h => absurd h hk2)
                have HW' := Aside0.mk hw'
                have k2 : (x.k == 2) = false := beq_eq_false_iff_ne.2 hk2
                have k3 : (x.k == 3) = false := beq_eq_false_iff_ne.2 hk3
                clear hsl hex1 hw'
                go_wp2_with fail
                refine (does_isF M1.out Hbs.out x Hx.out (by unfold maxLen; omega)).mono ?_
                rintro e w2 ⟨rfl, hm2⟩
                have M2' := Aside0.mk hm2
                clear hm2 M1 M
                go_wp2_with fail
                go_roundw
                case rel => exact ⟨j + 1, _, ex', by omega, by go_num, ⟨M2'.out.more (by omega)⟩, HW', hex'⟩
                case measure => simp [intOf]; omega
          · have hj' : j = m.length := by omega
            obtain ⟨g2, hg2, hM2⟩ : ∃ g, g ≤ 17592186044600 ∧ MineF w.heap.size F ws wr p g U := ⟨g + 2 * j, by omega, M.out⟩
            have M6 := Aside0.mk hM2
            have Hsl := Aside0.mk (show U.scopes.length = D + ex.length by rw [HW.out.scopes, List.length_append, HD.out])
            clear hM2 M hex
            go_wp2_with fail
            refine (depth_isF M6.out Hsl.out).mono ?_
            rintro e w6 ⟨rfl, hm6⟩
            have M7 := Aside0.mk hm6
            clear hm6 M6
            go_wp2_with fail
            go_loopw [10, 15] (fun v10 v15 wq => ∃ (U : Tab) (ex : List (List Nat)), v15 = .int .i64 ((D + ex.length : Nat) : Int) ∧ Aside0 (MineF w.heap.size F ws wq p g2 U) ∧ Aside0 (Within T U ex)) (fun _ v15 _ => (intOf v15).toNat - D)
            case atStart => exact ⟨U, ex, rfl, M7, HW⟩
            case round =>
              clear M7 HW Hsl
              obtain ⟨U, ex, rfl, M, HW⟩ := hrel
              rcases List.eq_nil_or_concat ex with e | ⟨a, b, e⟩
              · subst e
                obtain ⟨C, hC⟩ : ∃ C, U.syms.length = C := ⟨_, rfl⟩
                have HC := Aside0.mk hC
                have hle := M.out.wf.few
                rw [hC] at hle
                have hge : T.syms.length ≤ C := by
                  obtain ⟨more, hm⟩ := HW.out.syms
                  rw [← hC, hm, List.length_append]
                  omega
                clear hlt hC
                rw [show D + ([] : List (List Nat)).length = D from rfl]
                go_wp2_with fail
                go_loopw [16] (fun v16 wq => ∃ n : Nat, n ≤ C ∧ v16 = .int .i64 n ∧ Aside0 (MineF w.heap.size F ws wq p g2 U)) (fun v16 _ => C - (intOf v16).toNat)
                case atStart => exact ⟨0, by omega, rfl, M⟩
                case round =>
                  clear M
                  obtain ⟨n, hn, rfl, M⟩ := hrel
                  by_cases hlt : n < C
                  · have hend := within_end HWF.out HW.out n (by rw [HC.out]; exact hlt)
                    rw [← active_at (by rw [HC.out]; exact hlt)] at hend
                    by_cases hlt2 : n < T.syms.length
                    · rw [decide_eq_true hlt2, Bool.true_and, ← active_at hlt2] at hend
                      obtain ⟨b, hb⟩ : ∃ b, b = activeT T n := ⟨_, rfl⟩
                      rw [← hb] at hend
                      have Hend := Aside0.mk hend
                      have hat : (acts T T.syms.length)[n]? = some (.bool b) := by
                        unfold acts
                        rw [List.getElem?_map, List.getElem?_range hlt2, hb]
                        rfl
                      have Hat := Aside0.mk hat
                      obtain ⟨ab, rfl, hcell⟩ := was_at M.out HR.out HF.out (by omega)
                      have c0 := hcell _ _ hat
                      clear hend hb hat hcell
                      go_wp2_with (first
                        | (go_at_call 20; refine (count_isF M.out HC.out).mono ?_; rintro e w2 ⟨rfl, hm⟩; replace M := Aside0.mk hm; clear hm)
                        | (go_at_call 21; refine (active_isF M.out Hend.out).mono ?_; rintro e w2 ⟨rfl, hm⟩; replace M := Aside0.mk hm; clear hm; obtain ⟨ab, eq, hcell⟩ := was_at M.out HR.out HF.out (by omega); cases eq; have c0 := hcell _ _ Hat.out; clear hcell))
                      go_roundw
                      case rel => exact ⟨n + 1, by omega, by go_num, M⟩
                      case measure => simp [intOf]; omega
                    · rw [decide_eq_false hlt2, Bool.false_and] at hend
                      have Hend := Aside0.mk hend
                      clear hend
                      go_wp2_with (first
                        | (go_at_call 20; refine (count_isF M.out HC.out).mono ?_; rintro e w2 ⟨rfl, hm⟩; replace M := Aside0.mk hm; clear hm)
                        | (go_at_call 21; refine (active_isF M.out Hend.out).mono ?_; rintro e w2 ⟨rfl, hm⟩; replace M := Aside0.mk hm; clear hm))
                      go_roundw
                      case rel => exact ⟨n + 1, by omega, by go_num, M⟩
                      case measure => simp [intOf]; omega
                  · have hn' : n = C := by omega
                    subst hn'
                    go_wp2_with (go_at_call 20; refine (count_isF M.out HC.out).mono ?_; rintro e w2 ⟨rfl, hm⟩; replace M := Aside0.mk hm; clear hm)
                    go_ret
                    exact ⟨rfl, HE.out.trans M.out.below⟩
              · rw [List.concat_eq_append] at e
                subst e
                have hfew2 := M.out.wf.deep
                rw [HW.out.scopes, List.length_append, HD.out] at hfew2
                obtain ⟨hw1, hc1⟩ := within_close HW.out
                obtain ⟨U2, hU2⟩ : ∃ U2, U2 = (closeS U).1 := ⟨_, rfl⟩
                rw [← hU2] at hw1
                have Hc := Aside0.mk (show closeS U = (U2, 0) by rw [hU2, ← hc1])
                have HW2 := Aside0.mk hw1
                obtain ⟨Q, hQ⟩ : ∃ Q, Q = D + a.length := ⟨_, rfl⟩
                have Hd := Aside0.mk (show U2.scopes.length = Q by rw [hw1.scopes, List.length_append, HD.out, hQ])
                have hsum : D + (a ++ [b]).length = Q + 1 := by rw [List.length_append, hQ]; rfl
                have hDQ : D ≤ Q := by omega
                rw [List.length_append] at hfew2
                have hQ16 : Q + 1 ≤ 16 := by simp at hfew2; omega
                clear hfew2
                rw [hsum]
                have HQ := Aside0.mk hQ
                clear hw1 hc1 hU2 HW hQ hsum hlt
                go_wp2_with fail
                refine (close_isF M.out Hc.out).mono ?_
                rintro e w2 ⟨rfl, hm2⟩
                have M2' := Aside0.mk hm2
                clear hm2 M
                go_wp2_with fail
                refine (depth_isF M2'.out Hd.out).mono ?_
                rintro e w3 ⟨rfl, hm3⟩
                have M3' := Aside0.mk hm3
                clear hm3 M2'
                go_wp2_with fail
                refine ⟨⟨U2, a, ?_, M3', HW2⟩, ?_⟩
                · rw [← HQ.out]
                · simp only [intOf]
                  omega
end Go.Proofs.YtpoojimmponklaaDoor.SymScopes
