/- SymLabels walked. -/
import Derived.Test.YtpoojimmponklaaDoorLabelsPure
namespace Go.Proofs.YtpoojimmponklaaDoor.SymLabels
open Go.RowKit Go.Maps Go.Proofs.YtpoojimmponklaaDoor.SymTab Go.Proofs.YtpoojimmponklaaDoor.SymHeap Go.Proofs.YtpoojimmponklaaDoor.SymApi Go.Proofs.YtpoojimmponklaaDoor.SymBegun Go.Proofs.YtpoojimmponklaaDoor.SymScan Go.Proofs.YtpoojimmponklaaDoor.SymScript Go.Proofs.YtpoojimmponklaaDoor.SymReads Go.Proofs.YtpoojimmponklaaDoor.SymLists Go.Proofs.YtpoojimmponklaaDoor.SymLabelsPure
open Go.Proofs.YtpoojimmponklaaDoorW.PrintWords (Aside0 Drawn0 own_move Kd.C)
open Go.Proofs.YtpoojimmponklaaDoorW.PrintWords
set_option linter.unusedVariables false
set_option linter.unusedSimpArgs false

def T3 : Tab := { T2 with labels := [c0] }
theorem first_label : labelT T2 c0 = (T3, 0) := by
  unfold labelT
  rw [if_neg (by decide), if_neg (by decide), if_neg (by decide)]
  rfl

theorem label_cases (T : Tab) (s : ByteArray) :
    (nameOk s = false ∧ labelT T s = (T, 21)) ∨ (nameOk s = true ∧ (labIdx T.labels s).isSome = true ∧ labelT T s = (T, 20)) ∨
    (nameOk s = true ∧ (labIdx T.labels s).isSome = false ∧ 1024 ≤ T.labels.length ∧ labelT T s = (T, 22)) ∨
    (nameOk s = true ∧ (labIdx T.labels s).isSome = false ∧ T.labels.length < 1024 ∧ labelT T s = ({ T with labels := T.labels ++ [s] }, 0)) := by
  unfold labelT
  cases h1 : nameOk s with
  | false => exact .inl ⟨rfl, if_pos rfl⟩
  | true =>
    rw [if_neg (by simp)]
    cases h2 : (labIdx T.labels s).isSome with
    | true => exact .inr (.inl ⟨rfl, rfl, if_pos rfl⟩)
    | false =>
      rw [if_neg (by simp)]
      by_cases h3 : 1024 ≤ T.labels.length
      · exact .inr (.inr (.inl ⟨rfl, rfl, h3, if_pos h3⟩))
      · exact .inr (.inr (.inr ⟨rfl, rfl, by omega, if_neg h3⟩))
theorem good_is {w : World} {s : ByteArray} {b : Bool} (hs : s.size ≤ maxLen) (hb : nameOk s = b) : Calls Tryd.prog 26 #[.string s] w fun e w' => e = .returned (.bool b) ∧ Drawn0 w w' := by
  subst hb
  exact good_calls s hs
theorem has_is {w : World} {A : Option Addr} {c : Nat} {l : List ByteArray} {s : ByteArray} {b : Bool} (hb : (labIdx l s).isSome = b) (hl : l.length ≤ 1048576) (hr : Kd.C Kd.string w A l.length l) (hc : l.length ≤ c) :
    Calls Tryd.prog 27 #[.slice A l.length c, .string s] w fun e w' => e = .returned (.bool b) ∧ Drawn0 w w' := by
  subst hb
  exact has_calls A c l s hl hr hc
theorem obox {W w : World} {p g b : Nat} {T : Tab} {rows : List RowOf} {k n : Int} {s : ByteArray} (h : Besides W w p g T (⟨28, .slice (some ⟨b, 0, none⟩) 3 3, [.int .i64 k, .string s, .int .i64 n]⟩ :: rows)) :
    w.cell? ⟨b, 0, none⟩ = some (.int .i64 k) ∧ w.cell? ⟨b, 1, none⟩ = some (.string s) ∧ w.cell? ⟨b, 2, none⟩ = some (.int .i64 n) := by
  obtain ⟨g', c, e, _, hc, _⟩ := row_some (h.own (List.mem_cons_self ..)) (by simp)
  simp only [Value.slice.injEq, Option.some.injEq, Addr.mk.injEq] at e
  obtain ⟨⟨rfl, _⟩, _⟩ := e
  exact ⟨hc 0 _ rfl, hc 1 _ rfl, hc 2 _ rfl⟩

set_option maxHeartbeats 8000000 in
set_option maxRecDepth 100000 in
theorem walk {w : World} (hb : Blanks w) (A : Option Addr) (c : Nat) (l : List OpRec) (hl : l.length ≤ 4398046511104) (hs : Script w A l) :
    Calls Tryd.prog 5 #[.slice A l.length c] w fun e w' => e = .returned (.bool true) ∧ Below w.heap.size w w' := by
  have Hb := Lib.hid hb
  have HS := Lib.hid hs
  clear hb hs
  go_enter Tryd.func5, Tryd.ntmps5
  go_wp2_with fail
  refine (begun_calls Hb.out).mono ?_
  rintro e w1 ⟨p, rfl, h1, t1⟩
  have M1 := Aside0.mk (Besides.start (Mine.begun h1 t1) Hb.out.lt)
  clear h1 t1
  go_wp2_with fail
  refine (label_isB M1.out (by decide) (by decide) first_label).mono ?_
  rintro e w2 ⟨rfl, hm2⟩
  have M2 := Aside0.mk (hm2.lit 9 [.string c0] (by decide))
  clear hm2 M1
  go_wp2_with fail
  go_loopw [5, 6] (fun v5 v6 wr => ∃ (i : Nat) (T : Tab), i ≤ l.length ∧ v6 = .int .i64 i ∧ Aside0 (Besides w wr p (6 + 2 * i) T [⟨9, v5, T.labels.map Value.string⟩])) (fun _ v6 _ => l.length - (intOf v6).toNat)
  case atStart => exact ⟨0, T3, by omega, rfl, M2⟩
  case round =>
    clear M2
    obtain ⟨i, T, hi, rfl, M⟩ := hrel
    obtain ⟨A2, c2, rfl, hc2, _⟩ := reads M.out
    have hlab := M.out.wf.labels
    by_cases hlt : i < l.length
    · obtain ⟨a, rfl⟩ := HS.out.some_ (by omega)
      obtain ⟨c1, c2', c3, hx⟩ := (HS.out.below M.out.1).at_ a i l[i] rfl (List.getElem?_eq_getElem hlt)
      generalize l[i] = x at c1 c2' c3 hx
      have Hx := Aside0.mk hx
      obtain ⟨k, s, n⟩ := x
      simp only at c1 c2' c3
      have M1 := Aside0.mk (M.out.lit 28 [.int .i64 k, .string s, .int .i64 n] (by simp [maxLen]))
      clear hx
      by_cases hk : k = 10
      · subst hk
        rcases label_cases T s with ⟨hg, hL⟩ | ⟨hg, hh, hL⟩ | ⟨hg, hh, hn, hL⟩ | ⟨hg, hh, hn, hL⟩
        · have Hg := Aside0.mk hg
          have HL := Aside0.mk hL
          clear hg hL
          go_wp2_with fail
          refine (label_isB M1.out Hx.out (by unfold maxLen; omega) HL.out).mono ?_
          rintro e w2 ⟨rfl, hm2⟩
          have M2 := Aside0.mk hm2
          clear hm2 M1 M HL c1 c2' c3
          obtain ⟨b0, b1, b2⟩ := obox M2.out
          go_wp2_with fail
          refine (good_is Hx.out Hg.out).mono ?_
          rintro e w3 ⟨rfl, hd3⟩
          have M3 := Aside0.mk (M2.out.drawn hd3)
          clear hd3 M2 b0 b1 b2
          obtain ⟨b0, b1, b2⟩ := obox M3.out
          go_wp2_with fail
          refine (labels_isB M3.out.tail).mono ?_
          rintro e w5 ⟨A5, c5, rfl, hc5, hC5, hm5⟩
          have M5 := Aside0.mk hm5
          have HC5 := Aside0.mk hC5
          clear hm5 hC5 M3 b0 b1 b2
          go_wp2_with fail
          obtain ⟨_, _, eq, hc6, hC6⟩ := reads M5.out
          cases eq
          refine (same_calls A5 c5 A2 c2 T.labels (by omega) HC5.out hc5 hC6 hc6).mono ?_
          rintro e w6 ⟨rfl, hd6⟩
          have M6 := Aside0.mk (M5.out.drawn hd6)
          clear hd6 M5 HC5 hC6 hc6
          go_wp2_with fail
          go_roundw
          case rel => exact ⟨i + 1, T, by omega, by go_num, ⟨M6.out.more (by omega)⟩⟩
          case measure => simp [intOf]; omega
        · have Hg := Aside0.mk hg
          have Hh := Aside0.mk hh
          have HL := Aside0.mk hL
          clear hg hh hL
          go_wp2_with fail
          refine (label_isB M1.out Hx.out (by unfold maxLen; omega) HL.out).mono ?_
          rintro e w2 ⟨rfl, hm2⟩
          have M2 := Aside0.mk hm2
          clear hm2 M1 M HL c1 c2' c3
          obtain ⟨b0, b1, b2⟩ := obox M2.out
          go_wp2_with fail
          refine (good_is Hx.out Hg.out).mono ?_
          rintro e w3 ⟨rfl, hd3⟩
          have M3 := Aside0.mk (M2.out.drawn hd3)
          clear hd3 M2 b0 b1 b2
          obtain ⟨b0, b1, b2⟩ := obox M3.out
          go_wp2_with fail
          obtain ⟨_, _, eq, hc4, hC4⟩ := reads M3.out.swap
          cases eq
          refine (has_is Hh.out (by omega) hC4 hc4).mono ?_
          rintro e w4 ⟨rfl, hd4⟩
          have M4 := Aside0.mk (M3.out.drawn hd4)
          clear hd4 M3 hC4 hc4 b0 b1 b2
          obtain ⟨b0, b1, b2⟩ := obox M4.out
          have M3 := M4
          clear M4
          go_wp2_with fail
          refine (labels_isB M3.out.tail).mono ?_
          rintro e w5 ⟨A5, c5, rfl, hc5, hC5, hm5⟩
          have M5 := Aside0.mk hm5
          have HC5 := Aside0.mk hC5
          clear hm5 hC5 M3 b0 b1 b2
          go_wp2_with fail
          obtain ⟨_, _, eq, hc6, hC6⟩ := reads M5.out
          cases eq
          refine (same_calls A5 c5 A2 c2 T.labels (by omega) HC5.out hc5 hC6 hc6).mono ?_
          rintro e w6 ⟨rfl, hd6⟩
          have M6 := Aside0.mk (M5.out.drawn hd6)
          clear hd6 M5 HC5 hC6 hc6
          go_wp2_with fail
          go_roundw
          case rel => exact ⟨i + 1, T, by omega, by go_num, ⟨M6.out.more (by omega)⟩⟩
          case measure => simp [intOf]; omega
        · have Hg := Aside0.mk hg
          have Hh := Aside0.mk hh
          have HL := Aside0.mk hL
          clear hg hh hL
          go_wp2_with fail
          refine (label_isB M1.out Hx.out (by unfold maxLen; omega) HL.out).mono ?_
          rintro e w2 ⟨rfl, hm2⟩
          have M2 := Aside0.mk hm2
          clear hm2 M1 M HL c1 c2' c3
          obtain ⟨b0, b1, b2⟩ := obox M2.out
          go_wp2_with fail
          refine (good_is Hx.out Hg.out).mono ?_
          rintro e w3 ⟨rfl, hd3⟩
          have M3 := Aside0.mk (M2.out.drawn hd3)
          clear hd3 M2 b0 b1 b2
          obtain ⟨b0, b1, b2⟩ := obox M3.out
          go_wp2_with fail
          obtain ⟨_, _, eq, hc4, hC4⟩ := reads M3.out.swap
          cases eq
          refine (has_is Hh.out (by omega) hC4 hc4).mono ?_
          rintro e w4 ⟨rfl, hd4⟩
          have M4 := Aside0.mk (M3.out.drawn hd4)
          clear hd4 M3 hC4 hc4 b0 b1 b2
          obtain ⟨b0, b1, b2⟩ := obox M4.out
          have M3 := M4
          clear M4
          go_wp2_with fail
          refine (labels_isB M3.out.tail).mono ?_
          rintro e w5 ⟨A5, c5, rfl, hc5, hC5, hm5⟩
          have M5 := Aside0.mk hm5
          have HC5 := Aside0.mk hC5
          clear hm5 hC5 M3 b0 b1 b2
          go_wp2_with fail
          obtain ⟨_, _, eq, hc6, hC6⟩ := reads M5.out
          cases eq
          refine (same_calls A5 c5 A2 c2 T.labels (by omega) HC5.out hc5 hC6 hc6).mono ?_
          rintro e w6 ⟨rfl, hd6⟩
          have M6 := Aside0.mk (M5.out.drawn hd6)
          clear hd6 M5 HC5 hC6 hc6
          go_wp2_with fail
          go_roundw
          case rel => exact ⟨i + 1, T, by omega, by go_num, ⟨M6.out.more (by omega)⟩⟩
          case measure => simp [intOf]; omega
        · have Hg := Aside0.mk hg
          have Hh := Aside0.mk hh
          have HL := Aside0.mk hL
          clear hg hh hL
          go_wp2_with fail
          refine (label_isB M1.out Hx.out (by unfold maxLen; omega) HL.out).mono ?_
          rintro e w2 ⟨rfl, hm2⟩
          have M2 := Aside0.mk hm2
          clear hm2 M1 M HL c1 c2' c3
          obtain ⟨b0, b1, b2⟩ := obox M2.out
          go_wp2_with fail
          refine (good_is Hx.out Hg.out).mono ?_
          rintro e w3 ⟨rfl, hd3⟩
          have M3 := Aside0.mk (M2.out.drawn hd3)
          clear hd3 M2 b0 b1 b2
          obtain ⟨b0, b1, b2⟩ := obox M3.out
          go_wp2_with fail
          obtain ⟨_, _, eq, hc4, hC4⟩ := reads M3.out.swap
          cases eq
          refine (has_is Hh.out (by omega) hC4 hc4).mono ?_
          rintro e w4 ⟨rfl, hd4⟩
          have M4 := Aside0.mk (M3.out.drawn hd4)
          clear hd4 M3 hC4 hc4 b0 b1 b2
          obtain ⟨b0, b1, b2⟩ := obox M4.out
          have M3 := M4
          clear M4
          obtain ⟨i0, hi0, hz0, hz1, hz2⟩ := info_parts SymNew.info9
          have HI := Aside0.mk hi0
          have Hz0 := Aside0.mk hz0
          have Hz1 := Aside0.mk hz1
          have Hz2 := Aside0.mk hz2
          have HM := Aside0.mk (M3.out.tail.alloc (.cells #[.string s] 9))
          have hO := HM.out.own (List.mem_cons_self ..)
          simp only [List.length_map] at hO
          have HO := Aside0.mk hO
          clear hi0 hz0 hz1 hz2 hO
          go_wp2_with (at_builtin; refine wpList_append_own_at _ rfl (.tmp 61) (.tmp 64) 38 rfl w.heap.size 9 i0 (.string .empty) 1 16 Tryd.underlying38 HI.out Hz0.out Hz1.out Hz2.out rfl (by decide) _ T.labels.length (T.labels.map Value.string) rfl HO.out ⟨w4.heap.size, 0, none⟩ 1 1 [.string s] rfl rfl (cell_one_new _ _ _) ?c2 (by unfold maxLen; omega) (by omega) HM.out.1.size ?_)
          case c2 => intro u hu; simp at hu; subst hu; rfl
          intro v' w5 hown5 hgrow5 hnil5 hat5
          have hb5 := HM.out.appended (fun r hr => by simp at hr) (by simp) hown5 hgrow5 (by simpa using hat5)
          rw [show T.labels.map Value.string ++ [.string s] = (T.labels ++ [s]).map Value.string from by simp] at hb5
          obtain ⟨T2', hT2⟩ : ∃ T', T' = ({ T with labels := T.labels ++ [s] } : Tab) := ⟨_, rfl⟩
          rw [show T.labels ++ [s] = T2'.labels from by rw [hT2]] at hb5
          rw [show ({ T with labels := T2'.labels } : Tab) = T2' from by rw [hT2]] at hb5
          have hlab2 := hb5.wf.labels
          obtain ⟨A3, c3', rfl, hc3, _⟩ := reads hb5
          have M3 := Aside0.mk hb5
          clear hb5 hown5 hgrow5 hnil5 hat5 HM HO HI Hz0 Hz1 Hz2 hT2 b0 b1 b2
          go_wp2_with fail
          refine (labels_isB M3.out).mono ?_
          rintro e w5' ⟨A5, c5, rfl, hc5, hC5, hm5⟩
          have M5 := Aside0.mk hm5
          have HC5 := Aside0.mk hC5
          clear hm5 hC5 M3
          go_wp2_with fail
          obtain ⟨_, _, eq, hc6, hC6⟩ := reads M5.out
          cases eq
          refine (same_calls A5 c5 A3 c3' T2'.labels (by omega) HC5.out hc5 hC6 hc6).mono ?_
          rintro e w6 ⟨rfl, hd6⟩
          have M6 := Aside0.mk (M5.out.drawn hd6)
          clear hd6 M5 HC5 hC6 hc6
          go_wp2_with fail
          go_roundw
          case rel => exact ⟨i + 1, T2', by omega, by go_num, ⟨M6.out.more (by omega)⟩⟩
          case measure => simp [intOf]; omega
      · have Hdo := Aside0.mk (do_labels T k s hk)
        have hk' : (k == 10) = false := beq_eq_false_iff_ne.2 hk
        go_wp2_with fail
        refine (does_isB Hb.out M1.out.tail ⟨k, s, n⟩ Hx.out (by unfold maxLen; omega)).mono ?_
        rintro e w2 ⟨rfl, hm2⟩
        have M2 := Aside0.mk hm2
        clear hm2 M1 M c1 c2' c3
        go_wp2_with fail
        go_roundw
        case rel => exact ⟨i + 1, _, by omega, by go_num, ⟨by rw [Hdo.out]; exact M2.out.more (by omega)⟩⟩
        case measure => simp [intOf]; omega
    · have hi' : i = l.length := by omega
      go_wp2_with fail
      refine (labels_isB M.out).mono ?_
      rintro e w5 ⟨A5, c5, rfl, hc5, hC5, hm5⟩
      have M5 := Aside0.mk hm5
      have HC5 := Aside0.mk hC5
      clear hm5 hC5 M
      go_wp2_with fail
      obtain ⟨_, _, eq, hc6, hC6⟩ := reads M5.out
      cases eq
      refine (same_calls A5 c5 A2 c2 T.labels (by omega) HC5.out hc5 hC6 hc6).mono ?_
      rintro e w6 ⟨rfl, hd6⟩
      have M6 := Aside0.mk (M5.out.drawn hd6)
      clear hd6 M5 HC5 hC6 hc6
      go_wp2_with fail
      go_ret
      exact ⟨rfl, M6.out.1⟩
end Go.Proofs.YtpoojimmponklaaDoor.SymLabels
