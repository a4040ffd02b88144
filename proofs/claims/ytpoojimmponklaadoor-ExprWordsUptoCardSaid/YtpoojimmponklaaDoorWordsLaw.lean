/- ExprWords walked. -/
import Derived.Test.YtpoojimmponklaaDoorWordsOut
import Derived.Test.YtpoojimmponklaaDoorWordsAll
import Derived.Test.YtpoojimmponklaaDoorKeepsAll
namespace Go.Proofs.YtpoojimmponklaaDoor.WordsLaw
open Go.Proofs.YtpoojimmponklaaDoor.SymHeap hiding num
open Go.RowKit Go.Maps Go.Proofs.YtpoojimmponklaaDoor.SymTab Go.Proofs.YtpoojimmponklaaDoor.SymReads Go.Proofs.YtpoojimmponklaaDoor.SymApi Go.Proofs.YtpoojimmponklaaDoor.SymSep Go.Proofs.YtpoojimmponklaaDoor.SymRef Go.Proofs.YtpoojimmponklaaDoor.SymRefMore Go.Proofs.YtpoojimmponklaaDoor.KeepsPure Go.Proofs.YtpoojimmponklaaDoor.KeepsFuns Go.Proofs.YtpoojimmponklaaDoor.KeepsLast Go.Proofs.YtpoojimmponklaaDoor.ReadW Go.Proofs.YtpoojimmponklaaDoor.KeepsMore Go.Proofs.YtpoojimmponklaaDoor.KeepsLaw Go.Proofs.YtpoojimmponklaaDoor.WordsRef Go.Proofs.YtpoojimmponklaaDoor.WordsTab Go.Proofs.YtpoojimmponklaaDoor.WordsPrint Go.Proofs.YtpoojimmponklaaDoor.WordsOut Go.Proofs.YtpoojimmponklaaDoor.PExprKeeps
open Go.Proofs.YtpoojimmponklaaDoor.WordsPure (textTo Fits)
open Go.Proofs.YtpoojimmponklaaDoorW.PrintWords
open Go.Proofs.YtpoojimmponklaaDoorW.PrintLast
open Go.Proofs.YtpoojimmponklaaDoor.KeepsLib (num)
set_option linter.unusedVariables false
set_option linter.unusedSimpArgs false

theorem strs_cells {w : World} {A : Option Addr} {ws : List ByteArray} (hC : Kd.C Kd.string w A ws.length ws) {ad : Addr} (ha : A = some ad) : ∀ j u, (ws.map Value.string)[j]? = some u → w.cell? (ad.add j) = some u := by
  intro j u hu
  have hj : j < ws.length := by simpa using (List.getElem?_eq_some_iff.1 hu).1
  obtain ⟨ad', e, hc⟩ := Kd.at_string hC (j : Int) (by omega) (by omega)
  rw [ha] at e
  cases e
  rw [rdOf_of hj, Int.toNat_natCast] at hc
  rw [hc]
  simp [hj] at hu
  rw [hu]
/-- A copy of a list of strings. -/
theorem wp_copy {ops : Array Oper} {rest : List Oper} {o : Oper} {a : Act} {Q : Exit → Act → World → Prop} {w : World} (hgd : o.guard = none) (sl x : Operand)
    (hop : o.op = .call { callee := .builtin .append, args := #[sl, x], argTypes := #[38, 38] }) (hs : a.eval sl = .slice none 0 0) {A : Option Addr} {c : Nat} {ws : List ByteArray} (hx : a.eval x = .slice A ws.length c)
    (hnone : A = none → ws.length = 0 ∧ c = 0) (hC : Kd.C Kd.string w A ws.length ws) (hl : ws.length ≤ 4194304) 
    (h : ∀ v' w', w'.ownsRow w.heap.size 9 1 v' ws.length (ws.map Value.string) → Below w.heap.size w w' → wpList Tryd.prog ops Q rest (a.put o.dst v') w') : wpList Tryd.prog ops Q (o :: rest) a w := by
  obtain ⟨i9, hi9, hz0, hz1, hz2⟩ := info_parts SymNew.info9
  cases A with
  | none =>
    obtain ⟨h1, h2⟩ := hnone rfl
    subst h2
    rw [h1] at hx
    have hws : ws = [] := List.eq_nil_of_length_eq_zero h1
    subst hws
    exact wpList_append_own_none hgd sl x 38 hop w.heap.size 9 i9 1 Tryd.underlying38 hi9 (.slice none 0 0) 0 [] hs (World.ownsRow_nil _ _ _ _) hx (h _ _ (World.ownsRow_nil _ _ _ _) (Below.refl _ _))
  | some ad =>
    refine wpList_append_own_at w hgd sl x 38 hop w.heap.size 9 i9 (.string .empty) 1 16 Tryd.underlying38 hi9 hz0 hz1 hz2 rfl (by decide) (.slice none 0 0) 0 [] hs (World.ownsRow_nil _ _ _ _) ad ws.length c (ws.map Value.string) hx (by simp) (strs_cells hC rfl) ?_ (by unfold maxLen; omega) (by omega) (Nat.le_refl _) ?_
    · intro u hu
      obtain ⟨s, _, rfl⟩ := List.mem_map.1 hu
      rfl
    · intro v' w' hown hgrow _ _
      exact h v' w' (by simpa using hown) ((Below.refl _ w).grown hgrow (Nat.le_refl _) (fun _ hk => by simp [Value.ownBlock] at hk))
def rm : ByteArray := ⟨#[114, 111, 111, 109]⟩
/-- The first of a row of strings. -/
theorem row_front {w : World} {b : Nat} {A : Option Addr} {c : Nat} {ws more : List ByteArray} (h : w.ownsRow b 9 1 (.slice A (ws.length + more.length) c) (ws.length + more.length) ((ws ++ more).map Value.string)) (hl : ws.length ≤ 4194304) : Kd.C Kd.string w A ws.length ws := by
  refine ⟨rfl, by omega, fun h0 => ?_⟩
  obtain ⟨g, cap, e, _, hcell, _⟩ := row_some h (by omega)
  simp only [Value.slice.injEq] at e
  refine ⟨⟨g, 0, none⟩, e.1, fun j p hj => ⟨[.string p], rfl, rfl, fun i u hu => ?_⟩⟩
  have hi0 : i = 0 := by
    have := (List.getElem?_eq_some_iff.1 hu).1
    simpa using this
  subst hi0
  have hu' : u = .string p := by simpa using hu.symm
  subst hu'
  have hjl := (List.getElem?_eq_some_iff.1 hj).1
  rw [Addr.add_lit, show 0 + (j * Kd.string.sz + 0) = j from by show 0 + (j * 1 + 0) = j; omega]
  exact hcell j _ (by rw [List.map_append, List.getElem?_append_left (by simpa using hjl)]; simp [hj])

theorem read_len (T : Tab) : ∀ (ws : List ByteArray) (i : Nat) (out : List Int), out.length = i → i ≤ 200 → (readGo T ws i out).1.length ≤ 200
  | [], i, out, h, hi => by simp [readGo]; omega
  | s :: ws, i, out, h, hi => by
    unfold readGo
    split
    · simp
    · split
      · simp
      · exact read_len T ws (i + 1) _ (by simp [h]) (by omega)
theorem s_fresh {W w w' : World} {rs : List Res} {e size : Nat} {v : Value} {n : Nat} {xs : List Value} (h : SymSep.Sep W w rs) (hb : Below w.heap.size w w') (ho : w'.ownsRow w.heap.size e size v n xs) : SymSep.Sep W w' (rowR e size v n xs :: rs) :=
  h.fresh (f := fun k => w.heap.size ≤ k) ⟨hb.os, hb.tape, hb.output, hb.size, fun k hk _ => hb.block k hk⟩ ⟨Handed.owns_zero ho, fun k hk => (ho.lt k hk).1⟩ (fun _ hk => hk)
set_option maxHeartbeats 8000000 in
set_option maxRecDepth 100000 in
theorem walk {w : World} (hb : SymScan.Blanks w) (hpow : Pows w) (L : Option Addr) (lc : Nat) (l : List DeclRec) (hd : Decls w L l) (hll : l.length ≤ 1048576)
    (A : Option Addr) (wc : Nat) (ws : List ByteArray) (hw : Kd.C Kd.string w A ws.length ws) (hnone : A = none → ws.length = 0 ∧ wc = 0) (hwl : ws.length ≤ 1048576) (hwc : ws.length ≤ wc) (hws : ∀ s ∈ ws, s.size ≤ maxLen)
    (E : Option Addr) (ec : Nat) (e : List Int) (he : CI w E e) (hel : e.length ≤ 1048576) (hec : e.length ≤ ec) (hf : Fits e) :
    Calls Tryd.prog 11 #[.slice L l.length lc, .slice A ws.length wc, .slice E e.length ec] w fun ed w' => ed = .returned (.bool true) ∧ Below w.heap.size w w' := by
  have Hb := Lib.hid hb
  have HPow := Aside0.mk hpow
  have HW := Aside0.mk hw
  have HE := Aside0.mk he
  have HF := Aside0.mk hf
  have HWs := Aside0.mk hws
  have Hnone := Aside0.mk hnone
  have HTab := Aside0.mk (tables_calls hb L lc l (by omega) hd)
  clear hb hd hw he hf hws hpow hnone
  go_enter Tryd.func11, Tryd.ntmps11
  go_wp2_with fail
  refine HTab.out.mono ?_
  rintro ed w1 ⟨p, r, T, rfl, hm⟩
  have HB1 := Aside0.mk hm.1
  obtain ⟨F1, hT1, hF1⟩ := hm.head
  obtain ⟨F2, ⟨R, hmir, q, hR1, hqf⟩, _⟩ := hm.swap.head
  have HT := Aside0.mk hT1
  have HF1 := Aside0.mk (show ∀ k, F1 k → k < w1.heap.size from fun k hk => (hF1 k hk).2)
  have HR := Aside0.mk hR1
  have HM := Aside0.mk hmir
  have M := Aside0.mk (Sep.start w1)
  clear hm hT1 hR1 hmir hqf hF1 HTab
  go_wp2_with fail
  refine (rread_calls HR.out HM.out (by omega) A wc ws (Kd.C_below HW.out HB1.out) (by omega) HWs.out).mono ?_
  rintro ed w2 ⟨v2, rfl, ho, hB2⟩
  obtain ⟨⟨out, at_, err⟩, hrd⟩ : ∃ x, x = readT T ws := ⟨_, rfl⟩
  rw [← hrd] at ho ⊢
  have HRd := Aside0.mk hrd.symm
  replace M := Aside0.mk (s_new M.out hB2 ho)
  clear hrd ho hB2
  simp only
  go_wp2_with fail
  refine (rprint_calls (HR.out.move (fun j hj => M.out.1.block j (HR.out.lt j hj))) HM.out E ec e (Kd.C_below HE.out (below_step HB1.out M.out.1)) (by omega) HF.out).mono ?_
  rintro ed w3 ⟨rfl, hB3⟩
  replace M := Aside0.mk (M.out.below hB3)
  clear hB3
  generalize htext : WordsPure.bytesOf (textTo T e) = text
  have HText := Aside0.mk htext
  clear htext
  obtain ⟨i9, hi9, hz0, hz1, hz2⟩ := info_parts SymNew.info9
  have Hi9 := Aside0.mk hi9
  have Hz09 := Aside0.mk hz0
  have Hz19 := Aside0.mk hz1
  have Hz29 := Aside0.mk hz2
  clear hi9 hz0 hz1 hz2
  go_wp2_with (first
    | (at_builtin; refine wp_copy rfl (.tmp 38) (.tmp 39) rfl rfl (A := A) (ws := ws) (c := wc) rfl Hnone.out (Kd.C_below HW.out (below_step HB1.out M.out.1)) (by omega) ?_; intro v4 w4 ho4 hB4; have HO4 := Aside0.mk ho4; have HB4 := Aside0.mk hB4; clear ho4 hB4; obtain ⟨A4, c4, e4, _⟩ := row_slice HO4.out; subst e4; have hle4 := HB4.out.size)
    | (at_builtin; refine wpList_append_own_at _ rfl (.tmp 41) (.tmp 42) 38 rfl w3.heap.size 9 i9 (.string .empty) 1 16 Tryd.underlying38 Hi9.out Hz09.out Hz19.out Hz29.out rfl (by decide) _ ws.length (ws.map Value.string) rfl (HO4.out.alloc _) ⟨w4.heap.size, 0, none⟩ 2 2 [.string rm, .string rm] rfl rfl (SymAdd.cells_two_new _ _ _ _) (by intro u hu; simp at hu; rcases hu with rfl | rfl <;> rfl) (by unfold maxLen; omega) (by omega) (by simp; omega) ?_; intro v5 w5 hown5 hgrow5 hnil5 hat5; have HO5 := Aside0.mk hown5; have HB5 := Aside0.mk ((HB4.out.alloc HB4.out.size (.cells #[.string rm, .string rm] 9)).grown hgrow5 (by simp; omega) (fun b hb => (HO4.out.lt b hb).1)); clear hown5 hgrow5 hnil5 hat5 HO4 HB4))
  obtain ⟨A5, c5, e5, hc5⟩ := row_slice HO5.out
  subst e5
  have hm := s_fresh M.out HB5.out HO5.out
  rw [show ws.map Value.string ++ [Value.string rm, Value.string rm] = (ws ++ [rm, rm]).map Value.string by simp] at hm
  replace M := Aside0.mk hm
  clear hm HO5 HB5
  refine (lemmalaw03_roomy.calls E ec e (room e) w5 (Kd.C_below HE.out (below_step HB1.out M.out.1)) hec (roomy_f e hel)).mono ?_
  rintro ed w6 ⟨v6, rfl, hR6, hB6⟩
  have hlr : (room e).length = e.length + 3 := room_len e
  obtain ⟨gx, cx, rfl, hcx, hCx⟩ := R_block hR6 (by omega)
  have hm := s_new_R M.out hB6 hR6
  rw [hlr] at hm
  replace M := Aside0.mk hm
  clear hm hR6 hB6 hCx
  rw [hlr] at hcx ⊢
  go_wp2_with fail
  have hTb := HT.out.move (fun j hj => M.out.1.block j (HF1.out j hj))
  have hrd := read_calls hTb (fun k hk => Nat.lt_of_lt_of_le (HF1.out k hk) M.out.1.size) A5 c5 ws (row_front (more := [rm, rm]) (M.out.pull 1 (by simp)).row (by omega)) (by omega) HWs.out
  rw [HRd.out] at hrd
  simp only at hrd
  refine hrd.mono ?_
  rintro ed w7 ⟨v7, rfl, ho, hB7⟩
  replace M := Aside0.mk (s_new M.out hB7 ho)
  clear hTb hrd ho hB7
  obtain ⟨A7, c7, e7, hc7, hC7⟩ := row_reads M.out.row
  obtain ⟨A2, c2, e2, hc2, hC2⟩ := row_reads (M.out.pull 3 (by simp)).row
  subst e7
  subst e2
  have hol : out.length ≤ 200 := by
    have := read_len T ws 0 [] rfl (by omega)
    rw [show readGo T ws 0 [] = (out, at_, err) from HRd.out] at this
    exact this
  obtain ⟨ks, hks⟩ := same_law out (by omega)
  have HS := Aside0.mk (lemmalaw03_same.calls ks A7 c7 out A2 c2 out true w7 hC7 hc7 hC2 hc2 hks)
  clear hC7 hC2 hks
  go_wp2_with fail
  refine HS.out.mono ?_
  rintro ed w8 ⟨rfl, hd⟩
  replace M := Aside0.mk (M.out.drawn hd)
  clear hd HS
  go_wp2_with fail
  have hxl := C_take (c := cx) (n := e.length) (x_C (xs := room e) hlr (M.out.pull 1 (by simp)).row) (by omega) (by omega)
  rw [room_take] at hxl
  have hpr := print_calls (HT.out.move (fun j hj => M.out.1.block j (HF1.out j hj))) (fun k hk => Nat.lt_of_lt_of_le (HF1.out k hk) M.out.1.size) (HPow.out.below (below_step HB1.out M.out.1)) (some ⟨gx, 0, none⟩) cx e hxl hel HF.out
  rw [HText.out] at hpr
  refine hpr.mono ?_
  rintro ed w9 ⟨rfl, hB9⟩
  replace M := Aside0.mk (M.out.below hB9)
  clear hpr hB9 hxl
  go_wp2_with fail
  refine (untouched_calls hel (x_C hlr (M.out.pull 1 (by simp)).row) hcx (Kd.C_below HE.out (below_step HB1.out M.out.1)) hec).mono ?_
  rintro ed w10 ⟨rfl, hd⟩
  replace M := Aside0.mk (M.out.drawn hd)
  clear hd
  go_wp2_with fail
  go_loopw [19] (fun v19 wq => ∃ k : Nat, k ≤ ws.length ∧ v19 = .int .i64 k ∧ Aside0 (SymSep.Sep w1 wq [rowR 3 1 (.slice A7 out.length c7) out.length (out.map num), rowR 3 1 (.slice (some ⟨gx, 0, none⟩) (e.length + 3) cx) (e.length + 3) ((room e).map num), rowR 9 1 (.slice A5 (ws.length + 2) c5) (ws.length + 2) ((ws ++ [rm, rm]).map Value.string), rowR 3 1 (.slice A2 out.length c2) out.length (out.map num)])) (fun v19 _ => ws.length - (intOf v19).toNat)
  case atStart => exact ⟨0, by omega, rfl, M⟩
  case round =>
    clear M
    obtain ⟨k, hk, rfl, M⟩ := hrel
    obtain ⟨b5, cap5, e5, _, hcell, hfz, _⟩ := row_some (M.out.pull 2 (by simp)).row (by omega)
    simp only [Value.slice.injEq, true_and] at e5
    obtain ⟨rfl, rfl⟩ := e5
    by_cases hlt : k < ws.length
    · have hc1 := hcell k (.string ws[k]) (by rw [List.map_append, List.getElem?_append_left (by simpa using hlt)]; simp [hlt])
      obtain ⟨ad, rfl, hc2⟩ := Kd.at_string (Kd.C_below HW.out (below_step HB1.out M.out.1)) (k : Int) (by omega) (by omega)
      rw [rdOf_of hlt, Int.toNat_natCast] at hc2
      generalize ws[k] = s at hc1 hc2
      clear hcell hfz
      go_wp2_with fail
      repeat (go_quiet (fail); try go_wp2_with fail)
      go_roundw
      case rel => exact ⟨k + 1, by omega, by go_num, ⟨M.out.drawn ⟨_, rfl⟩⟩⟩
      case measure => simp [intOf]; omega
    · have hk' : k = ws.length := by omega
      subst hk'
      have hc1 := hcell ws.length (.string rm) (by rw [List.map_append, List.getElem?_append_right (by simp)]; simp)
      have hrm : rm.toList = [114, 111, 111, 109] := by rw [ByteArray.toList_eq]; rfl
      have HC1 := Aside0.mk (count_calls (HT.out.move (fun j hj => M.out.1.block j (HF1.out j hj))))
      clear hcell hfz
      go_wp2_with fail
      refine HC1.out.mono ?_
      rintro ed w11 ⟨rfl, hd⟩
      replace M := Aside0.mk (M.out.drawn hd)
      have hcr := rcount_calls (fp := fun _ => True) ⟨q, HR.out.move (fun j hj => M.out.1.block j (HR.out.lt j hj)), fun _ _ => trivial⟩
      rw [HM.out.syms] at hcr
      have HC2 := Aside0.mk hcr
      clear hd HC1 hcr
      go_wp2_with fail
      refine HC2.out.mono ?_
      rintro ed w12 ⟨rfl, hd⟩
      replace M := Aside0.mk (M.out.drawn hd)
      clear hd HC2
      go_wp2_with fail
      go_ret
      exact ⟨by simp, below_step HB1.out M.out.1⟩
end Go.Proofs.YtpoojimmponklaaDoor.WordsLaw
