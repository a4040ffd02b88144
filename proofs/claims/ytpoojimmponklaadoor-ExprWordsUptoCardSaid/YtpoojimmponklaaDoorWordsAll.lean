/- WordsRef, WordsTab, WordsPrint: in one text. -/
import Derived.Test.YtpoojimmponklaaDoorRefAll
import Derived.Test.YtpoojimmponklaaDoorKeepsAll
import Derived.Test.YtpoojimmponklaaDoorWordsPure
namespace Go.Proofs.YtpoojimmponklaaDoor.WordsRef
open Go.Proofs.YtpoojimmponklaaDoor.SymHeap hiding num
open Go.RowKit Go.Maps Go.Proofs.YtpoojimmponklaaDoor.SymTab Go.Proofs.YtpoojimmponklaaDoor.SymReads Go.Proofs.YtpoojimmponklaaDoor.SymApi Go.Proofs.YtpoojimmponklaaDoor.SymRef Go.Proofs.YtpoojimmponklaaDoor.SymRefDoes Go.Proofs.YtpoojimmponklaaDoor.SymRefMore Go.Proofs.YtpoojimmponklaaDoor.SymRefVar Go.Proofs.YtpoojimmponklaaDoor.SymPair Go.Proofs.YtpoojimmponklaaDoor.ReadW Go.Proofs.YtpoojimmponklaaDoor.KeepsFuns
open Go.Proofs.YtpoojimmponklaaDoorW.PrintWords
open Go.Proofs.YtpoojimmponklaaDoorW.PrintLast
open Go.Proofs.YtpoojimmponklaaDoor.KeepsLib (num)
set_option linter.unusedVariables false
set_option linter.unusedSimpArgs false
section
variable {w : World} {p g : Nat} {T : Tab} {R : Ref} {q : RParts}
set_option maxHeartbeats 1000000 in
set_option maxRecDepth 100000 in
theorem rfind_t (h : RHolds w p g R q) (hm : Mir T R) (hg : g + 2 < 17592186044416) (s : ByteArray) (hs : s.size ≤ maxLen) {v : Int} (h3 : numI (idx R.syms s) = v) {b : Bool} (h5 : rActive R v = b) :
    Calls Tryd.prog 67 #[.pointer (some ⟨p, 0, none⟩), .string s] w fun e w' => e = .returned (.tuple #[.int .i64 (if b then v else 0), .bool b]) ∧ Drawn0 w w' := by
  have H := Aside0.mk h
  have hfew := hm.wf.few
  rw [← hm.syms] at hfew
  have Hfew := Lib.hid hfew
  have H3 := Lib.hid h3
  have H5 := Lib.hid h5
  clear h hm hfew h3 h5
  cases b
  all_goals
    go_enter Tryd.func67, Tryd.ntmps67
    go_wp2_with fail
    refine (number_h H.out Hfew.out hs H3.out).mono ?_
    rintro e w3 ⟨rfl, hd3⟩
    have D3 := Aside0.mk hd3
    clear hd3
    go_wp2_with fail
    refine (ractive_h (hdrawn H.out D3.out) (by unfold maxLen; omega) H5.out).mono ?_
    rintro e w4 ⟨rfl, hd4⟩
    have D4 := Aside0.mk (dtrans D3.out hd4)
    clear hd4
    go_wp2_with fail
    go_ret2
    exact ⟨rfl, D4.out⟩
theorem rfind_d (h : RHolds w p g R q) (hm : Mir T R) (hg : g + 2 < 17592186044416) (s : ByteArray) (hs : s.size ≤ maxLen) :
    Calls Tryd.prog 67 #[.pointer (some ⟨p, 0, none⟩), .string s] w fun e w' => e = .returned (.tuple #[.int .i64 ((findT T s).1 : Int), .bool (findT T s).2]) ∧ Drawn0 w w' := by
  cases ha : T.act s with
  | some n =>
    have hc : findT T s = (n, true) := by unfold findT; rw [ha]
    have hn := hm.wf.act s n ha
    have h5 := act_of hm hn
    rw [ha] at h5
    rw [← hm.syms] at hn
    rw [hc]
    exact rfind_t h hm hg s hs (v := (n : Int)) (by rw [hn]; rfl) (b := true) h5
  | none =>
    have hc : findT T s = (0, false) := by unfold findT; rw [ha]
    rw [hc]
    cases hn : idx T.syms s with
    | some n =>
      have h5 := act_of hm hn
      rw [ha] at h5
      rw [← hm.syms] at hn
      exact rfind_t h hm hg s hs (v := (n : Int)) (by rw [hn]; rfl) (b := false) h5
    | none =>
      rw [← hm.syms] at hn
      exact rfind_t h hm hg s hs (v := -1) (by rw [hn]; rfl) (b := false) act_no
end
set_option maxHeartbeats 4000000 in
theorem rread_calls {w : World} {p g : Nat} {T : Tab} {R : Ref} {q : RParts} (h : RHolds w p g R q) (hm : Mir T R) (hg : g + 2 < 17592186044416) (A : Option Addr) (c : Nat) (ws : List ByteArray) (hC : Kd.C Kd.string w A ws.length ws) (hl : ws.length ≤ 1048576 * 4) (hs : ∀ s ∈ ws, s.size ≤ maxLen) :
    Calls Tryd.prog 54 #[.pointer (some ⟨p, 0, none⟩), .slice A ws.length c] w fun ed w' => ∃ v, ed = .returned (.tuple #[v, .int .i64 (readT T ws).2.1, .int .i64 (readT T ws).2.2]) ∧ w'.ownsRow w.heap.size 3 1 v (readT T ws).1.length ((readT T ws).1.map num) ∧ Below w.heap.size w w' := by
  have HT := Aside0.mk h
  have HM := Aside0.mk hm
  have HC := Aside0.mk hC
  clear h hC hm
  go_enter Tryd.func54, Tryd.ntmps54
  go_wp2_with fail
  go_loopw [7, 8] (fun v7 v14 wr => ∃ (i : Nat) (out : List Int), i ≤ ws.length ∧ i ≤ 200 ∧ v14 = .int .i64 i ∧ out.length = i ∧ Aside0 (readGo T (ws.drop i) i out = readT T ws) ∧ Aside0 (wr.ownsRow w.heap.size 3 1 v7 i (out.map num)) ∧ Aside0 (Below w.heap.size w wr)) (fun _ v14 _ => ws.length - (intOf v14).toNat)
  case atStart => exact ⟨0, [], by omega, by omega, rfl, rfl, ⟨rfl⟩, ⟨World.ownsRow_nil _ _ _ _⟩, ⟨Below.refl _ _⟩⟩
  case round =>
    obtain ⟨i, out, hi, hi2, rfl, hout, HG, HO, HB⟩ := hrel
    by_cases hlt : i < ws.length
    · obtain ⟨ad, rfl, hx⟩ := Kd.at_string (Kd.C_below HC.out HB.out) (i : Int) (by omega) (by omega)
      rw [rdOf_of hlt, Int.toNat_natCast] at hx
      have hG := HG.out
      rw [List.drop_eq_getElem_cons hlt, readGo] at hG
      have hsz := hs ws[i] (List.getElem_mem hlt)
      generalize ws[i] = s at hx hG hsz
      by_cases h200 : i = 200
      · rw [if_pos h200] at hG
        have e200 : ((i : Int) == 200) = true := by simpa using (by omega : (i : Int) = 200)
        have HG' := Aside0.mk hG
        clear h200 hi2
        clear hG HG
        go_wp2_with fail
        go_ret3
        refine ⟨.slice none 0 0, ?_, ?_, HB.out⟩
        · rw [← HG'.out]; rfl
        · rw [← HG'.out]; exact World.ownsRow_nil _ _ _ _
      · rw [if_neg h200] at hG
        have e200 : ((i : Int) == 200) = false := by simpa using (by omega : ¬ (i : Int) = 200)
        clear HG
        have hTb := HT.out.move (fun k hk => HB.out.block k (HT.out.lt k hk))
        have hf := rfind_d hTb HM.out hg s hsz
        unfold findT at hf
        clear hTb
        cases hact : T.act s with
        | none =>
          rw [hact] at hG hf
          have HG' := Aside0.mk hG
          have Hf := Aside0.mk hf
          clear hG hf
          go_wp2_with fail
          refine Hf.out.mono ?_
          rintro ed w2 ⟨rfl, nq, rfl⟩
          clear Hf
          go_wp2_with fail
          go_ret3
          refine ⟨.slice none 0 0, ?_, ?_, pw_below_drewN HB.out nq⟩
          · rw [← HG'.out]; rfl
          · rw [← HG'.out]; exact World.ownsRow_nil _ _ _ _
        | some n =>
          rw [hact] at hG hf
          have HG' := Aside0.mk hG
          have Hf := Aside0.mk hf
          clear hG hf
          obtain ⟨A5, c5, e5, _⟩ := row_slice HO.out
          subst e5
          obtain ⟨i3, hi3, hz0, hz1, hz2⟩ := info_parts info3'
          have Hi3 := Aside0.mk hi3
          have Hz03 := Aside0.mk hz0
          have Hz13 := Aside0.mk hz1
          have Hz23 := Aside0.mk hz2
          clear hi3 hz0 hz1 hz2
          go_wp2_with fail
          refine Hf.out.mono ?_
          rintro ed w2 ⟨rfl, nq, rfl⟩
          clear Hf
          have HO2 := Aside0.mk (show (wr.drewN nq).ownsRow w.heap.size 3 1 (.slice A5 i c5) i (out.map num) from HO.out)
          have HB2 := Aside0.mk (pw_below_drewN HB.out nq)
          obtain ⟨w2, hw2⟩ : ∃ w2, w2 = wr.drewN nq := ⟨_, rfl⟩
          rw [← hw2] at HO2 HB2 ⊢
          clear hw2 HO HB
          go_wp2_with (at_builtin; refine wpList_append_own_at _ rfl (.tmp 32) (.tmp 34) 57 rfl w.heap.size 3 i3 (.int .i64 0) 1 8 Tryd.underlying57 Hi3.out Hz03.out Hz13.out Hz23.out rfl (by decide) _ i (out.map num) rfl (HO2.out.alloc _) ⟨w2.heap.size, 0, none⟩ 1 1 [num (n : Int)] rfl rfl (cell_one_new _ _ _) ?c2 (by unfold maxLen; omega) (by omega) ?c3 ?_)
          case c2 => intro u hu; simp at hu; subst hu; rfl
          case c3 => have := HB2.out.size; simp; omega
          intro v7 w7 hown7 hgrow7 hnil7 hat7
          have HO7 := Aside0.mk hown7
          have HB7 := Aside0.mk ((HB2.out.alloc HB2.out.size (.cells #[num (n : Int)] 3)).grown hgrow7 (by have := HB2.out.size; simp; omega) (fun b hb => (HO2.out.lt b hb).1))
          clear hown7 hgrow7 hnil7 hat7
          go_wp2_with fail
          go_roundw
          case rel => exact ⟨i + 1, out ++ [(n : Int)], by omega, by omega, by go_num, by simp [hout], HG', by simpa using HO7, HB7⟩
          case measure => simp [intOf]; omega
    · have hi' : i = ws.length := by omega
      have hG := HG.out
      rw [List.drop_of_length_le (by omega), readGo] at hG
      have HG' := Aside0.mk hG
      clear hG HG
      obtain ⟨A5, c5, e5, _⟩ := row_slice HO.out
      subst e5
      go_wp2_with fail
      go_ret3
      refine ⟨.slice A5 i c5, ?_, ?_, HB.out⟩
      · rw [← HG'.out]; rfl
      · rw [← HG'.out]; simpa [hout] using HO.out
end Go.Proofs.YtpoojimmponklaaDoor.WordsRef

namespace Go.Proofs.YtpoojimmponklaaDoor.WordsTab
open Go.Proofs.YtpoojimmponklaaDoor.SymHeap hiding num
open Go.RowKit Go.Maps Go.Proofs.YtpoojimmponklaaDoor.SymTab Go.Proofs.YtpoojimmponklaaDoor.SymReads Go.Proofs.YtpoojimmponklaaDoor.SymApi Go.Proofs.YtpoojimmponklaaDoor.SymSep Go.Proofs.YtpoojimmponklaaDoor.SymRef Go.Proofs.YtpoojimmponklaaDoor.SymRefDoes Go.Proofs.YtpoojimmponklaaDoor.SymRefMore Go.Proofs.YtpoojimmponklaaDoor.SymRefVar Go.Proofs.YtpoojimmponklaaDoor.SymRefLabel Go.Proofs.YtpoojimmponklaaDoor.SymPair Go.Proofs.YtpoojimmponklaaDoor.Handed Go.Proofs.YtpoojimmponklaaDoor.KeepsMore
open Go.Proofs.YtpoojimmponklaaDoorW.PrintWords
open Go.Proofs.YtpoojimmponklaaDoorW.PrintLast
open Go.Proofs.YtpoojimmponklaaDoor.KeepsLib (num)
set_option linter.unusedVariables false
set_option linter.unusedSimpArgs false

/-- A table of the document's that mirrors T. -/
def refR (r gr : Nat) (T : Tab) : Res :=
  ⟨fun w f => ∃ R, Mir T R ∧ RefIs w r gr R f, fun ⟨R, hm, h⟩ hx => ⟨R, hm, h.move hx⟩, fun ⟨R, hm, h⟩ hx => ⟨R, hm, h.mono hx⟩, fun ⟨R, hm, h⟩ => ⟨R, hm, h.bound⟩⟩
section
variable {W w : World} {rs : List Res} {p g r gr : Nat} {T : Tab} {s : ByteArray}
theorem s_const' (hb : SymScan.Blanks W) (h : SymSep.Sep W w (tabR p g T :: rs)) (hs : s.size ≤ maxLen) (hg : g + 2 < maxLen) :
    Calls Tryd.prog 18 #[.pointer (some ⟨p, 0, none⟩), .string s] w fun e w' => e = .returned (.tuple #[.int .i64 ((constT T s).2.1 : Int), .int .i64 ((constT T s).2.2 : Int)]) ∧ SymSep.Sep W w' (tabR p (g + 2) (constT T s).1 :: rs) :=
  h.calls fun F1 h1 => const_api (Handed.s_blanks h hb) h1 s hs hg
theorem s_var (hb : SymScan.Blanks W) (h : SymSep.Sep W w (tabR p g T :: rs)) (hs : s.size ≤ maxLen) (hg : g + 2 < maxLen) :
    Calls Tryd.prog 22 #[.pointer (some ⟨p, 0, none⟩), .string s] w fun e w' => e = .returned (.tuple #[.int .i64 ((varT T s).2.1 : Int), .int .i64 ((varT T s).2.2 : Int)]) ∧ SymSep.Sep W w' (tabR p (g + 2) (varT T s).1 :: rs) :=
  h.calls fun F1 h1 => var_api (Handed.s_blanks h hb) h1 s hs hg
theorem s_open (h : SymSep.Sep W w (tabR p g T :: rs)) :
    Calls Tryd.prog 17 #[.pointer (some ⟨p, 0, none⟩)] w fun e w' => e = .returned (.int .i64 ((openS T).2 : Int)) ∧ SymSep.Sep W w' (tabR p g (openS T).1 :: rs) :=
  h.calls fun F1 h1 => open_api h1
theorem s_close (h : SymSep.Sep W w (tabR p g T :: rs)) :
    Calls Tryd.prog 19 #[.pointer (some ⟨p, 0, none⟩)] w fun e w' => e = .returned (.int .i64 ((closeS T).2 : Int)) ∧ SymSep.Sep W w' (tabR p g (closeS T).1 :: rs) :=
  h.calls fun F1 h1 => close_api h1
theorem ref_turn {f : Nat → Prop} {R' : Ref} {q : RParts} {w' : World} {T' : Tab} (hq : ∀ k, q.has r k → f k) (hm : Mir T' R') (h : RSteps w w' r (gr + 1) R' q) : (refR r (gr + 1) T').at_ w' (More f w.heap.size) ∧ Turns f w w' := by
  obtain ⟨q', h1, h2, h3⟩ := h
  refine ⟨⟨R', hm, q', h1, fun k hk => ?_⟩, h3.mono hq⟩
  rcases h2 k hk with hk | hk
  · exact .inl (hq k hk)
  · exact .inr hk
theorem s_refcalls {f : FuncId} {args : Array Value} {P : Ending → Prop} {T' : Tab} (h : SymSep.Sep W w (refR r gr T :: rs)) (hd : ∀ R q, Mir T R → RHolds w r gr R q → Calls Tryd.prog f args w fun e w' => ∃ R', (P e ∧ Mir T' R') ∧ RSteps w w' r (gr + 1) R' q) :
    Calls Tryd.prog f args w fun e w' => P e ∧ SymSep.Sep W w' (refR r (gr + 1) T' :: rs) :=
  h.calls fun F1 ⟨R, hm, q, hq, hqf⟩ => (hd R q hm hq).mono fun e w' ⟨R', ⟨he, hm'⟩, hs⟩ => ⟨he, ref_turn hqf hm' hs⟩
theorem s_rconst (h : SymSep.Sep W w (refR r gr T :: rs)) (hs : s.size ≤ maxLen) (hg : gr + 2 < 17592186044416) :
    Calls Tryd.prog 65 #[.pointer (some ⟨r, 0, none⟩), .string s] w fun e w' => e = .returned (.tuple #[.int .i64 ((constT T s).2.1 : Int), .int .i64 ((constT T s).2.2 : Int)]) ∧ SymSep.Sep W w' (refR r (gr + 1) (constT T s).1 :: rs) :=
  s_refcalls h fun R q hm hq => (rconst_calls hq hm hg s hs).mono fun e w' ⟨R', a, b, c⟩ => ⟨R', ⟨a, b⟩, c⟩
theorem s_rvar (h : SymSep.Sep W w (refR r gr T :: rs)) (hs : s.size ≤ maxLen) (hg : gr + 2 < 17592186044416) :
    Calls Tryd.prog 66 #[.pointer (some ⟨r, 0, none⟩), .string s] w fun e w' => e = .returned (.tuple #[.int .i64 ((varT T s).2.1 : Int), .int .i64 ((varT T s).2.2 : Int)]) ∧ SymSep.Sep W w' (refR r (gr + 1) (varT T s).1 :: rs) :=
  s_refcalls h fun R q hm hq => (rvar_calls hq hm hg hs).mono fun e w' ⟨R', a, b, c⟩ => ⟨R', ⟨a, b⟩, c⟩
theorem s_ropen (h : SymSep.Sep W w (refR r gr T :: rs)) (hg : gr + 2 < 17592186044416) :
    Calls Tryd.prog 63 #[.pointer (some ⟨r, 0, none⟩)] w fun e w' => e = .returned (.int .i64 ((openS T).2 : Int)) ∧ SymSep.Sep W w' (refR r (gr + 1) (openS T).1 :: rs) :=
  s_refcalls h fun R q hm hq => ropen_calls' hq hm hg
theorem s_rclose (h : SymSep.Sep W w (refR r gr T :: rs)) (hg : gr + 2 < 17592186044416) :
    Calls Tryd.prog 64 #[.pointer (some ⟨r, 0, none⟩)] w fun e w' => e = .returned (.int .i64 ((closeS T).2 : Int)) ∧ SymSep.Sep W w' (refR r (gr + 1) (closeS T).1 :: rs) :=
  s_refcalls h fun R q hm hq => rclose_calls' hq hm hg
theorem mir_empty : Mir empty ⟨[], [], []⟩ := by
  refine ⟨rfl, rfl, rel_empty, ?_⟩
  exact WF.empty
theorem s_ref (h : SymSep.Sep W w rs) : Calls Tryd.prog 34 #[] w fun e w' => ∃ r, e = .returned (.pointer (some ⟨r, 0, none⟩)) ∧ SymSep.Sep W w' (refR r 0 empty :: rs) := by
  refine rnew_calls.mono ?_
  rintro e w' ⟨r, q, he, hq, hqn, ht⟩
  exact ⟨r, he, h.fresh (f := q.has r) ht ⟨_, mir_empty, q, hq, fun _ hk => hk⟩ hqn⟩
theorem tab_more {g' gr' : Nat} {T' : Tab} (h : SymSep.Sep W w [tabR p g T, refR r gr T']) (hg : g ≤ g') (hr : gr ≤ gr') : SymSep.Sep W w [tabR p g' T, refR r gr' T'] := by
  have h1 : SymSep.Sep W w [tabR p g' T, refR r gr T'] := h.told fun f hf => hf.more hg
  have h2 : SymSep.Sep W w [refR r gr' T', tabR p g' T] := h1.swap.told fun f ⟨R, hm, hx⟩ => ⟨R, hm, hx.more hr⟩
  exact h2.swap
end

structure DeclRec where
  k : Int
  s : ByteArray
/-- Declarations lie in w. -/
structure Decls (w : World) (A : Option Addr) (l : List DeclRec) : Prop where
  some_ : 0 < l.length → ∃ a, A = some a
  at_ : ∀ a i x, A = some a → l[i]? = some x → w.cell? (a.add (i * 2)) = some (.int .i64 x.k) ∧ w.cell? ⟨(a.add (i * 2)).block, (a.add (i * 2)).off + 1, none⟩ = some (.string x.s) ∧ x.s.size ≤ maxLen
theorem Decls.below {w w' : World} {A : Option Addr} {l : List DeclRec} (h : Decls w A l) (hb : Below w.heap.size w w') : Decls w' A l := by
  refine ⟨h.some_, fun a i x ha hx => ?_⟩
  obtain ⟨h1, h2, h3⟩ := h.at_ a i x ha hx
  exact ⟨(hb.cell (World.block_lt_of_cell? w _ h1)).trans h1, (hb.cell (World.block_lt_of_cell? w _ h2)).trans h2, h3⟩

set_option maxHeartbeats 8000000 in
set_option maxRecDepth 100000 in
theorem tables_calls {w : World} (hb : SymScan.Blanks w) (A : Option Addr) (c : Nat) (l : List DeclRec) (hl : l.length ≤ 4398046511104) (hd : Decls w A l) :
    Calls Tryd.prog 53 #[.slice A l.length c] w fun e w' => ∃ (p r : Nat) (T : Tab), e = .returned (.tuple #[.pointer (some ⟨p, 0, none⟩), .pointer (some ⟨r, 0, none⟩), .bool true]) ∧ SymSep.Sep w w' [tabR p (2 * l.length) T, refR r l.length T] := by
  have Hb := Lib.hid hb
  have HD := Aside0.mk hd
  clear hb hd
  go_enter Tryd.func53, Tryd.ntmps53
  go_wp2_with fail
  refine (s_tab (Sep.start w)).mono ?_
  rintro e w1 ⟨p, rfl, hm⟩
  have M := Aside0.mk hm
  clear hm
  go_wp2_with fail
  refine (s_ref M.out).mono ?_
  rintro e w2 ⟨r, rfl, hm⟩
  replace M := Aside0.mk hm.swap
  clear hm
  go_wp2_with fail
  go_loopw [7, 8] (fun v7 v8 wr => ∃ (i : Nat) (T : Tab), i ≤ l.length ∧ v7 = .bool true ∧ v8 = .int .i64 i ∧ Aside0 (SymSep.Sep w wr [tabR p (2 * i) T, refR r i T])) (fun _ v8 _ => l.length - (intOf v8).toNat)
  case atStart => exact ⟨0, empty, by omega, rfl, rfl, M⟩
  case round =>
    clear M
    obtain ⟨i, T, hi, rfl, rfl, M⟩ := hrel
    by_cases hlt : i < l.length
    · obtain ⟨a, rfl⟩ := HD.out.some_ (by omega)
      obtain ⟨x1, x2, hxs⟩ := (HD.out.below M.out.1).at_ a i l[i] rfl (List.getElem?_eq_getElem hlt)
      have HX := Aside0.mk (List.getElem?_eq_getElem hlt)
      generalize l[i] = x at x1 x2 hxs HX
      obtain ⟨k, s⟩ := x
      simp only at x1 x2 hxs
      have hg : 2 * i + 2 < maxLen := by unfold maxLen; omega
      by_cases k1 : k = 1
      · subst k1
        go_wp2_with fail
        refine (s_rconst M.out.swap hxs (by omega)).mono ?_
        rintro e w3 ⟨rfl, hm⟩
        replace M := Aside0.mk hm.swap
        obtain ⟨_, y2, _⟩ := (HD.out.below M.out.1).at_ a i ⟨1, s⟩ rfl HX.out
        clear hm x1 x2
        simp only at y2
        go_wp2_with fail
        refine (s_const' Hb.out M.out hxs hg).mono ?_
        rintro e w4 ⟨rfl, hm⟩
        replace M := Aside0.mk (tab_more hm (show _ ≤ 2 * (i + 1) by omega) (Nat.le_refl _))
        clear hm y2
        go_wp2_with fail
        go_roundw
        case rel => exact ⟨i + 1, _, by omega, by simp, by go_num, M⟩
        case measure => simp [intOf]; omega
      by_cases k2 : k = 2
      · subst k2
        go_wp2_with fail
        refine (s_rvar M.out.swap hxs (by omega)).mono ?_
        rintro e w3 ⟨rfl, hm⟩
        replace M := Aside0.mk hm.swap
        obtain ⟨_, y2, _⟩ := (HD.out.below M.out.1).at_ a i ⟨2, s⟩ rfl HX.out
        clear hm x1 x2
        simp only at y2
        go_wp2_with fail
        refine (s_var Hb.out M.out hxs hg).mono ?_
        rintro e w4 ⟨rfl, hm⟩
        replace M := Aside0.mk (tab_more hm (show _ ≤ 2 * (i + 1) by omega) (Nat.le_refl _))
        clear hm y2
        go_wp2_with fail
        go_roundw
        case rel => exact ⟨i + 1, _, by omega, by simp, by go_num, M⟩
        case measure => simp [intOf]; omega
      by_cases k3 : k = 3
      · subst k3
        go_wp2_with fail
        refine (s_open M.out).mono ?_
        rintro e w3 ⟨rfl, hm⟩
        replace M := Aside0.mk hm
        clear hm x1 x2
        go_wp2_with fail
        refine (s_ropen M.out.swap (by omega)).mono ?_
        rintro e w4 ⟨rfl, hm⟩
        replace M := Aside0.mk (tab_more hm.swap (show _ ≤ 2 * (i + 1) by omega) (Nat.le_refl _))
        clear hm
        go_wp2_with fail
        go_roundw
        case rel => exact ⟨i + 1, _, by omega, by simp, by go_num, M⟩
        case measure => simp [intOf]; omega
      by_cases k4 : k = 4
      · subst k4
        go_wp2_with fail
        refine (s_close M.out).mono ?_
        rintro e w3 ⟨rfl, hm⟩
        replace M := Aside0.mk hm
        clear hm x1 x2
        go_wp2_with fail
        refine (s_rclose M.out.swap (by omega)).mono ?_
        rintro e w4 ⟨rfl, hm⟩
        replace M := Aside0.mk (tab_more hm.swap (show _ ≤ 2 * (i + 1) by omega) (Nat.le_refl _))
        clear hm
        go_wp2_with fail
        go_roundw
        case rel => exact ⟨i + 1, _, by omega, by simp, by go_num, M⟩
        case measure => simp [intOf]; omega
      have e1 : (k == 1) = false := by simpa using k1
      have e2 : (k == 2) = false := by simpa using k2
      have e3 : (k == 3) = false := by simpa using k3
      have e4 : (k == 4) = false := by simpa using k4
      replace M := Aside0.mk (tab_more M.out (show _ ≤ 2 * (i + 1) by omega) (show _ ≤ i + 1 by omega))
      clear k1 k2 k3 k4
      go_wp2_with fail
      go_roundw
      case rel => exact ⟨i + 1, T, by omega, rfl, by go_num, M⟩
      case measure => simp [intOf]; omega
    · have hi' : i = l.length := by omega
      subst hi'
      go_wp2_with fail
      go_ret3
      exact ⟨p, r, T, rfl, M.out⟩
end Go.Proofs.YtpoojimmponklaaDoor.WordsTab

namespace Go.Proofs.YtpoojimmponklaaDoor.WordsPrint
open Go.Proofs.YtpoojimmponklaaDoor.SymHeap hiding num
open Go.RowKit Go.Maps Go.Proofs.YtpoojimmponklaaDoor.SymTab Go.Proofs.YtpoojimmponklaaDoor.SymReads Go.Proofs.YtpoojimmponklaaDoor.SymApi Go.Proofs.YtpoojimmponklaaDoor.SymRef Go.Proofs.YtpoojimmponklaaDoor.SymRefDoes Go.Proofs.YtpoojimmponklaaDoor.SymRefMore Go.Proofs.YtpoojimmponklaaDoor.SymRefVar Go.Proofs.YtpoojimmponklaaDoor.SymPair Go.Proofs.YtpoojimmponklaaDoor.KeepsFuns Go.Proofs.YtpoojimmponklaaDoor.KeepsLast Go.Proofs.YtpoojimmponklaaDoor.WordsPure Go.Proofs.YtpoojimmponklaaDoor.PExprWords
open Go.Proofs.YtpoojimmponklaaDoorW.PrintWords
open Go.Proofs.YtpoojimmponklaaDoorW.PrintLast
open Go.Proofs.YtpoojimmponklaaDoor.KeepsLib (num)
set_option linter.unusedVariables false
set_option linter.unusedSimpArgs false

theorem rname_m {w : World} {r gr : Nat} {T : Tab} {R : Ref} {q : RParts} (h : RHolds w r gr R q) (hm : Mir T R) (n : Int) :
    Calls Tryd.prog 39 #[.pointer (some ⟨r, 0, none⟩), .int .i64 n] w fun e w' => e = .returned (.string (nameT T n)) ∧ Drawn0 w w' := by
  have := rname_calls (fp := fun _ => True) ⟨q, h, fun _ _ => trivial⟩ n
  rw [mir_name hm] at this
  exact this
theorem isEmpty_eq (s : ByteArray) : s.toList.isEmpty = decide (s = ByteArray.empty) := by
  rw [← str_eqb s ByteArray.empty, show ByteArray.empty.toList = [] by simp [ByteArray.toList, ByteArray.toList.loop]]
  cases s.toList <;> rfl
set_option maxHeartbeats 8000000 in
set_option maxRecDepth 100000 in
theorem rprint_calls {w : World} {r gr : Nat} {T : Tab} {R : Ref} {q : RParts} (h : RHolds w r gr R q) (hm : Mir T R) (A : Option Addr) (c : Nat) (e : List Int) (hC : CI w A e) (hl : e.length ≤ 1048576) (hf : Fits e) :
    Calls Tryd.prog 55 #[.pointer (some ⟨r, 0, none⟩), .slice A e.length c] w fun ed w' => ed = .returned (.string (WordsPure.bytesOf (textTo T e))) ∧ Below w.heap.size w w' := by
  have HT := Aside0.mk h
  have HM := Aside0.mk hm
  have HC := Aside0.mk hC
  have HF := Aside0.mk hf
  clear h hC hm hf
  go_enter Tryd.func55, Tryd.ntmps55
  go_wp2_with fail
  go_loopw [5, 6] (fun v5 v6 wr => ∃ (k : Nat), k ≤ e.length ∧ v6 = .int .i64 k ∧ v5 = .string (WordsPure.bytesOf (textTo T (e.take k))) ∧ Aside0 (Below w.heap.size w wr)) (fun _ v6 _ => e.length - (intOf v6).toNat)
  case atStart => exact ⟨0, by omega, rfl, rfl, ⟨Below.refl _ _⟩⟩
  case round =>
    obtain ⟨k, hk, rfl, rfl, HB⟩ := hrel
    by_cases hlt : k < e.length
    · obtain ⟨ad, rfl, hx⟩ := Kd.at_int (Kd.C_below HC.out HB.out) (k : Int) (by omega) (by omega)
      rw [rd_of hlt, Int.toNat_natCast] at hx
      obtain ⟨_, eqa, hx0⟩ := Kd.at_int HC.out (k : Int) (by omega) (by omega)
      cases eqa
      rw [rd_of hlt, Int.toNat_natCast] at hx0
      have HX := Aside0.mk hx0
      clear hx0
      have hfx := HF.out e[k] (List.getElem_mem hlt)
      have hts := text_small HM.out.wf HF.out k (by omega)
      have hsucc := text_succ T e hlt
      have hws := word_small HM.out.wf hfx.1 hfx.2
      generalize e[k] = x at hx hfx hsucc hws HX
      have Hs := Aside0.mk hsucc
      generalize textTo T (e.take k) = t at hts Hs
      have HN := Aside0.mk (rname_m (HT.out.move (fun j hj => HB.out.block j (HT.out.lt j hj))) HM.out x)
      clear hsucc
      obtain ⟨m, hm⟩ : ∃ m, m = nameT T x := ⟨_, rfl⟩
      have hword : m.toList.isEmpty = true ∧ wordOf T x = 36 :: Lib.itoa x ∨ m.toList.isEmpty = false ∧ WordsPure.bytesOf (wordOf T x) = m := by
        by_cases he : nameT T x = ByteArray.empty
        · left
          rw [hm, he]
          exact ⟨by rw [isEmpty_eq]; rfl, by unfold wordOf; rw [if_pos he]⟩
        · right
          rw [hm]
          exact ⟨by rw [isEmpty_eq]; simpa using he, by unfold wordOf; rw [if_neg he]; exact bytes_list _⟩
      rw [← hm] at HN
      clear hm
      generalize wordOf T x = wd at hws Hs hword
      have step1 : ∃ tb : List UInt8, tb.length ≤ t.length + 1 ∧ (if k = 0 then wd else t ++ WordsPure.blank ++ wd) = tb ++ wd ∧ (0 < k → tb = t ++ WordsPure.blank) ∧ (¬ 0 < k → tb = t) := by
        by_cases h0 : 0 < k
        · exact ⟨t ++ WordsPure.blank, by simp [WordsPure.blank], by rw [if_neg (by omega)], fun _ => rfl, fun h => absurd h0 h⟩
        · refine ⟨t, by omega, ?_, fun h => absurd h h0, fun _ => rfl⟩
          have : t = [] := List.eq_nil_of_length_eq_zero (by omega)
          rw [if_pos (by omega), this]
          rfl
      obtain ⟨tb, htb, hcat, htb1, htb0⟩ := step1
      replace Hs := Aside0.mk (Hs.out.trans hcat)
      have z1 : ¬ 9223372036854775807 < (WordsPure.bytesOf t).size + 1 := by rw [bytes_size]; omega
      have z2 : ¬ 9223372036854775807 < (WordsPure.bytesOf tb).size + (WordsPure.bytesOf wd).size := by rw [bytes_size, bytes_size]; omega
      have join4 : WordsPure.bytesOf tb ++ WordsPure.bytesOf wd = WordsPure.bytesOf (tb ++ wd) := bytes_append tb wd
      by_cases h0 : 0 < k
      · have join2 : WordsPure.bytesOf t ++ ⟨#[32]⟩ = WordsPure.bytesOf tb := by rw [htb1 h0]; exact bytes_append t WordsPure.blank
        clear htb1 htb0 hcat
        go_wp2_with fail
        refine HN.out.mono ?_
        rintro ed w2 ⟨rfl, nq, rfl⟩
        have HB2 := Aside0.mk (pw_below_drewN HB.out nq)
        clear HN HB
        rcases hword with ⟨h1, h2⟩ | ⟨h1, h2⟩
        · have hdec := decimal_f x hfx.1 hfx.2
          have it := itoa_small x hfx.1 hfx.2
          have join3 : (⟨#[36]⟩ : ByteArray) ++ WordsPure.bytesOf (Lib.itoa x) = WordsPure.bytesOf wd := by rw [h2]; exact bytes_append [36] (Lib.itoa x)
          have z3 : ¬ 9223372036854775807 < 1 + (WordsPure.bytesOf (Lib.itoa x)).size := by rw [bytes_size]; omega
          have HDec := Aside0.mk (lemmaref03_Decimal.calls 21 x (WordsPure.bytesOf (Lib.itoa x)) (wr.drewN nq) hdec)
          have hx2 := KeepsWalk.cell_on HB2.out (show w.cell? (ad.add k) = some (.int .i64 x) from HX.out)
          clear hdec it h2
          go_wp2_with fail
          refine HDec.out.mono ?_
          rintro ed w3 ⟨rfl, hB3⟩
          have HB3 := Aside0.mk (below_step HB2.out hB3)
          clear hB3 HDec HB2
          go_wp2_with fail
          go_roundw
          case rel => exact ⟨k + 1, by omega, by go_num, by rw [Hs.out], HB3⟩
          case measure => simp [intOf]; omega
        · rw [h2] at join4 z2
          go_wp2_with fail
          go_roundw
          case rel => exact ⟨k + 1, by omega, by go_num, by rw [Hs.out], HB2⟩
          case measure => simp [intOf]; omega
      · have htb := htb0 h0
        subst htb
        clear htb1 htb0 hcat
        go_wp2_with fail
        refine HN.out.mono ?_
        rintro ed w2 ⟨rfl, nq, rfl⟩
        have HB2 := Aside0.mk (pw_below_drewN HB.out nq)
        clear HN HB
        rcases hword with ⟨h1, h2⟩ | ⟨h1, h2⟩
        · have hdec := decimal_f x hfx.1 hfx.2
          have it := itoa_small x hfx.1 hfx.2
          have join3 : (⟨#[36]⟩ : ByteArray) ++ WordsPure.bytesOf (Lib.itoa x) = WordsPure.bytesOf wd := by rw [h2]; exact bytes_append [36] (Lib.itoa x)
          have z3 : ¬ 9223372036854775807 < 1 + (WordsPure.bytesOf (Lib.itoa x)).size := by rw [bytes_size]; omega
          have HDec := Aside0.mk (lemmaref03_Decimal.calls 21 x (WordsPure.bytesOf (Lib.itoa x)) (wr.drewN nq) hdec)
          have hx2 := KeepsWalk.cell_on HB2.out (show w.cell? (ad.add k) = some (.int .i64 x) from HX.out)
          clear hdec it h2
          go_wp2_with fail
          refine HDec.out.mono ?_
          rintro ed w3 ⟨rfl, hB3⟩
          have HB3 := Aside0.mk (below_step HB2.out hB3)
          clear hB3 HDec HB2
          go_wp2_with fail
          go_roundw
          case rel => exact ⟨k + 1, by omega, by go_num, by rw [Hs.out], HB3⟩
          case measure => simp [intOf]; omega
        · rw [h2] at join4 z2
          go_wp2_with fail
          go_roundw
          case rel => exact ⟨k + 1, by omega, by go_num, by rw [Hs.out], HB2⟩
          case measure => simp [intOf]; omega
    · have hi' : k = e.length := by omega
      subst hi'
      rw [List.take_length]
      go_wp2_with fail
      go_ret
      exact ⟨rfl, HB.out⟩
end Go.Proofs.YtpoojimmponklaaDoor.WordsPrint
