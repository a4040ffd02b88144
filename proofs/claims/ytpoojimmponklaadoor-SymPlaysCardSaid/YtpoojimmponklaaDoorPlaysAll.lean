/- The document's table beside the program's: each call, any script of calls (SymPlays walked). -/
import Derived.Test.YtpoojimmponklaaDoorRefBase
import Derived.Laws.AppendOwnNone
import Derived.Test.YtpoojimmponklaaDoorScript
namespace Go.Proofs.YtpoojimmponklaaDoor.SymRefMore
open Go.RowKit Go.Maps Go.Proofs.YtpoojimmponklaaDoor.SymTab Go.Proofs.YtpoojimmponklaaDoor.SymHeap Go.Proofs.YtpoojimmponklaaDoor.SymReads Go.Proofs.YtpoojimmponklaaDoor.SymAdd Go.Proofs.YtpoojimmponklaaDoor.SymConst Go.Proofs.YtpoojimmponklaaDoor.SymApi Go.Proofs.YtpoojimmponklaaDoor.SymRef Go.Proofs.YtpoojimmponklaaDoor.SymRefDoes Go.Proofs.YtpoojimmponklaaDoor.SymRefNames
open Go.Proofs.YtpoojimmponklaaDoorW.PrintWords
set_option linter.unusedVariables false

/-- The document's table tells what the program's does. -/
structure Mir (T : Tab) (R : Ref) : Prop where
  syms : R.syms = T.syms
  taken : R.taken = T.labels
  rel : Rel T R.acts
  wf : WF T

theorem hdrawn {w w' : World} {p g : Nat} {R : Ref} {q : RParts} (h : RHolds w p g R q) (hd : Drawn0 w w') : RHolds w' p g R q := by
  obtain ⟨n, rfl⟩ := hd
  exact h.move (fun _ _ => rfl)
theorem dtrans {a b c : World} (h : Drawn0 a b) (k : Drawn0 b c) : Drawn0 a c := by
  obtain ⟨n, rfl⟩ := k
  exact Drawn0.step h n
section
variable {w : World} {p g : Nat} {R : Ref} {q : RParts}
theorem rdepth_h (h : RHolds w p g R q) (hg : g < maxLen) {d : Nat} (hd : depthL R.acts = (d : Int)) : Calls Tryd.prog 37 #[.pointer (some ⟨p, 0, none⟩)] w fun e w' => e = .returned (.int .i64 (d : Int)) ∧ Drawn0 w w' := by
  have := rdepth_calls (fp := fun _ => True) ⟨q, h, fun _ _ => trivial⟩ hg
  rwa [hd] at this
theorem number_h (h : RHolds w p g R q) (hn : R.syms.length ≤ 512) {s : ByteArray} (hs : s.size ≤ maxLen) {v : Int} (hv : numI (idx R.syms s) = v) : Calls Tryd.prog 78 #[.pointer (some ⟨p, 0, none⟩), .string s] w fun e w' => e = .returned (.int .i64 v) ∧ Drawn0 w w' := by
  subst hv
  exact number_calls (fp := fun _ => True) ⟨q, h, fun _ _ => trivial⟩ hn s hs
theorem ractive_h (h : RHolds w p g R q) (hg : g < maxLen) {n : Int} {b : Bool} (hv : rActive R n = b) : Calls Tryd.prog 41 #[.pointer (some ⟨p, 0, none⟩), .int .i64 n] w fun e w' => e = .returned (.bool b) ∧ Drawn0 w w' := by
  subst hv
  exact ractive_calls (fp := fun _ => True) ⟨q, h, fun _ _ => trivial⟩ hg n
theorem symName_h {s : ByteArray} {b : Bool} (hb : symOk s = b) : Calls Tryd.prog 77 #[.string s] w fun e w' => e = .returned (.bool b) ∧ Drawn0 w w' := by
  subst hb
  exact symName_calls s
theorem labName_h {s : ByteArray} {b : Bool} (hb : nameOk s = b) : Calls Tryd.prog 79 #[.string s] w fun e w' => e = .returned (.bool b) ∧ Drawn0 w w' := by
  subst hb
  exact labName_calls s
end

/-! ### Const -/
section
variable {w : World} {p g : Nat} {T : Tab} {R : Ref} {q : RParts}
set_option maxHeartbeats 1000000 in
set_option maxRecDepth 100000 in
theorem rconst_1 (h : RHolds w p g R q) (hm : Mir T R) (hg : g + 2 < 17592186044416) (s : ByteArray) (hs : s.size ≤ maxLen) (h1 : 0 < T.scopes.length) :
    Calls Tryd.prog 65 #[.pointer (some ⟨p, 0, none⟩), .string s] w fun e w' => e = .returned (.tuple #[.int .i64 0, .int .i64 23]) ∧ RSteps w w' p (g + 1) R q := by
  have H := Aside0.mk h
  have HM := Aside0.mk hm
  clear h hm
  have d1 : decide ((0 : Int) < (T.scopes.length : Int)) = true := decide_eq_true (by omega)
  go_enter Tryd.func65, Tryd.ntmps65
  go_wp2_with fail
  refine (rdepth_h H.out (by unfold maxLen; omega) HM.out.rel.depth).mono ?_
  rintro e w2 ⟨rfl, hd2⟩
  have D := Aside0.mk hd2
  clear hd2
  go_wp2_with fail
  go_ret2
  exact ⟨rfl, rsteps_drawn H.out (by omega) D.out⟩
set_option maxHeartbeats 1000000 in
set_option maxRecDepth 100000 in
theorem rconst_2 (h : RHolds w p g R q) (hm : Mir T R) (hg : g + 2 < 17592186044416) (s : ByteArray) (hs : s.size ≤ maxLen) (h1 : T.scopes.length = 0) (h2 : symOk s = false) :
    Calls Tryd.prog 65 #[.pointer (some ⟨p, 0, none⟩), .string s] w fun e w' => e = .returned (.tuple #[.int .i64 0, .int .i64 21]) ∧ RSteps w w' p (g + 1) R q := by
  have H := Aside0.mk h
  have HM := Aside0.mk hm
  have H2 := Lib.hid h2
  have hdl := hm.rel.depth
  rw [h1] at hdl
  have Hdl := Aside0.mk hdl
  clear h hm h2 hdl
  go_enter Tryd.func65, Tryd.ntmps65
  go_wp2_with fail
  refine (rdepth_h H.out (by unfold maxLen; omega) Hdl.out).mono ?_
  rintro e w2 ⟨rfl, hd2⟩
  have D := Aside0.mk hd2
  clear hd2
  go_wp2_with fail
  refine (symName_h H2.out).mono ?_
  rintro e w3 ⟨rfl, hd3⟩
  have D3 := Aside0.mk (dtrans D.out hd3)
  clear hd3 D
  go_wp2_with fail
  go_ret2
  exact ⟨rfl, rsteps_drawn H.out (by omega) D3.out⟩
set_option maxHeartbeats 1000000 in
set_option maxRecDepth 100000 in
theorem rconst_3 (h : RHolds w p g R q) (hm : Mir T R) (hg : g + 2 < 17592186044416) (s : ByteArray) (hs : s.size ≤ maxLen) (h1 : T.scopes.length = 0) (h2 : symOk s = true) {n : Nat} (h3 : idx T.syms s = some n) :
    Calls Tryd.prog 65 #[.pointer (some ⟨p, 0, none⟩), .string s] w fun e w' => e = .returned (.tuple #[.int .i64 0, .int .i64 20]) ∧ RSteps w w' p (g + 1) R q := by
  have H := Aside0.mk h
  have H2 := Lib.hid h2
  have hfew := hm.wf.few
  rw [← hm.syms] at h3 hfew
  have Hfew := Lib.hid hfew
  have H3 := Lib.hid (show numI (idx R.syms s) = (n : Int) by rw [h3]; rfl)
  have hdl := hm.rel.depth
  rw [h1] at hdl
  have Hdl := Aside0.mk hdl
  clear h hm h2 hdl h3 hfew
  go_enter Tryd.func65, Tryd.ntmps65
  go_wp2_with fail
  refine (rdepth_h H.out (by unfold maxLen; omega) Hdl.out).mono ?_
  rintro e w2 ⟨rfl, hd2⟩
  have D := Aside0.mk hd2
  clear hd2
  go_wp2_with fail
  refine (symName_h H2.out).mono ?_
  rintro e w3 ⟨rfl, hd3⟩
  have D3 := Aside0.mk (dtrans D.out hd3)
  clear hd3 D
  go_wp2_with fail
  refine (number_h (hdrawn H.out D3.out) Hfew.out hs H3.out).mono ?_
  rintro e w4 ⟨rfl, hd4⟩
  have D4 := Aside0.mk (dtrans D3.out hd4)
  clear hd4 D3
  go_wp2_with fail
  go_ret2
  exact ⟨rfl, rsteps_drawn H.out (by omega) D4.out⟩
set_option maxHeartbeats 1000000 in
set_option maxRecDepth 100000 in
theorem rconst_4 (h : RHolds w p g R q) (hm : Mir T R) (hg : g + 2 < 17592186044416) (s : ByteArray) (hs : s.size ≤ maxLen) (h1 : T.scopes.length = 0) (h2 : symOk s = true) (h3 : idx T.syms s = none) (h4 : 512 ≤ T.syms.length) :
    Calls Tryd.prog 65 #[.pointer (some ⟨p, 0, none⟩), .string s] w fun e w' => e = .returned (.tuple #[.int .i64 0, .int .i64 22]) ∧ RSteps w w' p (g + 1) R q := by
  have H := Aside0.mk h
  have H2 := Lib.hid h2
  have hfew := hm.wf.few
  rw [← hm.syms] at h3 hfew h4
  have Hfew := Lib.hid hfew
  have H3 := Lib.hid (show numI (idx R.syms s) = -1 by rw [h3]; rfl)
  have hdl := hm.rel.depth
  rw [h1] at hdl
  have Hdl := Aside0.mk hdl
  obtain ⟨vs, va, vt⟩ := q
  obtain ⟨A, cap, e, _⟩ := row_slice h.syms
  simp only at e
  subst e
  clear h hm h2 hdl h3 hfew
  go_enter Tryd.func65, Tryd.ntmps65
  go_wp2_with fail
  refine (rdepth_h H.out (by unfold maxLen; omega) Hdl.out).mono ?_
  rintro e w2 ⟨rfl, hd2⟩
  have D := Aside0.mk hd2
  clear hd2
  go_wp2_with fail
  refine (symName_h H2.out).mono ?_
  rintro e w3 ⟨rfl, hd3⟩
  have D3 := Aside0.mk (dtrans D.out hd3)
  clear hd3 D
  go_wp2_with fail
  refine (number_h (hdrawn H.out D3.out) Hfew.out hs H3.out).mono ?_
  rintro e w4 ⟨rfl, hd4⟩
  have D4 := Aside0.mk (dtrans D3.out hd4)
  have c0 := (cell_at (hdrawn H.out D4.out).cells 0).1
  simp only [List.getElem?_toArray, List.getElem?_cons_zero] at c0
  clear hd4 D3
  go_wp2_with fail
  go_ret2
  exact ⟨rfl, rsteps_drawn H.out (by omega) D4.out⟩
set_option maxHeartbeats 1000000 in
set_option maxRecDepth 100000 in
theorem rconst_5 (h : RHolds w p g R q) (hm : Mir T R) (hg : g + 2 < 17592186044416) (s : ByteArray) (hs : s.size ≤ maxLen) (h1 : T.scopes.length = 0) (h2 : symOk s = true) (h3 : idx T.syms s = none) (h4 : T.syms.length < 512) :
    Calls Tryd.prog 65 #[.pointer (some ⟨p, 0, none⟩), .string s] w fun e w' => e = .returned (.tuple #[.int .i64 (R.syms.length : Int), .int .i64 0]) ∧ RSteps w w' p (g + 1) { R with syms := R.syms ++ [(s, false)] } q := by
  have H := Aside0.mk h
  have H2 := Lib.hid h2
  have hfew := hm.wf.few
  rw [← hm.syms] at h3 hfew h4
  have Hfew := Lib.hid hfew
  have H3 := Lib.hid (show numI (idx R.syms s) = -1 by rw [h3]; rfl)
  have hdl := hm.rel.depth
  rw [h1] at hdl
  have Hdl := Aside0.mk hdl
  obtain ⟨vs, va, vt⟩ := q
  obtain ⟨A, cap, e, _⟩ := row_slice h.syms
  simp only at e
  subst e
  obtain ⟨i0, hi, hz0, hz1, hz2⟩ := info_parts info101
  have Hi := Aside0.mk hi
  have Hz0 := Aside0.mk hz0
  have Hz1 := Aside0.mk hz1
  have Hz2 := Aside0.mk hz2
  clear h hm h2 hdl h3 hfew hi hz0 hz1 hz2
  go_enter Tryd.func65, Tryd.ntmps65
  go_wp2_with fail
  refine (rdepth_h H.out (by unfold maxLen; omega) Hdl.out).mono ?_
  rintro e w2 ⟨rfl, hd2⟩
  have D := Aside0.mk hd2
  clear hd2
  go_wp2_with fail
  refine (symName_h H2.out).mono ?_
  rintro e w3 ⟨rfl, hd3⟩
  have D3 := Aside0.mk (dtrans D.out hd3)
  clear hd3 D
  go_wp2_with fail
  refine (number_h (hdrawn H.out D3.out) Hfew.out hs H3.out).mono ?_
  rintro e w4 ⟨rfl, hd4⟩
  have D4 := Aside0.mk (dtrans D3.out hd4)
  have HW := Aside0.mk (hdrawn H.out D4.out)
  have HS := Aside0.mk HW.out.syms
  have c0 := (cell_at HW.out.cells 0).1
  simp only [List.getElem?_toArray, List.getElem?_cons_zero] at c0
  clear hd4 D3
  go_wp2_with (at_builtin; refine wpList_append_own_at _ rfl (.tmp 26) (.tmp 29) 97 rfl 0 101 i0 (.agg #[.string .empty, .bool false]) 2 24 Tryd.underlying97 Hi.out Hz0.out Hz1.out Hz2.out rfl (by decide) _ _ _ rfl (HS.out.alloc _) ⟨w4.heap.size, 0, none⟩ 1 1 [.string s, .bool false] rfl rfl (cells_two_new _ _ _ _) ?c2 (by unfold maxLen; omega) (by omega) (Nat.zero_le _) ?_)
  case c2 => intro u hu; simp at hu; rcases hu with rfl | rfl <;> rfl
  intro v' w5 hown1 hgrow1 hnil1 hat1
  clear hnil1
  obtain ⟨A', cap', e', _⟩ := row_slice hown1
  subst e'
  have hp1 : w5.heap[p]? = some (.cells #[.slice A R.syms.length cap, va, vt] 99 (0, 0)) := cells_after HW.out.cells HS.out hgrow1 (by decide)
  have f1 := (cell_at hp1 0).2
  have d1 := (cell_at hp1 0).1
  simp only [List.getElem?_toArray, List.getElem?_cons_zero] at d1
  have X := Aside0.mk (show RSteps w4 (w5.setCell ⟨p, 0, none⟩ (.slice A' (R.syms.length + 1) cap')) p (g + 1) { R with syms := R.syms ++ [(s, false)] } ⟨.slice A R.syms.length cap, va, vt⟩ from push_syms HW.out (by simpa [symCells] using hown1) hgrow1 (by simpa using hat1))
  clear hown1 hgrow1 hat1 hp1 c0
  go_wp2_with fail
  go_ret2
  exact ⟨rfl, X.out.before D4.out⟩
end

theorem mir_const {T : Tab} {R : Ref} (hm : Mir T R) (s : ByteArray) (h1 : T.scopes.length = 0) (h2 : symOk s = true) (h3 : idx T.syms s = none) (h4 : T.syms.length < 512) :
    constT T s = ({ added T s false with act := upd T.act s T.syms.length }, T.syms.length, 0) ∧ Mir (constT T s).1 { R with syms := R.syms ++ [(s, false)] } := by
  have hc : constT T s = ({ added T s false with act := upd T.act s T.syms.length }, T.syms.length, 0) := by
    unfold constT
    rw [if_neg (by omega), if_neg (by simp [h2]), if_neg (by simp [h3]), if_neg (by omega)]
  refine ⟨hc, ?_, ?_, rel_const hm.wf hm.rel s, wf_const hm.wf s⟩
  · rw [hc, hm.syms]; rfl
  · rw [hc, hm.taken]; rfl
theorem rconst_calls {w : World} {p g : Nat} {T : Tab} {R : Ref} {q : RParts} (h : RHolds w p g R q) (hm : Mir T R) (hg : g + 2 < 17592186044416) (s : ByteArray) (hs : s.size ≤ maxLen) :
    Calls Tryd.prog 65 #[.pointer (some ⟨p, 0, none⟩), .string s] w fun e w' => ∃ R', e = .returned (.tuple #[.int .i64 ((constT T s).2.1 : Int), .int .i64 ((constT T s).2.2 : Int)]) ∧ Mir (constT T s).1 R' ∧ RSteps w w' p (g + 1) R' q := by
  by_cases h1 : 0 < T.scopes.length
  · have hc : constT T s = (T, 0, 23) := by unfold constT; rw [if_pos h1]
    rw [hc]
    exact (rconst_1 h hm hg s hs h1).mono fun e w' ⟨he, hd⟩ => ⟨R, he, hm, hd⟩
  · have h1' : T.scopes.length = 0 := by omega
    cases h2 : symOk s with
    | false =>
      have hc : constT T s = (T, 0, 21) := by unfold constT; rw [if_neg h1, if_pos h2]
      rw [hc]
      exact (rconst_2 h hm hg s hs h1' h2).mono fun e w' ⟨he, hd⟩ => ⟨R, he, hm, hd⟩
    | true =>
      cases h3 : idx T.syms s with
      | some n =>
        have hc : constT T s = (T, 0, 20) := by unfold constT; rw [if_neg h1, if_neg (by simp [h2]), if_pos (by simp [h3])]
        rw [hc]
        exact (rconst_3 h hm hg s hs h1' h2 h3).mono fun e w' ⟨he, hd⟩ => ⟨R, he, hm, hd⟩
      | none =>
        by_cases h4 : 512 ≤ T.syms.length
        · have hc : constT T s = (T, 0, 22) := by unfold constT; rw [if_neg h1, if_neg (by simp [h2]), if_neg (by simp [h3]), if_pos h4]
          rw [hc]
          exact (rconst_4 h hm hg s hs h1' h2 h3 h4).mono fun e w' ⟨he, hd⟩ => ⟨R, he, hm, hd⟩
        · obtain ⟨hc, hmir⟩ := mir_const hm s h1' h2 h3 (by omega)
          refine (rconst_5 h hm hg s hs h1' h2 h3 (by omega)).mono fun e w' ⟨he, hd⟩ => ⟨_, ?_, hmir, hd⟩
          rw [he, hc, hm.syms]
          rfl
end Go.Proofs.YtpoojimmponklaaDoor.SymRefMore

namespace Go.Proofs.YtpoojimmponklaaDoor.SymRefVar
open Go.RowKit Go.Maps Go.Proofs.YtpoojimmponklaaDoor.SymTab Go.Proofs.YtpoojimmponklaaDoor.SymHeap Go.Proofs.YtpoojimmponklaaDoor.SymReads Go.Proofs.YtpoojimmponklaaDoor.SymAdd Go.Proofs.YtpoojimmponklaaDoor.SymConst Go.Proofs.YtpoojimmponklaaDoor.SymApi Go.Proofs.YtpoojimmponklaaDoor.SymRef Go.Proofs.YtpoojimmponklaaDoor.SymRefDoes Go.Proofs.YtpoojimmponklaaDoor.SymRefNames Go.Proofs.YtpoojimmponklaaDoor.SymRefMore
open Go.Proofs.YtpoojimmponklaaDoorW.PrintWords
set_option linter.unusedVariables false
theorem cell_one_at (w : World) (b : Nat) (hb : b = w.heap.size) (x : Value) (t : TypeId) : ∀ j u, [x][j]? = some u → (w.alloc (.cells #[x] t)).cell? ((⟨b, 0, none⟩ : Addr).add j) = some u := by
  subst hb
  exact cell_one_new w x t
section
variable {w : World} {p g : Nat} {T : Tab} {R : Ref} {q : RParts}
set_option maxHeartbeats 1000000 in
set_option maxRecDepth 100000 in
theorem rvar_1 (h : RHolds w p g R q) (hm : Mir T R) (hg : g + 2 < 17592186044416) (s : ByteArray) (hs : s.size ≤ maxLen) (h2 : symOk s = false) :
    Calls Tryd.prog 66 #[.pointer (some ⟨p, 0, none⟩), .string s] w fun e w' => e = .returned (.tuple #[.int .i64 0, .int .i64 21]) ∧ RSteps w w' p (g + 1) R q := by
  have H := Aside0.mk h
  have hfew := hm.wf.few
  rw [← hm.syms] at hfew
  have Hfew := Lib.hid hfew
  have H2 := Lib.hid h2
  clear h hm hfew h2
  go_enter Tryd.func66, Tryd.ntmps66
  go_wp2_with fail
  refine (symName_h H2.out).mono ?_
  rintro e w2 ⟨rfl, hd2⟩
  have D2 := Aside0.mk hd2
  clear hd2
  go_wp2_with fail
  go_ret2
  exact ⟨rfl, rsteps_drawn H.out (by omega) D2.out⟩
set_option maxHeartbeats 1000000 in
set_option maxRecDepth 100000 in
theorem rvar_2 (h : RHolds w p g R q) (hm : Mir T R) (hg : g + 2 < 17592186044416) (s : ByteArray) (hs : s.size ≤ maxLen) (h2 : symOk s = true) {n : Nat} (h3 : idx R.syms s = some n) (h5 : rActive R n = true) :
    Calls Tryd.prog 66 #[.pointer (some ⟨p, 0, none⟩), .string s] w fun e w' => e = .returned (.tuple #[.int .i64 0, .int .i64 20]) ∧ RSteps w w' p (g + 1) R q := by
  have H := Aside0.mk h
  have hfew := hm.wf.few
  rw [← hm.syms] at hfew
  have Hfew := Lib.hid hfew
  have H2 := Lib.hid h2
  have H3 := Lib.hid (show numI (idx R.syms s) = (n : Int) by rw [h3]; rfl)
  have H5 := Lib.hid h5
  clear h hm hfew h2 h3 h5
  go_enter Tryd.func66, Tryd.ntmps66
  go_wp2_with fail
  refine (symName_h H2.out).mono ?_
  rintro e w2 ⟨rfl, hd2⟩
  have D2 := Aside0.mk hd2
  clear hd2
  go_wp2_with fail
  refine (number_h (hdrawn H.out D2.out) Hfew.out hs H3.out).mono ?_
  rintro e w3 ⟨rfl, hd3⟩
  have D3 := Aside0.mk (dtrans D2.out hd3)
  clear hd3
  go_wp2_with fail
  refine (ractive_h (hdrawn H.out D3.out) (by unfold maxLen; omega) H5.out).mono ?_
  rintro e w4 ⟨rfl, hd4⟩
  have D4 := Aside0.mk (dtrans D3.out hd4)
  clear hd4
  go_wp2_with fail
  go_ret2
  exact ⟨rfl, rsteps_drawn H.out (by omega) D4.out⟩
set_option maxHeartbeats 1000000 in
set_option maxRecDepth 100000 in
theorem rvar_3 (h : RHolds w p g R q) (hm : Mir T R) (hg : g + 2 < 17592186044416) (s : ByteArray) (hs : s.size ≤ maxLen) (h2 : symOk s = true) {n : Nat} (h3 : idx R.syms s = some n) (h5 : rActive R n = false) :
    Calls Tryd.prog 66 #[.pointer (some ⟨p, 0, none⟩), .string s] w fun e w' => e = .returned (.tuple #[.int .i64 (n : Int), .int .i64 0]) ∧ RSteps w w' p (g + 1) { R with acts := R.acts ++ [(n : Int)] } q := by
  have H := Aside0.mk h
  have hfew := hm.wf.few
  rw [← hm.syms] at hfew
  have Hfew := Lib.hid hfew
  have H2 := Lib.hid h2
  have H3 := Lib.hid (show numI (idx R.syms s) = (n : Int) by rw [h3]; rfl)
  have H5 := Lib.hid h5
  have hn5 : n < 512 := by have := (idx_lt h3).1; omega
  have hlen := h.few
  obtain ⟨vs, va, vt⟩ := q
  obtain ⟨A, capA, e, _⟩ := row_slice h.acts
  simp only at e
  subst e
  obtain ⟨i3, hi, hz0, hz1, hz2⟩ := info_parts info3
  have Hi3 := Aside0.mk hi
  have Hz03 := Aside0.mk hz0
  have Hz13 := Aside0.mk hz1
  have Hz23 := Aside0.mk hz2
  clear hi hz0 hz1 hz2
  clear h hm hfew h2 h3 h5
  go_enter Tryd.func66, Tryd.ntmps66
  go_wp2_with fail
  refine (symName_h H2.out).mono ?_
  rintro e w2 ⟨rfl, hd2⟩
  have D2 := Aside0.mk hd2
  clear hd2
  go_wp2_with fail
  refine (number_h (hdrawn H.out D2.out) Hfew.out hs H3.out).mono ?_
  rintro e w3 ⟨rfl, hd3⟩
  have D3 := Aside0.mk (dtrans D2.out hd3)
  clear hd3
  go_wp2_with fail
  refine (ractive_h (hdrawn H.out D3.out) (by unfold maxLen; omega) H5.out).mono ?_
  rintro e w4 ⟨rfl, hd4⟩
  have D4 := Aside0.mk (dtrans D3.out hd4)
  clear hd4
  have HW := Aside0.mk (hdrawn H.out D4.out)
  have HA := Aside0.mk HW.out.acts
  have c1 := (cell_at HW.out.cells 1).1
  simp only [List.getElem?_toArray, List.getElem?_cons_zero, List.getElem?_cons_succ] at c1
  go_wp2_with (at_builtin; refine wpList_append_own_at _ rfl (.tmp 45) (.tmp 47) 57 rfl 0 3 i3 (.int .i64 0) 1 8 Tryd.underlying57 Hi3.out Hz03.out Hz13.out Hz23.out rfl (by decide) _ _ _ rfl (HA.out.alloc _) ⟨w4.heap.size, 0, none⟩ 1 1 [.int .i64 (n : Int)] rfl rfl (cell_one_new _ _ _) ?c2 (by unfold maxLen; omega) (by omega) (Nat.zero_le _) ?_)
  case c2 => first | rfl | (intro u hu; simp at hu; subst hu; rfl)
  intro v' w5 hown1 hgrow1 hnil1 hat1
  clear hnil1
  obtain ⟨A', cap', e', _⟩ := row_slice hown1
  subst e'
  have hp1 : w5.heap[p]? = some (.cells #[vs, .slice A R.acts.length capA, vt] 99 (0, 0)) := cells_after HW.out.cells HA.out hgrow1 (by decide)
  have f1 := (cell_at hp1 1).2
  have d1 := (cell_at hp1 1).1
  simp only [List.getElem?_toArray, List.getElem?_cons_zero, List.getElem?_cons_succ] at d1
  have X := Aside0.mk (show RSteps w4 (w5.setCell ⟨p, 1, none⟩ (.slice A' (R.acts.length + 1) cap')) p (g + 1) { R with acts := R.acts ++ [(n : Int)] } ⟨vs, .slice A R.acts.length capA, vt⟩ from push_acts HW.out (by simpa [actCells] using hown1) hgrow1 (by simpa using hat1))
  clear hown1 hgrow1 hat1 hp1 c1
  go_wp2_with fail
  go_ret2
  exact ⟨rfl, X.out.before D4.out⟩
set_option maxHeartbeats 1000000 in
set_option maxRecDepth 100000 in
theorem rvar_4 (h : RHolds w p g R q) (hm : Mir T R) (hg : g + 2 < 17592186044416) (s : ByteArray) (hs : s.size ≤ maxLen) (h2 : symOk s = true) (h3 : idx R.syms s = none) (h5 : rActive R (-1) = false) (h4 : 512 ≤ R.syms.length) :
    Calls Tryd.prog 66 #[.pointer (some ⟨p, 0, none⟩), .string s] w fun e w' => e = .returned (.tuple #[.int .i64 0, .int .i64 22]) ∧ RSteps w w' p (g + 1) R q := by
  have H := Aside0.mk h
  have hfew := hm.wf.few
  rw [← hm.syms] at hfew
  have Hfew := Lib.hid hfew
  have H2 := Lib.hid h2
  have H3 := Lib.hid (show numI (idx R.syms s) = -1 by rw [h3]; rfl)
  have H5 := Lib.hid h5
  obtain ⟨vs, va, vt⟩ := q
  obtain ⟨A, capA, e, _⟩ := row_slice h.syms
  simp only at e
  subst e
  clear h hm hfew h2 h3 h5
  go_enter Tryd.func66, Tryd.ntmps66
  go_wp2_with fail
  refine (symName_h H2.out).mono ?_
  rintro e w2 ⟨rfl, hd2⟩
  have D2 := Aside0.mk hd2
  clear hd2
  go_wp2_with fail
  refine (number_h (hdrawn H.out D2.out) Hfew.out hs H3.out).mono ?_
  rintro e w3 ⟨rfl, hd3⟩
  have D3 := Aside0.mk (dtrans D2.out hd3)
  clear hd3
  go_wp2_with fail
  refine (ractive_h (hdrawn H.out D3.out) (by unfold maxLen; omega) H5.out).mono ?_
  rintro e w4 ⟨rfl, hd4⟩
  have D4 := Aside0.mk (dtrans D3.out hd4)
  clear hd4
  have HW := Aside0.mk (hdrawn H.out D4.out)
  have c0 := (cell_at HW.out.cells 0).1
  simp only [List.getElem?_toArray, List.getElem?_cons_zero] at c0
  go_wp2_with fail
  go_ret2
  exact ⟨rfl, rsteps_drawn H.out (by omega) D4.out⟩
set_option maxHeartbeats 1000000 in
set_option maxRecDepth 100000 in
theorem rvar_5 (h : RHolds w p g R q) (hm : Mir T R) (hg : g + 2 < 17592186044416) (s : ByteArray) (hs : s.size ≤ maxLen) (h2 : symOk s = true) (h3 : idx R.syms s = none) (h5 : rActive R (-1) = false) (h4 : R.syms.length < 512) :
    Calls Tryd.prog 66 #[.pointer (some ⟨p, 0, none⟩), .string s] w fun e w' => e = .returned (.tuple #[.int .i64 (R.syms.length : Int), .int .i64 0]) ∧ RSteps w w' p (g + 1) { R with syms := R.syms ++ [(s, true)], acts := R.acts ++ [(R.syms.length : Int)] } q := by
  have H := Aside0.mk h
  have hfew := hm.wf.few
  rw [← hm.syms] at hfew
  have Hfew := Lib.hid hfew
  have H2 := Lib.hid h2
  have H3 := Lib.hid (show numI (idx R.syms s) = -1 by rw [h3]; rfl)
  have H5 := Lib.hid h5
  have hlen := h.few
  obtain ⟨vs, va, vt⟩ := q
  obtain ⟨S, capS, e, _⟩ := row_slice h.syms
  simp only at e
  subst e
  obtain ⟨A, capA, e, _⟩ := row_slice h.acts
  simp only at e
  subst e
  obtain ⟨i3, hi, hz0, hz1, hz2⟩ := info_parts info3
  have Hi3 := Aside0.mk hi
  have Hz03 := Aside0.mk hz0
  have Hz13 := Aside0.mk hz1
  have Hz23 := Aside0.mk hz2
  clear hi hz0 hz1 hz2
  obtain ⟨i101, hi, hz0, hz1, hz2⟩ := info_parts info101
  have Hi101 := Aside0.mk hi
  have Hz0101 := Aside0.mk hz0
  have Hz1101 := Aside0.mk hz1
  have Hz2101 := Aside0.mk hz2
  clear hi hz0 hz1 hz2
  clear h hm hfew h2 h3 h5
  go_enter Tryd.func66, Tryd.ntmps66
  go_wp2_with fail
  refine (symName_h H2.out).mono ?_
  rintro e w2 ⟨rfl, hd2⟩
  have D2 := Aside0.mk hd2
  clear hd2
  go_wp2_with fail
  refine (number_h (hdrawn H.out D2.out) Hfew.out hs H3.out).mono ?_
  rintro e w3 ⟨rfl, hd3⟩
  have D3 := Aside0.mk (dtrans D2.out hd3)
  clear hd3
  go_wp2_with fail
  refine (ractive_h (hdrawn H.out D3.out) (by unfold maxLen; omega) H5.out).mono ?_
  rintro e w4 ⟨rfl, hd4⟩
  have D4 := Aside0.mk (dtrans D3.out hd4)
  clear hd4
  have HW := Aside0.mk (hdrawn H.out D4.out)
  have HS := Aside0.mk HW.out.syms
  have c0 := (cell_at HW.out.cells 0).1
  simp only [List.getElem?_toArray, List.getElem?_cons_zero] at c0
  go_wp2_with (at_builtin; refine wpList_append_own_at _ rfl (.tmp 28) (.tmp 31) 97 rfl 0 101 i101 (.agg #[.string .empty, .bool false]) 2 24 Tryd.underlying97 Hi101.out Hz0101.out Hz1101.out Hz2101.out rfl (by decide) _ _ _ rfl (HS.out.alloc _) ⟨w4.heap.size, 0, none⟩ 1 1 [.string s, .bool true] rfl rfl (cells_two_new _ _ _ _) ?c2 (by unfold maxLen; omega) (by omega) (Nat.zero_le _) ?_)
  case c2 => intro u hu; simp at hu; rcases hu with rfl | rfl <;> rfl
  intro v' w5 hown1 hgrow1 hnil1 hat1
  clear hnil1
  obtain ⟨S', capS', e', _⟩ := row_slice hown1
  subst e'
  have hp1 : w5.heap[p]? = some (.cells #[.slice S R.syms.length capS, .slice A R.acts.length capA, vt] 99 (0, 0)) := cells_after HW.out.cells HS.out hgrow1 (by decide)
  have f1 := (cell_at hp1 0).2
  have d1 := (cell_at hp1 0).1
  simp only [List.getElem?_toArray, List.getElem?_cons_zero] at d1
  have dA := (cell_at hp1 1).1
  simp only [List.getElem?_toArray, List.getElem?_cons_zero, List.getElem?_cons_succ] at dA
  have HV := Aside0.mk (push_syms_at (a := (s, true)) HW.out (by simpa [symCells] using hown1) hgrow1 (by simpa using hat1))
  have HA := Aside0.mk (show (w5.setCell ⟨p, 0, none⟩ (.slice S' (R.syms.length + 1) capS')).ownsRow 0 3 1 (.slice A R.acts.length capA) R.acts.length (actCells R.acts) from HV.out.1.acts)
  clear hown1 hgrow1 hat1 hp1 c0
  go_wp2_with (at_builtin; refine wpList_append_own_at _ rfl (.tmp 45) (.tmp 47) 57 rfl 0 3 i3 (.int .i64 0) 1 8 Tryd.underlying57 Hi3.out Hz03.out Hz13.out Hz23.out rfl (by decide) _ _ _ rfl (HA.out.alloc _) ⟨w5.heap.size, 0, none⟩ 1 1 [.int .i64 (R.syms.length : Int)] rfl rfl (cell_one_at _ _ (by simp [World.setCell]) _ _) ?c2 (by unfold maxLen; omega) (by omega) (Nat.zero_le _) ?_)
  case c2 => first | rfl | (intro u hu; simp at hu; subst hu; rfl)
  intro v2 w7 hown2 hgrow2 hnil2 hat2
  clear hnil2
  obtain ⟨A', capA', e', _⟩ := row_slice hown2
  subst e'
  have hp2 : w7.heap[p]? = some (.cells #[.slice S' (R.syms.length + 1) capS', .slice A R.acts.length capA, vt] 99 (0, 0)) := cells_after HV.out.1.cells HA.out hgrow2 (by decide)
  have f2 := (cell_at hp2 1).2
  have d2 := (cell_at hp2 1).1
  simp only [List.getElem?_toArray, List.getElem?_cons_zero, List.getElem?_cons_succ] at d2
  have HZ := Aside0.mk (push_acts_at HV.out.1 (a := (R.syms.length : Int)) (by simpa [actCells] using hown2) hgrow2 (by simpa using hat2))
  have H50 := Aside0.mk (cell_at hp2 0).1
  clear hown2 hgrow2 hat2 hp2
  go_wp2_with fail
  go_ret2
  refine ⟨rfl, RSteps.before ?_ D4.out⟩
  obtain ⟨a1, a2, a3⟩ := HV.out
  obtain ⟨b1, b2, b3⟩ := HZ.out
  refine ⟨_, ⟨b1.cells, b1.syms, b1.acts, b1.taken, ?_⟩, fun k hk => ?_, a3.trans b3 (fun k hk => a2 k hk)⟩
  · show (R.acts ++ [(R.syms.length : Int)]).length ≤ g + 1
    rw [List.length_append, List.length_singleton]
    omega
  · rcases b2 k hk with hk | hk
    · exact a2 k hk
    · exact .inr (Nat.le_trans a3.size hk)
set_option maxHeartbeats 1000000 in
set_option maxRecDepth 100000 in
theorem rfind_1 (h : RHolds w p g R q) (hm : Mir T R) (hg : g + 2 < 17592186044416) (s : ByteArray) (hs : s.size ≤ maxLen) {n : Nat} (h3 : idx R.syms s = some n) (h5 : rActive R n = true) :
    Calls Tryd.prog 67 #[.pointer (some ⟨p, 0, none⟩), .string s] w fun e w' => e = .returned (.tuple #[.int .i64 (n : Int), .bool true]) ∧ RSteps w w' p (g + 1) R q := by
  have H := Aside0.mk h
  have hfew := hm.wf.few
  rw [← hm.syms] at hfew
  have Hfew := Lib.hid hfew
  have H3 := Lib.hid (show numI (idx R.syms s) = (n : Int) by rw [h3]; rfl)
  have H5 := Lib.hid h5
  clear h hm hfew h3 h5
  go_enter Tryd.func67, Tryd.ntmps67
  go_wp2_with fail
  refine (number_h H.out Hfew.out hs H3.out).mono ?_
  rintro e w3 ⟨rfl, hd3⟩
  have D3 := Aside0.mk hd3
  clear hd3
  go_wp2_with fail
  refine (ractive_h (hdrawn H.out D3.out) (by unfold maxLen; omega) H5.out).mono ?_
  rintro e w4 ⟨rfl, hd4⟩
  have D4 := Aside0.mk (dtrans D3.out hd4)
  clear hd4
  go_wp2_with fail
  go_ret2
  exact ⟨rfl, rsteps_drawn H.out (by omega) D4.out⟩
set_option maxHeartbeats 1000000 in
set_option maxRecDepth 100000 in
theorem rfind_2 (h : RHolds w p g R q) (hm : Mir T R) (hg : g + 2 < 17592186044416) (s : ByteArray) (hs : s.size ≤ maxLen) {n : Nat} (h3 : idx R.syms s = some n) (h5 : rActive R n = false) :
    Calls Tryd.prog 67 #[.pointer (some ⟨p, 0, none⟩), .string s] w fun e w' => e = .returned (.tuple #[.int .i64 0, .bool false]) ∧ RSteps w w' p (g + 1) R q := by
  have H := Aside0.mk h
  have hfew := hm.wf.few
  rw [← hm.syms] at hfew
  have Hfew := Lib.hid hfew
  have H3 := Lib.hid (show numI (idx R.syms s) = (n : Int) by rw [h3]; rfl)
  have H5 := Lib.hid h5
  clear h hm hfew h3 h5
  go_enter Tryd.func67, Tryd.ntmps67
  go_wp2_with fail
  refine (number_h H.out Hfew.out hs H3.out).mono ?_
  rintro e w3 ⟨rfl, hd3⟩
  have D3 := Aside0.mk hd3
  clear hd3
  go_wp2_with fail
  refine (ractive_h (hdrawn H.out D3.out) (by unfold maxLen; omega) H5.out).mono ?_
  rintro e w4 ⟨rfl, hd4⟩
  have D4 := Aside0.mk (dtrans D3.out hd4)
  clear hd4
  go_wp2_with fail
  go_ret2
  exact ⟨rfl, rsteps_drawn H.out (by omega) D4.out⟩
set_option maxHeartbeats 1000000 in
set_option maxRecDepth 100000 in
theorem rfind_3 (h : RHolds w p g R q) (hm : Mir T R) (hg : g + 2 < 17592186044416) (s : ByteArray) (hs : s.size ≤ maxLen) (h3 : idx R.syms s = none) (h5 : rActive R (-1) = false) :
    Calls Tryd.prog 67 #[.pointer (some ⟨p, 0, none⟩), .string s] w fun e w' => e = .returned (.tuple #[.int .i64 0, .bool false]) ∧ RSteps w w' p (g + 1) R q := by
  have H := Aside0.mk h
  have hfew := hm.wf.few
  rw [← hm.syms] at hfew
  have Hfew := Lib.hid hfew
  have H3 := Lib.hid (show numI (idx R.syms s) = -1 by rw [h3]; rfl)
  have H5 := Lib.hid h5
  clear h hm hfew h3 h5
  go_enter Tryd.func67, Tryd.ntmps67
  go_wp2_with fail
  refine (number_h H.out Hfew.out hs H3.out).mono ?_
  rintro e w3 ⟨rfl, hd3⟩
  have D3 := Aside0.mk hd3
  clear hd3
  go_wp2_with fail
  refine (ractive_h (hdrawn H.out D3.out) (by unfold maxLen; omega) H5.out).mono ?_
  rintro e w4 ⟨rfl, hd4⟩
  have D4 := Aside0.mk (dtrans D3.out hd4)
  clear hd4
  go_wp2_with fail
  go_ret2
  exact ⟨rfl, rsteps_drawn H.out (by omega) D4.out⟩

variable {s : ByteArray}
theorem act_of (hm : Mir T R) {n : Nat} (hn : idx T.syms s = some n) : rActive R n = (T.act s).isSome := by
  obtain ⟨h1, h2⟩ := idx_lt hn
  have h3 := active_says hm.wf hm.rel h1
  have e : nameOf T n = s := h2
  rw [e] at h3
  rw [h3]
  unfold rActive rThere
  rw [hm.syms, decide_eq_true (by omega), decide_eq_true (by omega)]
  rfl
theorem act_no : rActive R (-1) = false := by
  unfold rActive rThere
  rfl
theorem rvar_calls (h : RHolds w p g R q) (hm : Mir T R) (hg : g + 2 < 17592186044416) (hs : s.size ≤ maxLen) :
    Calls Tryd.prog 66 #[.pointer (some ⟨p, 0, none⟩), .string s] w fun e w' => ∃ R', e = .returned (.tuple #[.int .i64 ((varT T s).2.1 : Int), .int .i64 ((varT T s).2.2 : Int)]) ∧ Mir (varT T s).1 R' ∧ RSteps w w' p (g + 1) R' q := by
  cases h2 : symOk s with
  | false =>
    have hc : varT T s = (T, 0, 21) := by unfold varT; rw [if_pos h2]
    rw [hc]
    exact (rvar_1 h hm hg s hs h2).mono fun e w' ⟨he, hd⟩ => ⟨R, he, hm, hd⟩
  | true =>
    have hrv := rel_var hm.wf hm.rel s
    have hwf := wf_var hm.wf s
    cases ha : T.act s with
    | some n =>
      have hc : varT T s = (T, 0, 20) := by unfold varT; rw [if_neg (by simp [h2]), if_pos (by simp [ha])]
      have hn := hm.wf.act s n ha
      have h5 := act_of hm hn
      rw [ha] at h5
      rw [← hm.syms] at hn
      rw [hc]
      exact (rvar_2 h hm hg s hs h2 hn h5).mono fun e w' ⟨he, hd⟩ => ⟨R, he, hm, hd⟩
    | none =>
      cases hn : idx T.syms s with
      | some n =>
        have hc : varT T s = (activate T s n, n, 0) := by unfold varT; rw [if_neg (by simp [h2]), if_neg (by simp [ha]), hn]
        have h5 := act_of hm hn
        rw [ha] at h5
        rw [← hm.syms] at hn
        rw [hc] at hrv hwf ⊢
        refine (rvar_3 h hm hg s hs h2 hn h5).mono fun e w' ⟨he, hd⟩ => ⟨_, he, ⟨?_, ?_, ?_, hwf⟩, hd⟩
        · exact hm.syms
        · exact hm.taken
        · rcases hrv with ⟨c, hc0, e⟩ | ⟨U, m, e, hr⟩
          · simp only [Prod.mk.injEq] at e
            exact absurd e.2.2.symm hc0
          · simp only [Prod.mk.injEq] at e
            obtain ⟨rfl, rfl, -⟩ := e
            exact hr
      | none =>
        by_cases h4 : 512 ≤ T.syms.length
        · have hc : varT T s = (T, 0, 22) := by unfold varT; rw [if_neg (by simp [h2]), if_neg (by simp [ha]), hn]; simp only; rw [if_pos h4]
          rw [← hm.syms] at hn h4
          rw [hc]
          exact (rvar_4 h hm hg s hs h2 hn act_no h4).mono fun e w' ⟨he, hd⟩ => ⟨R, he, hm, hd⟩
        · have hc : varT T s = (activate (added T s true) s T.syms.length, T.syms.length, 0) := by unfold varT; rw [if_neg (by simp [h2]), if_neg (by simp [ha]), hn]; simp only; rw [if_neg h4]
          have h4' : R.syms.length < 512 := by rw [hm.syms]; omega
          rw [← hm.syms] at hn
          rw [hc] at hrv hwf ⊢
          refine (rvar_5 h hm hg s hs h2 hn act_no h4').mono fun e w' ⟨he, hd⟩ => ⟨_, ?_, ⟨?_, ?_, ?_, hwf⟩, hd⟩
          · rw [he, hm.syms]
            rfl
          · show R.syms ++ [(s, true)] = T.syms ++ [(s, true)]
            rw [hm.syms]
          · exact hm.taken
          · rcases hrv with ⟨c, hc0, e⟩ | ⟨U, m, e, hr⟩
            · simp only [Prod.mk.injEq] at e
              exact absurd e.2.2.symm hc0
            · simp only [Prod.mk.injEq] at e
              obtain ⟨rfl, rfl, -⟩ := e
              show Rel _ (R.acts ++ [(R.syms.length : Int)])
              rw [hm.syms]
              exact hr
theorem rfind_calls (h : RHolds w p g R q) (hm : Mir T R) (hg : g + 2 < 17592186044416) (hs : s.size ≤ maxLen) :
    Calls Tryd.prog 67 #[.pointer (some ⟨p, 0, none⟩), .string s] w fun e w' => e = .returned (.tuple #[.int .i64 ((findT T s).1 : Int), .bool (findT T s).2]) ∧ RSteps w w' p (g + 1) R q := by
  cases ha : T.act s with
  | some n =>
    have hc : findT T s = (n, true) := by unfold findT; rw [ha]
    have hn := hm.wf.act s n ha
    have h5 := act_of hm hn
    rw [ha] at h5
    rw [← hm.syms] at hn
    rw [hc]
    exact rfind_1 h hm hg s hs hn h5
  | none =>
    have hc : findT T s = (0, false) := by unfold findT; rw [ha]
    rw [hc]
    cases hn : idx T.syms s with
    | some n =>
      have h5 := act_of hm hn
      rw [ha] at h5
      rw [← hm.syms] at hn
      exact rfind_2 h hm hg s hs hn h5
    | none =>
      rw [← hm.syms] at hn
      exact rfind_3 h hm hg s hs hn act_no
end
end Go.Proofs.YtpoojimmponklaaDoor.SymRefVar

namespace Go.Proofs.YtpoojimmponklaaDoor.SymRefLabel
open Go.RowKit Go.Maps Go.Proofs.YtpoojimmponklaaDoor.SymTab Go.Proofs.YtpoojimmponklaaDoor.SymHeap Go.Proofs.YtpoojimmponklaaDoor.SymReads Go.Proofs.YtpoojimmponklaaDoor.SymAdd Go.Proofs.YtpoojimmponklaaDoor.SymConst Go.Proofs.YtpoojimmponklaaDoor.SymApi Go.Proofs.YtpoojimmponklaaDoor.SymRef Go.Proofs.YtpoojimmponklaaDoor.SymRefDoes Go.Proofs.YtpoojimmponklaaDoor.SymRefNames Go.Proofs.YtpoojimmponklaaDoor.SymRefMore Go.Proofs.YtpoojimmponklaaDoor.SymRefVar Go.Proofs.YtpoojimmponklaaDoor.SymNew
open Go.Proofs.YtpoojimmponklaaDoorW.PrintWords
set_option linter.unusedVariables false
section
variable {w : World} {p g : Nat} {T : Tab} {R : Ref} {q : RParts}
set_option maxHeartbeats 1000000 in
set_option maxRecDepth 100000 in
theorem rlabel_1 (h : RHolds w p g R q) (hg : g + 2 < 17592186044416) (hlab : R.taken.length ≤ 1024) (s : ByteArray) (hs : s.size ≤ maxLen) (h2 : nameOk s = false) :
    Calls Tryd.prog 68 #[.pointer (some ⟨p, 0, none⟩), .string s] w fun e w' => e = .returned (.int .i64 21) ∧ RSteps w w' p (g + 1) R q := by
  have H := Aside0.mk h
  have H2 := Lib.hid h2
  clear h h2
  go_enter Tryd.func68, Tryd.ntmps68
  go_wp2_with fail
  refine (labName_h H2.out).mono ?_
  rintro e w2 ⟨rfl, hd2⟩
  have D2 := Aside0.mk hd2
  have HW := Aside0.mk (hdrawn H.out hd2)
  clear hd2
  go_wp2_with fail
  go_ret
  exact ⟨rfl, rsteps_drawn H.out (by omega) D2.out⟩
set_option maxHeartbeats 1000000 in
set_option maxRecDepth 100000 in
theorem rlabel_2 (h : RHolds w p g R q) (hg : g + 2 < 17592186044416) (hlab : R.taken.length ≤ 1024) (s : ByteArray) (hs : s.size ≤ maxLen) (h2 : nameOk s = true) (h3 : s ∈ R.taken) :
    Calls Tryd.prog 68 #[.pointer (some ⟨p, 0, none⟩), .string s] w fun e w' => e = .returned (.int .i64 20) ∧ RSteps w w' p (g + 1) R q := by
  have H := Aside0.mk h
  have H2 := Lib.hid h2
  have H3 := Lib.hid h3
  obtain ⟨vs, va, vt⟩ := q
  clear h h2 h3
  go_enter Tryd.func68, Tryd.ntmps68
  go_wp2_with fail
  refine (labName_h H2.out).mono ?_
  rintro e w2 ⟨rfl, hd2⟩
  have D2 := Aside0.mk hd2
  have HW := Aside0.mk (hdrawn H.out hd2)
  clear hd2
  go_wp2_with fail
  go_loopw [5] (fun v5 wr => ∃ k : Nat, k ≤ R.taken.length ∧ v5 = .int .i64 k ∧ Hid (∀ j, j < k → R.taken[j]? ≠ some s) ∧ Aside0 (Drawn0 w2 wr)) (fun v5 _ => R.taken.length - (intOf v5).toNat)
  case atStart => exact ⟨0, by omega, rfl, Lib.hid (fun j hj => by omega), ⟨Drawn0.refl _⟩⟩
  case round =>
    obtain ⟨k, hk, rfl, HA, HD⟩ := hrel
    obtain ⟨nq, hnq⟩ := HD.out
    subst hnq
    have h := HW.out.move (w' := w2.drewN nq) (fun _ _ => rfl)
    have c2 := (cell_at h.cells 2).1
    simp only [List.getElem?_toArray, List.getElem?_cons_zero, List.getElem?_cons_succ] at c2
    by_cases hlt : k < R.taken.length
    · obtain ⟨b, cap, e, ck⟩ := taken_at h hlt
      simp only at e
      subst e
      have eq1 := str_eqb R.taken[k] s
      by_cases e1 : R.taken[k] = s
      · rw [decide_eq_true e1] at eq1
        clear e1 h
        generalize R.taken[k] = sk at eq1 ck
        go_wp2_with fail
        go_ret
        exact ⟨rfl, rsteps_drawn H.out (by omega) (dtrans D2.out (Drawn0.step (Drawn0.refl _) _))⟩
      · have Hf := Lib.hid (show ∀ j, j < k + 1 → R.taken[j]? ≠ some s from fun j hj => by
          by_cases ej : j = k
          · subst ej
            rw [List.getElem?_eq_getElem hlt]
            intro e2
            exact e1 (Option.some.inj e2)
          · exact HA.out j (by omega))
        rw [decide_eq_false e1] at eq1
        clear e1 h
        generalize R.taken[k] = sk at eq1 ck
        go_wp2_with fail
        go_roundw
        case rel => exact ⟨k + 1, by omega, by go_num, Hf, ⟨Drawn0.step (Drawn0.refl _) _⟩⟩
        case measure => simp [intOf]; omega
    · exfalso
      obtain ⟨j, hj⟩ := List.mem_iff_getElem?.1 H3.out
      have := (List.getElem?_eq_some_iff.1 hj).1
      exact HA.out j (by omega) hj
set_option maxHeartbeats 1000000 in
set_option maxRecDepth 100000 in
theorem rlabel_3 (h : RHolds w p g R q) (hg : g + 2 < 17592186044416) (hlab : R.taken.length ≤ 1024) (s : ByteArray) (hs : s.size ≤ maxLen) (h2 : nameOk s = true) (h3 : s ∉ R.taken) (h4 : 1024 ≤ R.taken.length) :
    Calls Tryd.prog 68 #[.pointer (some ⟨p, 0, none⟩), .string s] w fun e w' => e = .returned (.int .i64 22) ∧ RSteps w w' p (g + 1) R q := by
  have H := Aside0.mk h
  have H2 := Lib.hid h2
  have H3 := Lib.hid h3
  obtain ⟨vs, va, vt⟩ := q
  obtain ⟨A, capA, e, _⟩ := row_slice h.taken
  simp only at e
  subst e
  clear h h2 h3
  go_enter Tryd.func68, Tryd.ntmps68
  go_wp2_with fail
  refine (labName_h H2.out).mono ?_
  rintro e w2 ⟨rfl, hd2⟩
  have D2 := Aside0.mk hd2
  have HW := Aside0.mk (hdrawn H.out hd2)
  clear hd2
  go_wp2_with fail
  go_loopw [5] (fun v5 wr => ∃ k : Nat, k ≤ R.taken.length ∧ v5 = .int .i64 k ∧ True ∧ Aside0 (Drawn0 w2 wr)) (fun v5 _ => R.taken.length - (intOf v5).toNat)
  case atStart => exact ⟨0, by omega, rfl, trivial, ⟨Drawn0.refl _⟩⟩
  case round =>
    obtain ⟨k, hk, rfl, HA, HD⟩ := hrel
    obtain ⟨nq, hnq⟩ := HD.out
    subst hnq
    have h := HW.out.move (w' := w2.drewN nq) (fun _ _ => rfl)
    have c2 := (cell_at h.cells 2).1
    simp only [List.getElem?_toArray, List.getElem?_cons_zero, List.getElem?_cons_succ] at c2
    by_cases hlt : k < R.taken.length
    · obtain ⟨b, cap, e, ck⟩ := taken_at h hlt
      simp only [Value.slice.injEq] at e
      obtain ⟨rfl, -, rfl⟩ := e
      have eq1 := str_eqb R.taken[k] s
      have e1 : R.taken[k] ≠ s := fun e2 => H3.out (e2 ▸ List.getElem_mem hlt)
      · skip
        rw [decide_eq_false e1] at eq1
        clear e1 h
        generalize R.taken[k] = sk at eq1 ck
        go_wp2_with fail
        go_roundw
        case rel => exact ⟨k + 1, by omega, by go_num, trivial, ⟨Drawn0.step (Drawn0.refl _) _⟩⟩
        case measure => simp [intOf]; omega
    · have hk' : k = R.taken.length := by omega
      subst hk'
      clear h
      go_wp2_with fail
      go_ret
      exact ⟨rfl, rsteps_drawn H.out (by omega) (dtrans D2.out (Drawn0.step (Drawn0.refl _) _))⟩
set_option maxHeartbeats 1000000 in
set_option maxRecDepth 100000 in
theorem rlabel_4 (h : RHolds w p g R q) (hg : g + 2 < 17592186044416) (hlab : R.taken.length ≤ 1024) (s : ByteArray) (hs : s.size ≤ maxLen) (h2 : nameOk s = true) (h3 : s ∉ R.taken) (h4 : R.taken.length < 1024) :
    Calls Tryd.prog 68 #[.pointer (some ⟨p, 0, none⟩), .string s] w fun e w' => e = .returned (.int .i64 0) ∧ RSteps w w' p (g + 1) { R with taken := R.taken ++ [s] } q := by
  have H := Aside0.mk h
  have H2 := Lib.hid h2
  have H3 := Lib.hid h3
  obtain ⟨vs, va, vt⟩ := q
  obtain ⟨A, capA, e, _⟩ := row_slice h.taken
  simp only at e
  subst e
  obtain ⟨i9, hi, hz0, hz1, hz2⟩ := info_parts info9
  have Hi9 := Aside0.mk hi
  have Hz09 := Aside0.mk hz0
  have Hz19 := Aside0.mk hz1
  have Hz29 := Aside0.mk hz2
  clear h h2 h3 hi hz0 hz1 hz2
  go_enter Tryd.func68, Tryd.ntmps68
  go_wp2_with fail
  refine (labName_h H2.out).mono ?_
  rintro e w2 ⟨rfl, hd2⟩
  have D2 := Aside0.mk hd2
  have HW := Aside0.mk (hdrawn H.out hd2)
  clear hd2
  go_wp2_with fail
  go_loopw [5] (fun v5 wr => ∃ k : Nat, k ≤ R.taken.length ∧ v5 = .int .i64 k ∧ True ∧ Aside0 (Drawn0 w2 wr)) (fun v5 _ => R.taken.length - (intOf v5).toNat)
  case atStart => exact ⟨0, by omega, rfl, trivial, ⟨Drawn0.refl _⟩⟩
  case round =>
    obtain ⟨k, hk, rfl, HA, HD⟩ := hrel
    obtain ⟨nq, hnq⟩ := HD.out
    subst hnq
    have h := HW.out.move (w' := w2.drewN nq) (fun _ _ => rfl)
    have c2 := (cell_at h.cells 2).1
    simp only [List.getElem?_toArray, List.getElem?_cons_zero, List.getElem?_cons_succ] at c2
    by_cases hlt : k < R.taken.length
    · obtain ⟨b, cap, e, ck⟩ := taken_at h hlt
      simp only [Value.slice.injEq] at e
      obtain ⟨rfl, -, rfl⟩ := e
      have eq1 := str_eqb R.taken[k] s
      have e1 : R.taken[k] ≠ s := fun e2 => H3.out (e2 ▸ List.getElem_mem hlt)
      · skip
        rw [decide_eq_false e1] at eq1
        clear e1 h
        generalize R.taken[k] = sk at eq1 ck
        go_wp2_with fail
        go_roundw
        case rel => exact ⟨k + 1, by omega, by go_num, trivial, ⟨Drawn0.step (Drawn0.refl _) _⟩⟩
        case measure => simp [intOf]; omega
    · have hk' : k = R.taken.length := by omega
      subst hk'
      have HV := Aside0.mk h
      have HS := Aside0.mk h.taken
      clear h
      go_wp2_with (at_builtin; refine wpList_append_own_at _ rfl (.tmp 37) (.tmp 39) 38 rfl 0 9 i9 (.string .empty) 1 16 Tryd.underlying38 Hi9.out Hz09.out Hz19.out Hz29.out rfl (by decide) _ _ _ rfl (HS.out.alloc _) ⟨w2.heap.size, 0, none⟩ 1 1 [.string s] rfl rfl (cell_one_at _ _ (by simp) _ _) ?c2 (by unfold maxLen; omega) (by omega) (Nat.zero_le _) ?_)
      case c2 => first | rfl | (intro u hu; simp at hu; subst hu; rfl)
      intro v' w5 hown1 hgrow1 hnil1 hat1
      clear hnil1
      obtain ⟨A', cap', e', _⟩ := row_slice hown1
      subst e'
      have hp1 : w5.heap[p]? = some (.cells #[vs, va, .slice A R.taken.length capA] 99 (0, 0)) := cells_after HV.out.cells HS.out hgrow1 (by decide)
      have f1 := (cell_at hp1 2).2
      have d1 := (cell_at hp1 2).1
      simp only [List.getElem?_toArray, List.getElem?_cons_zero, List.getElem?_cons_succ] at d1
      have X := Aside0.mk (show RSteps (w2.drewN nq) (w5.setCell ⟨p, 2, none⟩ (.slice A' (R.taken.length + 1) cap')) p (g + 1) { R with taken := R.taken ++ [s] } ⟨vs, va, .slice A R.taken.length capA⟩ from push_taken HV.out (by simpa using hown1) hgrow1 (by simpa using hat1))
      clear hown1 hgrow1 hat1 hp1 c2
      go_wp2_with fail
      go_ret
      exact ⟨rfl, X.out.before (dtrans D2.out (Drawn0.step (Drawn0.refl _) _))⟩
theorem rlabel_calls (h : RHolds w p g R q) (hm : Mir T R) (hg : g + 2 < 17592186044416) (s : ByteArray) (hs : s.size ≤ maxLen) :
    Calls Tryd.prog 68 #[.pointer (some ⟨p, 0, none⟩), .string s] w fun e w' => ∃ R', e = .returned (.int .i64 ((labelT T s).2 : Int)) ∧ Mir (labelT T s).1 R' ∧ RSteps w w' p (g + 1) R' q := by
  have hlab : R.taken.length ≤ 1024 := by rw [hm.taken]; exact hm.wf.labels
  cases h2 : nameOk s with
  | false =>
    have hc : labelT T s = (T, 21) := by unfold labelT; rw [if_pos h2]
    rw [hc]
    exact (rlabel_1 h hg hlab s hs h2).mono fun e w' ⟨he, hd⟩ => ⟨R, he, hm, hd⟩
  | true =>
    by_cases h3 : s ∈ T.labels
    · have hc : labelT T s = (T, 20) := by unfold labelT; rw [if_neg (by simp [h2]), if_pos (labIdx_some_iff.2 h3)]
      rw [hc]
      rw [← hm.taken] at h3
      exact (rlabel_2 h hg hlab s hs h2 h3).mono fun e w' ⟨he, hd⟩ => ⟨R, he, hm, hd⟩
    · have h3' : ¬ (labIdx T.labels s).isSome = true := fun e => h3 (labIdx_some_iff.1 e)
      by_cases h4 : 1024 ≤ T.labels.length
      · have hc : labelT T s = (T, 22) := by unfold labelT; rw [if_neg (by simp [h2]), if_neg h3', if_pos h4]
        rw [hc]
        rw [← hm.taken] at h3 h4
        exact (rlabel_3 h hg hlab s hs h2 h3 h4).mono fun e w' ⟨he, hd⟩ => ⟨R, he, hm, hd⟩
      · have hc : labelT T s = ({ T with labels := T.labels ++ [s] }, 0) := by unfold labelT; rw [if_neg (by simp [h2]), if_neg h3', if_neg h4]
        have hr := rel_label hm.rel s
        have hwf := wf_label hm.wf s
        rw [hc] at hr hwf ⊢
        rw [← hm.taken] at h3 h4
        refine (rlabel_4 h hg hlab s hs h2 h3 (by omega)).mono fun e w' ⟨he, hd⟩ => ⟨{ R with taken := R.taken ++ [s] }, he, ⟨hm.syms, ?_, hr, hwf⟩, hd⟩
        show R.taken ++ [s] = T.labels ++ [s]
        rw [hm.taken]

/-! ### Labels, New -/
set_option maxHeartbeats 1000000 in
set_option maxRecDepth 100000 in
theorem rlabels_h (h : RHolds w p g R q) (hlab : R.taken.length ≤ 1024) :
    Calls Tryd.prog 38 #[.pointer (some ⟨p, 0, none⟩)] w fun e w' => ∃ v', e = .returned v' ∧ w'.ownsRow w.heap.size 9 1 v' R.taken.length (R.taken.map Value.string) ∧ Turns None w w' := by
  obtain ⟨vs, va, vt⟩ := q
  have H := Aside0.mk h
  obtain ⟨i9, hi, hz0, hz1, hz2⟩ := info_parts info9
  have Hi9 := Aside0.mk hi
  have Hz09 := Aside0.mk hz0
  have Hz19 := Aside0.mk hz1
  have Hz29 := Aside0.mk hz2
  clear hi hz0 hz1 hz2
  have c2 := (cell_at h.cells 2).1
  simp only [List.getElem?_toArray, List.getElem?_cons_zero, List.getElem?_cons_succ] at c2
  have Hown := Aside0.mk (World.ownsRow_nil w w.heap.size 9 1)
  rcases h.taken.2 with ⟨e, h0⟩ | ⟨gb, cap, cur, e, hb, hgg, hn, hc, hsz, ht⟩
  · have hl0 : R.taken = [] := List.eq_nil_of_length_eq_zero h0
    simp only at e
    subst e
    clear h
    go_enter Tryd.func38, Tryd.ntmps38
    go_wp2_with (at_builtin; refine wpList_append_own_none rfl (.tmp 4) (.tmp 8) 38 rfl w.heap.size 9 i9 1 Tryd.underlying38 Hi9.out (.slice none 0 0) 0 [] rfl Hown.out rfl ?_)
    go_wp2_with fail
    go_ret
    exact ⟨_, rfl, by rw [hl0]; exact World.ownsRow_nil _ _ _ _, Turns.refl _ _⟩
  · simp only at e
    subst e
    have hlt : gb < w.heap.size := (Array.getElem?_eq_some_iff.1 hgg).1
    have Hc := Aside0.mk (show ∀ j u, (R.taken.map Value.string)[j]? = some u → w.cell? ((⟨gb, 0, none⟩ : Addr).add j) = some u from fun j u hu => H.out.taken.cells rfl j u hu)
    clear h hgg hn hc hsz ht hb
    go_enter Tryd.func38, Tryd.ntmps38
    go_wp2_with (at_builtin; refine wpList_append_own_at _ rfl (.tmp 4) (.tmp 8) 38 rfl w.heap.size 9 i9 (.string .empty) 1 16 Tryd.underlying38 Hi9.out Hz09.out Hz19.out Hz29.out rfl (by decide) _ 0 [] rfl Hown.out ⟨gb, 0, none⟩ R.taken.length cap (R.taken.map Value.string) rfl (by simp) Hc.out ?c2 (by unfold maxLen; omega) (by omega) (Nat.le_refl _) ?_)
    case c2 =>
      intro u hu
      obtain ⟨s, _, rfl⟩ := List.mem_map.1 hu
      rfl
    intro v' w1 hown1 hgrow1 hnil1 hat1
    have Hown1 := Aside0.mk (show w1.ownsRow w.heap.size 9 1 v' R.taken.length (R.taken.map Value.string) from by simpa using hown1)
    have Hgrow1 := Aside0.mk hgrow1
    clear hown1 hgrow1 hnil1 hat1 c2
    go_wp2_with fail
    go_ret
    refine ⟨_, rfl, Hown1.out, Turns.of_grown Hgrow1.out (fun k hk => by simp [Value.ownBlock] at hk)⟩
theorem rlabels_calls (h : RHolds w p g R q) (hm : Mir T R) :
    Calls Tryd.prog 38 #[.pointer (some ⟨p, 0, none⟩)] w fun e w' => ∃ v', e = .returned v' ∧ Kd.R Kd.string 9 w' w.heap.size (fun k => w.heap.size ≤ k) v' T.labels ∧ Turns None w w' := by
  refine (rlabels_h h (by rw [hm.taken]; exact hm.wf.labels)).mono fun e w' ⟨v', he, ho, ht⟩ => ⟨v', he, ?_, ht⟩
  rw [← hm.taken]
  exact Kd.R_of_own (enc := Value.string) ho (fun k hk => (ho.lt k hk).1)
set_option maxHeartbeats 1000000 in
theorem rnew_calls : Calls Tryd.prog 34 #[] w fun e w' => ∃ p q, e = .returned (.pointer (some ⟨p, 0, none⟩)) ∧ RHolds w' p 0 ⟨[], [], []⟩ q ∧ (∀ k, q.has p k → w.heap.size ≤ k) ∧ Turns None w w' := by
  go_enter Tryd.func34, Tryd.ntmps34
  go_wp2
  go_ret
  refine ⟨_, ⟨.slice none 0 0, .slice none 0 0, .slice none 0 0⟩, rfl, ⟨?_, World.ownsRow_nil _ _ _ _, World.ownsRow_nil _ _ _ _, World.ownsRow_nil _ _ _ _, Nat.le_refl _⟩, fun k hk => ?_, Turns.alloc _ _ _⟩
  · exact heap_alloc_new _ _
  · rcases hk with hk | hk | hk | hk
    · omega
    · simp [Value.ownBlock] at hk
    · simp [Value.ownBlock] at hk
    · simp [Value.ownBlock] at hk
theorem mir_empty : Mir empty ⟨[], [], []⟩ := ⟨rfl, rfl, rel_empty, WF.empty⟩
end
end Go.Proofs.YtpoojimmponklaaDoor.SymRefLabel

namespace Go.Proofs.YtpoojimmponklaaDoor.SymPair
open Go.RowKit Go.Maps Go.Proofs.YtpoojimmponklaaDoor.SymTab Go.Proofs.YtpoojimmponklaaDoor.SymHeap Go.Proofs.YtpoojimmponklaaDoor.SymReads Go.Proofs.YtpoojimmponklaaDoor.SymApi Go.Proofs.YtpoojimmponklaaDoor.SymRef Go.Proofs.YtpoojimmponklaaDoor.SymRefDoes Go.Proofs.YtpoojimmponklaaDoor.SymRefMore Go.Proofs.YtpoojimmponklaaDoor.SymRefVar Go.Proofs.YtpoojimmponklaaDoor.SymRefLabel Go.Proofs.YtpoojimmponklaaDoor.SymNew
open Go.Proofs.YtpoojimmponklaaDoorW.PrintWords
set_option linter.unusedVariables false

/-- The two tables lie in F, apart from each other. -/
def Two (w : World) (p g : Nat) (T : Tab) (r gr : Nat) (R : Ref) (F : Nat → Prop) : Prop :=
  ∃ F1 F2, TabIs w p g T F1 ∧ RefIs w r gr R F2 ∧ (∀ k, F1 k → ¬ F2 k) ∧ (∀ k, F1 k → F k ∧ k < w.heap.size) ∧ (∀ k, F2 k → F k ∧ k < w.heap.size)
/-- They lie in F and in what was made since W. -/
def Twos (W w : World) (F : Nat → Prop) (p g : Nat) (T : Tab) (r gr : Nat) (R : Ref) : Prop := Two w p g T r gr R (More F W.heap.size) ∧ Turns F W w

section
variable {W w w' : World} {F : Nat → Prop} {p g g' r gr gr' : Nat} {T T' : Tab} {R R' : Ref}
theorem Two.mono {F' : Nat → Prop} (h : Two w p g T r gr R F) (hf : ∀ k, k < w.heap.size → F k → F' k) : Two w p g T r gr R F' := by
  obtain ⟨F1, F2, a, b, c, d, e⟩ := h
  exact ⟨F1, F2, a, b, c, fun k hk => ⟨hf k (d k hk).2 (d k hk).1, (d k hk).2⟩, fun k hk => ⟨hf k (e k hk).2 (e k hk).1, (e k hk).2⟩⟩
theorem Two.move (h : Two w p g T r gr R F) (hm : ∀ k, k < w.heap.size → F k → w'.heap[k]? = w.heap[k]?) (hs : w.heap.size ≤ w'.heap.size) : Two w' p g T r gr R F := by
  obtain ⟨F1, F2, a, b, c, d, e⟩ := h
  exact ⟨F1, F2, a.move (fun k hk => hm k (d k hk).2 (d k hk).1), b.move (fun k hk => hm k (e k hk).2 (e k hk).1), c, fun k hk => ⟨(d k hk).1, Nat.lt_of_lt_of_le (d k hk).2 hs⟩, fun k hk => ⟨(e k hk).1, Nat.lt_of_lt_of_le (e k hk).2 hs⟩⟩
theorem Two.wf (h : Two w p g T r gr R F) : WF T := by
  obtain ⟨_, _, a, _⟩ := h
  exact a.1
theorem Two.more (h : Two w p g T r gr R F) (hg : g ≤ g') (hr : gr ≤ gr') : Two w p g' T r gr' R F := by
  obtain ⟨F1, F2, a, b, c⟩ := h
  exact ⟨F1, F2, a.more hg, b.more hr, c⟩
theorem Two.start (h : Two w p g T r gr R F) : Twos w w F p g T r gr R := ⟨h.mono (fun k hk hf => .inl hf), Turns.refl _ _⟩
theorem Twos.past (h : Twos W w F p g T r gr R) (ht : Turns None w w') : Twos W w' F p g T r gr R :=
  ⟨h.1.move (fun k hk _ => ht.block k hk (fun x => x.elim)) ht.size, h.2.trans ht (fun k hk => hk.elim)⟩
theorem Twos.drawn (h : Twos W w F p g T r gr R) (hd : Drawn0 w w') : Twos W w' F p g T r gr R := by
  obtain ⟨n, rfl⟩ := hd
  exact h.past (Turns.drewN w n)
theorem Twos.more (h : Twos W w F p g T r gr R) (hg : g ≤ g') (hr : gr ≤ gr') : Twos W w F p g' T r gr' R := ⟨h.1.more hg hr, h.2⟩
/-- The box of a call's own argument lies apart. -/
theorem Twos.box (h : Twos W w F p g T r gr R) {b : Nat} (hb : b < W.heap.size) (hf : ¬ F b) (i : Nat) : w.cell? ⟨b, i, none⟩ = W.cell? ⟨b, i, none⟩ := by
  simp [World.cell?, h.2.block b hb hf]

theorem does_drawn {fp : Nat → Prop} (h : TabIs w p g T fp) (hd : Drawn0 w w') : Does w w' p g T fp := by
  obtain ⟨n, rfl⟩ := hd
  exact ⟨(h.move (w' := w.drewN n) (fun _ _ => rfl)).mono (fun k hk => .inl hk), Turns.drewN w n⟩
theorem tab_step {F1 F2 : Nat → Prop} (b : RefIs w r gr R F2) (c : ∀ k, F1 k → ¬ F2 k) (d : ∀ k, F1 k → More F W.heap.size k ∧ k < w.heap.size) (e : ∀ k, F2 k → More F W.heap.size k ∧ k < w.heap.size) (ht : Turns F W w) (hdo : Does w w' p g' T' F1) : Twos W w' F p g' T' r gr R := by
  obtain ⟨a', t'⟩ := hdo
  have hs := t'.size
  refine ⟨⟨fun k => More F1 w.heap.size k ∧ k < w'.heap.size, F2, a'.bound, b.move (fun k hk => t'.block k (e k hk).2 (fun hf => c k hf hk)), fun k hk hk2 => ?_, fun k hk => ⟨?_, hk.2⟩, fun k hk => ⟨(e k hk).1, Nat.lt_of_lt_of_le (e k hk).2 hs⟩⟩, ht.trans t' (fun k hk => (d k hk).1)⟩
  · rcases hk.1 with hk | hk
    · exact c k hk hk2
    · have := (e k hk2).2
      omega
  · rcases hk.1 with hk | hk
    · exact (d k hk).1
    · exact .inr (Nat.le_trans ht.size hk)
theorem Twos.tabCalls {f : FuncId} {args : Array Value} {P : Ending → Prop} (h : Twos W w F p g T r gr R) (hd : ∀ F1, TabIs w p g T F1 → Calls Tryd.prog f args w fun e w' => P e ∧ Does w w' p g' T' F1) :
    Calls Tryd.prog f args w fun e w' => P e ∧ Twos W w' F p g' T' r gr R := by
  obtain ⟨⟨F1, F2, a, b, c, d, e⟩, ht⟩ := h
  exact (hd F1 a).mono fun _ w' ⟨he, hdo⟩ => ⟨he, tab_step b c d e ht hdo⟩
theorem ref_step {F1 : Nat → Prop} {q : RParts} (a : TabIs w p g T F1) (c : ∀ k, F1 k → ¬ q.has r k) (d : ∀ k, F1 k → More F W.heap.size k ∧ k < w.heap.size) (e : ∀ k, q.has r k → More F W.heap.size k ∧ k < w.heap.size) (ht : Turns F W w) (hdo : RSteps w w' r gr' R' q) : Twos W w' F p g T r gr' R' := by
  obtain ⟨q', hq', hn, t'⟩ := hdo
  have hs := t'.size
  refine ⟨⟨F1, fun k => q'.has r k, a.move (fun k hk => t'.block k (d k hk).2 (fun hf => c k hk hf)), ⟨q', hq', fun k hk => hk⟩, fun k hk hk2 => ?_, fun k hk => ⟨(d k hk).1, Nat.lt_of_lt_of_le (d k hk).2 hs⟩, fun k hk => ⟨?_, hq'.lt k hk⟩⟩, ht.trans t' (fun k hk => (e k hk).1)⟩
  · rcases hn k hk2 with hk3 | hk3
    · exact c k hk hk3
    · have := (d k hk).2
      omega
  · rcases hn k hk with hk3 | hk3
    · exact (e k hk3).1
    · exact .inr (Nat.le_trans ht.size hk3)
theorem Twos.refCalls {f : FuncId} {args : Array Value} {P : Ending → Ref → Prop} (h : Twos W w F p g T r gr R) (hd : ∀ q, RHolds w r gr R q → Calls Tryd.prog f args w fun e w' => ∃ R', P e R' ∧ RSteps w w' r gr' R' q) :
    Calls Tryd.prog f args w fun e w' => ∃ R', P e R' ∧ Twos W w' F p g T r gr' R' := by
  obtain ⟨⟨F1, F2, a, ⟨q, hq, hqf⟩, c, d, e⟩, ht⟩ := h
  exact (hd q hq).mono fun _ w' ⟨R', he, hdo⟩ => ⟨R', he, ref_step a (fun k hk hk2 => c k hk (hqf k hk2)) d (fun k hk => e k (hqf k hk)) ht hdo⟩

/-! ### the calls on the program's table -/
theorem Twos.blanks (h : Twos W w F p g T r gr R) (hb : SymScan.Blanks W) (hF : ¬ F 0) : SymScan.Blanks w := blanks_turns hb h.2 hF
theorem t_open (h : Twos W w F p g T r gr R) : Calls Tryd.prog 17 #[.pointer (some ⟨p, 0, none⟩)] w fun e w' => e = .returned (.int .i64 ((openS T).2 : Int)) ∧ Twos W w' F p g ((openS T).1) r gr R :=
  h.tabCalls fun F1 h => open_api h
theorem t_close (h : Twos W w F p g T r gr R) : Calls Tryd.prog 19 #[.pointer (some ⟨p, 0, none⟩)] w fun e w' => e = .returned (.int .i64 ((closeS T).2 : Int)) ∧ Twos W w' F p g ((closeS T).1) r gr R :=
  h.tabCalls fun F1 h => close_api h
theorem t_const (h : Twos W w F p g T r gr R) (s : ByteArray) (hs : s.size ≤ maxLen) (hg : g + 2 < maxLen) (hb : SymScan.Blanks w) : Calls Tryd.prog 18 #[.pointer (some ⟨p, 0, none⟩), .string s] w fun e w' => e = .returned (.tuple #[.int .i64 ((constT T s).2.1 : Int), .int .i64 ((constT T s).2.2 : Int)]) ∧ Twos W w' F p (g + 2) ((constT T s).1) r gr R :=
  h.tabCalls fun F1 h => const_api hb h s hs hg
theorem t_var (h : Twos W w F p g T r gr R) (s : ByteArray) (hs : s.size ≤ maxLen) (hg : g + 2 < maxLen) (hb : SymScan.Blanks w) : Calls Tryd.prog 22 #[.pointer (some ⟨p, 0, none⟩), .string s] w fun e w' => e = .returned (.tuple #[.int .i64 ((varT T s).2.1 : Int), .int .i64 ((varT T s).2.2 : Int)]) ∧ Twos W w' F p (g + 2) ((varT T s).1) r gr R :=
  h.tabCalls fun F1 h => var_api hb h s hs hg
theorem t_label (h : Twos W w F p g T r gr R) (s : ByteArray) (hs : s.size ≤ maxLen) (hg : g + 2 < maxLen) : Calls Tryd.prog 25 #[.pointer (some ⟨p, 0, none⟩), .string s] w fun e w' => e = .returned (.int .i64 ((labelT T s).2 : Int)) ∧ Twos W w' F p (g + 2) ((labelT T s).1) r gr R :=
  h.tabCalls fun F1 h => label_api h s hs hg
theorem t_find (h : Twos W w F p g T r gr R) (s : ByteArray) (hs : s.size ≤ maxLen) : Calls Tryd.prog 31 #[.pointer (some ⟨p, 0, none⟩), .string s] w fun e w' => e = .returned (.tuple #[.int .i64 ((findT T s).1 : Int), .bool (findT T s).2]) ∧ Twos W w' F p g T r gr R :=
  h.tabCalls fun F1 h => (find_api h s hs).mono fun e w' ⟨he, hd⟩ => ⟨he, does_drawn h hd⟩
theorem t_name (h : Twos W w F p g T r gr R) (n : Int) : Calls Tryd.prog 23 #[.pointer (some ⟨p, 0, none⟩), .int .i64 n] w fun e w' => e = .returned (.string (nameT T n)) ∧ Twos W w' F p g T r gr R :=
  h.tabCalls fun F1 h => (name_calls h n).mono fun e w' ⟨he, hd⟩ => ⟨he, by rw [hd]; exact does_drawn h (Drawn0.refl _)⟩
theorem t_isVar (h : Twos W w F p g T r gr R) (n : Int) : Calls Tryd.prog 24 #[.pointer (some ⟨p, 0, none⟩), .int .i64 n] w fun e w' => e = .returned (.bool (isVarT T n)) ∧ Twos W w' F p g T r gr R :=
  h.tabCalls fun F1 h => (isVar_calls h n).mono fun e w' ⟨he, hd⟩ => ⟨he, does_drawn h hd⟩
theorem t_active (h : Twos W w F p g T r gr R) (n : Int) : Calls Tryd.prog 21 #[.pointer (some ⟨p, 0, none⟩), .int .i64 n] w fun e w' => e = .returned (.bool (activeT T n)) ∧ Twos W w' F p g T r gr R :=
  h.tabCalls fun F1 h => (active_calls h n).mono fun e w' ⟨he, hd⟩ => ⟨he, does_drawn h hd⟩
theorem t_count (h : Twos W w F p g T r gr R) : Calls Tryd.prog 20 #[.pointer (some ⟨p, 0, none⟩)] w fun e w' => e = .returned (.int .i64 (T.syms.length : Int)) ∧ Twos W w' F p g T r gr R :=
  h.tabCalls fun F1 h => (count_calls h).mono fun e w' ⟨he, hd⟩ => ⟨he, does_drawn h hd⟩
theorem t_depth (h : Twos W w F p g T r gr R) : Calls Tryd.prog 16 #[.pointer (some ⟨p, 0, none⟩)] w fun e w' => e = .returned (.int .i64 (T.scopes.length : Int)) ∧ Twos W w' F p g T r gr R :=
  h.tabCalls fun F1 h => (depth_calls h).mono fun e w' ⟨he, hd⟩ => ⟨he, does_drawn h hd⟩

/-! ### the calls on the document's -/
theorem ropen_calls' {q : RParts} (h : RHolds w r gr R q) (hm : Mir T R) (hg : gr + 2 < 17592186044416) :
    Calls Tryd.prog 63 #[.pointer (some ⟨r, 0, none⟩)] w fun e w' => ∃ R', (e = .returned (.int .i64 ((openS T).2 : Int)) ∧ Mir (openS T).1 R') ∧ RSteps w w' r (gr + 1) R' q := by
  by_cases h1 : 16 ≤ T.scopes.length
  · have hc : openS T = (T, 23) := by unfold openS; rw [if_pos h1]
    rw [hc]
    exact (ropen_full h hg _ hm.rel.depth h1).mono fun e w' ⟨he, hd⟩ => ⟨R, ⟨he, hm⟩, hd⟩
  · obtain ⟨hr, hc⟩ := rel_open hm.wf hm.rel (by omega)
    have e1 : openS T = ({ T with scopes := T.scopes ++ [[]] }, 0) := by unfold openS; rw [if_neg h1]
    refine (ropen_new h hg _ hm.rel.depth (by omega)).mono fun e w' ⟨he, hd⟩ => ⟨{ R with acts := R.acts ++ [-1] }, ⟨by rw [he, hc]; rfl, ⟨?_, ?_, hr, wf_open hm.wf⟩⟩, hd⟩
    · rw [e1]; exact hm.syms
    · rw [e1]; exact hm.taken
theorem rclose_calls' {q : RParts} (h : RHolds w r gr R q) (hm : Mir T R) (hg : gr + 2 < 17592186044416) :
    Calls Tryd.prog 64 #[.pointer (some ⟨r, 0, none⟩)] w fun e w' => ∃ R', (e = .returned (.int .i64 ((closeS T).2 : Int)) ∧ Mir (closeS T).1 R') ∧ RSteps w w' r (gr + 1) R' q := by
  by_cases h1 : T.scopes = []
  · have hc : closeS T = (T, 23) := by unfold closeS; rw [if_pos h1]
    rw [hc]
    exact (rclose_none h hg _ hm.rel.depth (by rw [h1]; rfl)).mono fun e w' ⟨he, hd⟩ => ⟨R, ⟨he, hm⟩, hd⟩
  · obtain ⟨hr, hc⟩ := rel_close hm.wf hm.rel h1
    have e1 : closeS T = ({ T with act := dels T T.act (T.scopes.getLastD []), scopes := T.scopes.dropLast }, 0) := by unfold closeS; rw [if_neg h1]
    refine (rclose_new h hg _ hm.rel.depth (fun e => h1 (List.eq_nil_of_length_eq_zero e))).mono fun e w' ⟨he, hd⟩ => ⟨{ R with acts := R.acts ++ [-2] }, ⟨by rw [he, hc]; rfl, ⟨?_, ?_, hr, wf_close hm.wf⟩⟩, hd⟩
    · rw [e1]; exact hm.syms
    · rw [e1]; exact hm.taken
theorem r_open {U : Tab} (h : Twos W w F p g U r gr R) (hm : Mir T R) (hg : gr + 2 < 17592186044416) : Calls Tryd.prog 63 #[.pointer (some ⟨r, 0, none⟩)] w fun e w' => ∃ R', (e = .returned (.int .i64 ((openS T).2 : Int)) ∧ Mir (openS T).1 R') ∧ Twos W w' F p g U r (gr + 1) R' :=
  h.refCalls fun q h => ropen_calls' h hm hg
theorem r_close {U : Tab} (h : Twos W w F p g U r gr R) (hm : Mir T R) (hg : gr + 2 < 17592186044416) : Calls Tryd.prog 64 #[.pointer (some ⟨r, 0, none⟩)] w fun e w' => ∃ R', (e = .returned (.int .i64 ((closeS T).2 : Int)) ∧ Mir (closeS T).1 R') ∧ Twos W w' F p g U r (gr + 1) R' :=
  h.refCalls fun q h => rclose_calls' h hm hg
theorem r_const {U : Tab} (h : Twos W w F p g U r gr R) (hm : Mir T R) (hg : gr + 2 < 17592186044416) (s : ByteArray) (hs : s.size ≤ maxLen) : Calls Tryd.prog 65 #[.pointer (some ⟨r, 0, none⟩), .string s] w fun e w' => ∃ R', (e = .returned (.tuple #[.int .i64 ((constT T s).2.1 : Int), .int .i64 ((constT T s).2.2 : Int)]) ∧ Mir (constT T s).1 R') ∧ Twos W w' F p g U r (gr + 1) R' :=
  h.refCalls fun q h => (rconst_calls h hm hg s hs).mono fun e w' ⟨R', a, b, c⟩ => ⟨R', ⟨a, b⟩, c⟩
theorem r_var {U : Tab} (h : Twos W w F p g U r gr R) (hm : Mir T R) (hg : gr + 2 < 17592186044416) (s : ByteArray) (hs : s.size ≤ maxLen) : Calls Tryd.prog 66 #[.pointer (some ⟨r, 0, none⟩), .string s] w fun e w' => ∃ R', (e = .returned (.tuple #[.int .i64 ((varT T s).2.1 : Int), .int .i64 ((varT T s).2.2 : Int)]) ∧ Mir (varT T s).1 R') ∧ Twos W w' F p g U r (gr + 1) R' :=
  h.refCalls fun q h => (rvar_calls h hm hg hs).mono fun e w' ⟨R', a, b, c⟩ => ⟨R', ⟨a, b⟩, c⟩
theorem r_label {U : Tab} (h : Twos W w F p g U r gr R) (hm : Mir T R) (hg : gr + 2 < 17592186044416) (s : ByteArray) (hs : s.size ≤ maxLen) : Calls Tryd.prog 68 #[.pointer (some ⟨r, 0, none⟩), .string s] w fun e w' => ∃ R', (e = .returned (.int .i64 ((labelT T s).2 : Int)) ∧ Mir (labelT T s).1 R') ∧ Twos W w' F p g U r (gr + 1) R' :=
  h.refCalls fun q h => (rlabel_calls h hm hg s hs).mono fun e w' ⟨R', a, b, c⟩ => ⟨R', ⟨a, b⟩, c⟩

theorem mir_there (hm : Mir T R) (n : Int) : rThere R n = there T n := by
  unfold rThere there
  rw [hm.syms]
theorem mir_name (hm : Mir T R) (n : Int) : rName R n = nameT T n := by
  unfold rName nameT nameOf nm
  rw [mir_there hm, hm.syms]
theorem mir_isVar (hm : Mir T R) (n : Int) : rIsVar R n = isVarT T n := by
  unfold rIsVar isVarT vr
  rw [mir_there hm, hm.syms]
theorem mir_active (hm : Mir T R) (n : Int) : rActive R n = activeT T n := by
  unfold rActive activeT
  rw [mir_there hm]
  cases ht : there T n with
  | false => rfl
  | true =>
    obtain ⟨k, rfl, hk⟩ := there_split.1 ht
    rw [Int.toNat_natCast, active_says hm.wf hm.rel hk, hm.syms]
    rfl
theorem refRead {f : FuncId} {args : Array Value} {P : Ending → Prop} (h : Twos W w F p g T r gr R) (hd : ∀ q, RHolds w r gr R q → Calls Tryd.prog f args w fun e w' => P e ∧ Drawn0 w w') : Calls Tryd.prog f args w fun e w' => P e ∧ Twos W w' F p g T r gr R := by
  have h' := h
  obtain ⟨⟨F1, F2, a, ⟨q, hq, hqf⟩, c, d, e⟩, ht⟩ := h'
  exact (hd q hq).mono fun _ w' ⟨he, hdo⟩ => ⟨he, h.drawn hdo⟩
theorem r_find (h : Twos W w F p g T r gr R) (hm : Mir T R) (hg : gr + 2 < 17592186044416) (s : ByteArray) (hs : s.size ≤ maxLen) : Calls Tryd.prog 67 #[.pointer (some ⟨r, 0, none⟩), .string s] w fun e w' => e = .returned (.tuple #[.int .i64 ((findT T s).1 : Int), .bool (findT T s).2]) ∧ Twos W w' F p g T r (gr + 1) R := by
  refine (h.refCalls (gr' := gr + 1) (P := fun e R' => R' = R ∧ e = .returned (.tuple #[.int .i64 ((findT T s).1 : Int), .bool (findT T s).2])) fun q h => (rfind_calls h hm hg hs).mono fun e w' ⟨a, b⟩ => ⟨R, ⟨rfl, a⟩, b⟩).mono ?_
  rintro e w' ⟨R', ⟨rfl, he⟩, hx⟩
  exact ⟨he, hx⟩
theorem r_name (h : Twos W w F p g T r gr R) (hm : Mir T R) (hg : gr + 2 < 17592186044416) (n : Int) : Calls Tryd.prog 39 #[.pointer (some ⟨r, 0, none⟩), .int .i64 n] w fun e w' => e = .returned (.string (nameT T n)) ∧ Twos W w' F p g T r gr R := by
  refine refRead h fun q h => ?_
  have := rname_calls (fp := fun _ => True) ⟨q, h, fun _ _ => trivial⟩ n
  rwa [mir_name hm] at this
theorem r_isVar (h : Twos W w F p g T r gr R) (hm : Mir T R) (hg : gr + 2 < 17592186044416) (n : Int) : Calls Tryd.prog 40 #[.pointer (some ⟨r, 0, none⟩), .int .i64 n] w fun e w' => e = .returned (.bool (isVarT T n)) ∧ Twos W w' F p g T r gr R := by
  refine refRead h fun q h => ?_
  have := risVar_calls (fp := fun _ => True) ⟨q, h, fun _ _ => trivial⟩ n
  rwa [mir_isVar hm] at this
theorem r_active (h : Twos W w F p g T r gr R) (hm : Mir T R) (hg : gr + 2 < 17592186044416) (n : Int) : Calls Tryd.prog 41 #[.pointer (some ⟨r, 0, none⟩), .int .i64 n] w fun e w' => e = .returned (.bool (activeT T n)) ∧ Twos W w' F p g T r gr R := by
  refine refRead h fun q h => ?_
  have := ractive_calls (fp := fun _ => True) ⟨q, h, fun _ _ => trivial⟩ (by unfold maxLen; omega) n
  rwa [mir_active hm] at this
theorem r_count (h : Twos W w F p g T r gr R) (hm : Mir T R) (hg : gr + 2 < 17592186044416) : Calls Tryd.prog 36 #[.pointer (some ⟨r, 0, none⟩)] w fun e w' => e = .returned (.int .i64 (T.syms.length : Int)) ∧ Twos W w' F p g T r gr R := by
  refine refRead h fun q h => ?_
  have := rcount_calls (fp := fun _ => True) ⟨q, h, fun _ _ => trivial⟩
  rwa [hm.syms] at this
theorem r_depth (h : Twos W w F p g T r gr R) (hm : Mir T R) (hg : gr + 2 < 17592186044416) : Calls Tryd.prog 37 #[.pointer (some ⟨r, 0, none⟩)] w fun e w' => e = .returned (.int .i64 (T.scopes.length : Int)) ∧ Twos W w' F p g T r gr R := by
  refine refRead h fun q h => ?_
  have := rdepth_calls (fp := fun _ => True) ⟨q, h, fun _ _ => trivial⟩ (by unfold maxLen; omega)
  rwa [hm.rel.depth] at this
end
end Go.Proofs.YtpoojimmponklaaDoor.SymPair

namespace Go.Proofs.YtpoojimmponklaaDoor.SymAlike
open Go.RowKit Go.Maps Go.Proofs.YtpoojimmponklaaDoor.SymTab Go.Proofs.YtpoojimmponklaaDoor.SymHeap Go.Proofs.YtpoojimmponklaaDoor.SymReads Go.Proofs.YtpoojimmponklaaDoor.SymApi Go.Proofs.YtpoojimmponklaaDoor.SymRef Go.Proofs.YtpoojimmponklaaDoor.SymRefDoes Go.Proofs.YtpoojimmponklaaDoor.SymRefMore Go.Proofs.YtpoojimmponklaaDoor.SymRefVar Go.Proofs.YtpoojimmponklaaDoor.SymRefLabel Go.Proofs.YtpoojimmponklaaDoor.SymNew Go.Proofs.YtpoojimmponklaaDoor.SymPair
open Go.Proofs.YtpoojimmponklaaDoorW.PrintWords
open Go.Proofs.YtpoojimmponklaaDoorW.PrintLast
set_option linter.unusedVariables false
set_option linter.unusedSimpArgs false
section
variable {W w : World} {F : Nat → Prop} {p g r gr : Nat} {T : Tab} {R R' : Ref}

abbrev Box (W : World) (k : Int) (s : ByteArray) (n : Int) : World := W.alloc (Obj.cells #[Value.int IntKind.i64 k, Value.string s, Value.int IntKind.i64 n] 28)
def Old (F : Nat → Prop) (W : World) : Nat → Prop := fun k => F k ∧ k < W.heap.size
theorem box_start (h : Two W p g T r gr R F) (k : Int) (s : ByteArray) (n : Int) : Twos (Box W k s n) (Box W k s n) (Old F W) p g T r gr R := by
  have h1 : Two W p g T r gr R (Old F W) := h.mono (fun k hk hf => ⟨hf, hk⟩)
  exact (h1.move (w' := Box W k s n) (fun j hj hf => Below.heap_alloc W _ j hj) (by simp)).start
theorem box_at {k : Int} {s : ByteArray} {n : Int} (h : Twos (Box W k s n) w (Old F W) p g T r gr R) :
    w.cell? ⟨W.heap.size, 0, none⟩ = some (.int .i64 k) ∧ w.cell? ⟨W.heap.size, 1, none⟩ = some (.string s) ∧ w.cell? ⟨W.heap.size, 2, none⟩ = some (.int .i64 n) := by
  have hn : ¬ Old F W W.heap.size := fun hk => by have := hk.2; omega
  have hb : (Box W k s n).heap[W.heap.size]? = some (Obj.cells #[Value.int IntKind.i64 k, Value.string s, Value.int IntKind.i64 n] 28) := heap_alloc_new W _
  have e := fun i => Twos.box h (b := W.heap.size) (by simp) hn i
  refine ⟨(e 0).trans ?_, (e 1).trans ?_, (e 2).trans ?_⟩ <;> (unfold World.cell?; simp only; rw [hb]; rfl)
theorem box_end {k : Int} {s : ByteArray} {n : Int} (h : Twos (Box W k s n) w (Old F W) p g T r gr R) : Two w p g T r gr R (More F W.heap.size) ∧ Turns F W w := by
  refine ⟨h.1.mono (fun j hj hf => ?_), (Turns.alloc F W _).trans h.2 (fun j hj => .inl hj.1)⟩
  rcases hf with hf | hf
  · exact .inl hf.1
  · right
    simp at hf
    omega
theorem box_blanks (hb : SymScan.Blanks W) (k : Int) (s : ByteArray) (n : Int) : SymScan.Blanks (Box W k s n) := hb.move (Below.heap_alloc W _ 0 hb.lt)

theorem tabOf (h : Twos W w F p g T r gr R) : ∃ F1, TabIs w p g T F1 := by
  obtain ⟨⟨F1, F2, a, _⟩, _⟩ := h
  exact ⟨F1, a⟩
theorem refOf (h : Twos W w F p g T r gr R) : ∃ F1, RefIs w r gr R F1 := by
  obtain ⟨⟨F1, F2, _, a, _⟩, _⟩ := h
  exact ⟨F2, a⟩
theorem qt_name (h : Twos W w F p g T r gr R) (n : Int) (m : Nat) : Calls Tryd.prog 23 #[.pointer (some ⟨p, 0, none⟩), .int .i64 n] (w.drewN m) fun e w'' => e = .returned (.string (nameT T n)) ∧ ∃ k, w'' = w.drewN k := by
  obtain ⟨F1, h1⟩ := tabOf (h.drawn (w' := w.drewN m) ⟨m, rfl⟩)
  exact (name_calls h1 n).mono fun e w' ⟨he, hd⟩ => ⟨he, m, hd⟩
theorem qt_isVar (h : Twos W w F p g T r gr R) (n : Int) (m : Nat) : Calls Tryd.prog 24 #[.pointer (some ⟨p, 0, none⟩), .int .i64 n] (w.drewN m) fun e w'' => e = .returned (.bool (isVarT T n)) ∧ ∃ k, w'' = w.drewN k := by
  obtain ⟨F1, h1⟩ := tabOf (h.drawn (w' := w.drewN m) ⟨m, rfl⟩)
  exact (isVar_calls h1 n).mono fun e w' ⟨he, k, hd⟩ => ⟨he, m + k, by rw [hd, World.drewN_drewN]⟩
theorem qt_active (h : Twos W w F p g T r gr R) (n : Int) (m : Nat) : Calls Tryd.prog 21 #[.pointer (some ⟨p, 0, none⟩), .int .i64 n] (w.drewN m) fun e w'' => e = .returned (.bool (activeT T n)) ∧ ∃ k, w'' = w.drewN k := by
  obtain ⟨F1, h1⟩ := tabOf (h.drawn (w' := w.drewN m) ⟨m, rfl⟩)
  exact (active_calls h1 n).mono fun e w' ⟨he, k, hd⟩ => ⟨he, m + k, by rw [hd, World.drewN_drewN]⟩
theorem qr_name (h : Twos W w F p g T r gr R) (hm : Mir T R) (hg : gr + 2 < 17592186044416) (n : Int) (m : Nat) : Calls Tryd.prog 39 #[.pointer (some ⟨r, 0, none⟩), .int .i64 n] (w.drewN m) fun e w'' => e = .returned (.string (nameT T n)) ∧ ∃ k, w'' = w.drewN k := by
  obtain ⟨F1, h1⟩ := refOf (h.drawn (w' := w.drewN m) ⟨m, rfl⟩)
  have := rname_calls h1 n
  rw [mir_name hm] at this
  exact this.mono fun e w' ⟨he, k, hd⟩ => ⟨he, m + k, by rw [hd, World.drewN_drewN]⟩
theorem qr_isVar (h : Twos W w F p g T r gr R) (hm : Mir T R) (hg : gr + 2 < 17592186044416) (n : Int) (m : Nat) : Calls Tryd.prog 40 #[.pointer (some ⟨r, 0, none⟩), .int .i64 n] (w.drewN m) fun e w'' => e = .returned (.bool (isVarT T n)) ∧ ∃ k, w'' = w.drewN k := by
  obtain ⟨F1, h1⟩ := refOf (h.drawn (w' := w.drewN m) ⟨m, rfl⟩)
  have := risVar_calls h1 n
  rw [mir_isVar hm] at this
  exact this.mono fun e w' ⟨he, k, hd⟩ => ⟨he, m + k, by rw [hd, World.drewN_drewN]⟩
theorem qr_active (h : Twos W w F p g T r gr R) (hm : Mir T R) (hg : gr + 2 < 17592186044416) (n : Int) (m : Nat) : Calls Tryd.prog 41 #[.pointer (some ⟨r, 0, none⟩), .int .i64 n] (w.drewN m) fun e w'' => e = .returned (.bool (activeT T n)) ∧ ∃ k, w'' = w.drewN k := by
  obtain ⟨F1, h1⟩ := refOf (h.drawn (w' := w.drewN m) ⟨m, rfl⟩)
  have := ractive_calls h1 (by unfold maxLen; omega) n
  rw [mir_active hm] at this
  exact this.mono fun e w' ⟨he, k, hd⟩ => ⟨he, m + k, by rw [hd, World.drewN_drewN]⟩

theorem old_no (hF : ¬ F 0) : ¬ Old F W 0 := fun h => hF h.1
set_option maxHeartbeats 2000000 in
set_option maxRecDepth 100000 in
theorem alike_1 (hb : SymScan.Blanks W) (hF : ¬ F 0) (h : Two W p g T r gr R F) (hm : Mir T R) (s : ByteArray) (n : Int) (hs : s.size ≤ maxLen) (hg : g + 2 < maxLen) (hgr : gr + 2 < 17592186044416) :
    Calls Tryd.prog 35 #[.pointer (some ⟨p, 0, none⟩), .pointer (some ⟨r, 0, none⟩), .agg #[.int .i64 1, .string s, .int .i64 n]] W fun e w' => e = .returned (.bool true) ∧ ∃ R', Mir (doT T 1 s) R' ∧ (Two w' p (g + 2) (doT T 1 s) r (gr + 1) R' (More F W.heap.size) ∧ Turns F W w') := by
  have X := Aside0.mk (box_start h 1 s n)
  have HM := Aside0.mk hm
  have HB := Aside0.mk (box_blanks hb 1 s n)
  clear hb h hm
  go_enter Tryd.func35, Tryd.ntmps35
  go_wp2_with fail
  refine (t_open X.out).mono ?_
  rintro e w2 ⟨rfl, hx⟩
  obtain ⟨b0, b1, b2⟩ := box_at hx
  have X2 := Aside0.mk hx
  clear hx
  go_wp2_with fail
  refine (r_open X2.out HM.out hgr).mono ?_
  rintro e w3 ⟨R3, ⟨rfl, hm3⟩, hx⟩
  have X3 := Aside0.mk hx
  have HM3 := Aside0.mk hm3
  clear hx hm3
  go_wp2_with fail
  go_ret
  exact ⟨by simp, R3, HM3.out, box_end (X3.out.more (by omega) (by omega))⟩
set_option maxHeartbeats 2000000 in
set_option maxRecDepth 100000 in
theorem alike_2 (hb : SymScan.Blanks W) (hF : ¬ F 0) (h : Two W p g T r gr R F) (hm : Mir T R) (s : ByteArray) (n : Int) (hs : s.size ≤ maxLen) (hg : g + 2 < maxLen) (hgr : gr + 2 < 17592186044416) :
    Calls Tryd.prog 35 #[.pointer (some ⟨p, 0, none⟩), .pointer (some ⟨r, 0, none⟩), .agg #[.int .i64 2, .string s, .int .i64 n]] W fun e w' => e = .returned (.bool true) ∧ ∃ R', Mir (doT T 2 s) R' ∧ (Two w' p (g + 2) (doT T 2 s) r (gr + 1) R' (More F W.heap.size) ∧ Turns F W w') := by
  have X := Aside0.mk (box_start h 2 s n)
  have HM := Aside0.mk hm
  have HB := Aside0.mk (box_blanks hb 2 s n)
  clear hb h hm
  go_enter Tryd.func35, Tryd.ntmps35
  go_wp2_with fail
  refine (t_close X.out).mono ?_
  rintro e w2 ⟨rfl, hx⟩
  obtain ⟨b0, b1, b2⟩ := box_at hx
  have X2 := Aside0.mk hx
  clear hx
  go_wp2_with fail
  refine (r_close X2.out HM.out hgr).mono ?_
  rintro e w3 ⟨R3, ⟨rfl, hm3⟩, hx⟩
  have X3 := Aside0.mk hx
  have HM3 := Aside0.mk hm3
  clear hx hm3
  go_wp2_with fail
  go_ret
  exact ⟨by simp, R3, HM3.out, box_end (X3.out.more (by omega) (by omega))⟩
set_option maxHeartbeats 2000000 in
set_option maxRecDepth 100000 in
theorem alike_3 (hb : SymScan.Blanks W) (hF : ¬ F 0) (h : Two W p g T r gr R F) (hm : Mir T R) (s : ByteArray) (n : Int) (hs : s.size ≤ maxLen) (hg : g + 2 < maxLen) (hgr : gr + 2 < 17592186044416) :
    Calls Tryd.prog 35 #[.pointer (some ⟨p, 0, none⟩), .pointer (some ⟨r, 0, none⟩), .agg #[.int .i64 3, .string s, .int .i64 n]] W fun e w' => e = .returned (.bool true) ∧ ∃ R', Mir (doT T 3 s) R' ∧ (Two w' p (g + 2) (doT T 3 s) r (gr + 1) R' (More F W.heap.size) ∧ Turns F W w') := by
  have X := Aside0.mk (box_start h 3 s n)
  have HM := Aside0.mk hm
  have HB := Aside0.mk (box_blanks hb 3 s n)
  clear hb h hm
  go_enter Tryd.func35, Tryd.ntmps35
  go_wp2_with fail
  refine (t_const X.out s hs hg HB.out).mono ?_
  rintro e w2 ⟨rfl, hx⟩
  obtain ⟨b0, b1, b2⟩ := box_at hx
  have X2 := Aside0.mk hx
  clear hx
  go_wp2_with fail
  refine (r_const X2.out HM.out hgr s hs).mono ?_
  rintro e w3 ⟨R3, ⟨rfl, hm3⟩, hx⟩
  have X3 := Aside0.mk hx
  have HM3 := Aside0.mk hm3
  clear hx hm3
  go_wp2_with fail
  go_ret
  exact ⟨by simp, R3, HM3.out, box_end (X3.out.more (by omega) (by omega))⟩
set_option maxHeartbeats 2000000 in
set_option maxRecDepth 100000 in
theorem alike_4 (hb : SymScan.Blanks W) (hF : ¬ F 0) (h : Two W p g T r gr R F) (hm : Mir T R) (s : ByteArray) (n : Int) (hs : s.size ≤ maxLen) (hg : g + 2 < maxLen) (hgr : gr + 2 < 17592186044416) :
    Calls Tryd.prog 35 #[.pointer (some ⟨p, 0, none⟩), .pointer (some ⟨r, 0, none⟩), .agg #[.int .i64 4, .string s, .int .i64 n]] W fun e w' => e = .returned (.bool true) ∧ ∃ R', Mir (doT T 4 s) R' ∧ (Two w' p (g + 2) (doT T 4 s) r (gr + 1) R' (More F W.heap.size) ∧ Turns F W w') := by
  have X := Aside0.mk (box_start h 4 s n)
  have HM := Aside0.mk hm
  have HB := Aside0.mk (box_blanks hb 4 s n)
  clear hb h hm
  go_enter Tryd.func35, Tryd.ntmps35
  go_wp2_with fail
  refine (t_var X.out s hs hg HB.out).mono ?_
  rintro e w2 ⟨rfl, hx⟩
  obtain ⟨b0, b1, b2⟩ := box_at hx
  have X2 := Aside0.mk hx
  clear hx
  go_wp2_with fail
  refine (r_var X2.out HM.out hgr s hs).mono ?_
  rintro e w3 ⟨R3, ⟨rfl, hm3⟩, hx⟩
  have X3 := Aside0.mk hx
  have HM3 := Aside0.mk hm3
  clear hx hm3
  go_wp2_with fail
  go_ret
  exact ⟨by simp, R3, HM3.out, box_end (X3.out.more (by omega) (by omega))⟩
set_option maxHeartbeats 2000000 in
set_option maxRecDepth 100000 in
theorem alike_5 (hb : SymScan.Blanks W) (hF : ¬ F 0) (h : Two W p g T r gr R F) (hm : Mir T R) (s : ByteArray) (n : Int) (hs : s.size ≤ maxLen) (hg : g + 2 < maxLen) (hgr : gr + 2 < 17592186044416) :
    Calls Tryd.prog 35 #[.pointer (some ⟨p, 0, none⟩), .pointer (some ⟨r, 0, none⟩), .agg #[.int .i64 5, .string s, .int .i64 n]] W fun e w' => e = .returned (.bool true) ∧ ∃ R', Mir (doT T 5 s) R' ∧ (Two w' p (g + 2) (doT T 5 s) r (gr + 1) R' (More F W.heap.size) ∧ Turns F W w') := by
  have X := Aside0.mk (box_start h 5 s n)
  have HM := Aside0.mk hm
  have HB := Aside0.mk (box_blanks hb 5 s n)
  clear hb h hm
  go_enter Tryd.func35, Tryd.ntmps35
  go_wp2_with fail
  refine (t_find X.out s hs).mono ?_
  rintro e w2 ⟨rfl, hx⟩
  obtain ⟨b0, b1, b2⟩ := box_at hx
  have X2 := Aside0.mk hx
  clear hx
  go_wp2_with fail
  refine (r_find X2.out HM.out hgr s hs).mono ?_
  rintro e w3 ⟨rfl, hx⟩
  have X3 := Aside0.mk hx
  clear hx
  go_wp2_with fail
  go_ret
  exact ⟨by simp, R, HM.out, box_end (X3.out.more (by omega) (by omega))⟩
set_option maxHeartbeats 2000000 in
set_option maxRecDepth 100000 in
theorem alike_6 (hb : SymScan.Blanks W) (hF : ¬ F 0) (h : Two W p g T r gr R F) (hm : Mir T R) (s : ByteArray) (n : Int) (hs : s.size ≤ maxLen) (hg : g + 2 < maxLen) (hgr : gr + 2 < 17592186044416) :
    Calls Tryd.prog 35 #[.pointer (some ⟨p, 0, none⟩), .pointer (some ⟨r, 0, none⟩), .agg #[.int .i64 6, .string s, .int .i64 n]] W fun e w' => e = .returned (.bool true) ∧ ∃ R', Mir (doT T 6 s) R' ∧ (Two w' p (g + 2) (doT T 6 s) r (gr + 1) R' (More F W.heap.size) ∧ Turns F W w') := by
  have X := Aside0.mk (box_start h 6 s n)
  have HM := Aside0.mk hm
  clear hb h hm
  go_enter Tryd.func35, Tryd.ntmps35
  go_wp2_with fail
  go_quiet (first | (go_at_call 23; exact qt_name X.out n _) | (go_at_call 39; exact qr_name X.out HM.out hgr n _))
  go_wp2_with fail
  go_ret
  exact ⟨by simp, R, HM.out, box_end ((X.out.drawn ⟨_, rfl⟩).more (by omega) (by omega))⟩
set_option maxHeartbeats 2000000 in
set_option maxRecDepth 100000 in
theorem alike_7 (hb : SymScan.Blanks W) (hF : ¬ F 0) (h : Two W p g T r gr R F) (hm : Mir T R) (s : ByteArray) (n : Int) (hs : s.size ≤ maxLen) (hg : g + 2 < maxLen) (hgr : gr + 2 < 17592186044416) :
    Calls Tryd.prog 35 #[.pointer (some ⟨p, 0, none⟩), .pointer (some ⟨r, 0, none⟩), .agg #[.int .i64 7, .string s, .int .i64 n]] W fun e w' => e = .returned (.bool true) ∧ ∃ R', Mir (doT T 7 s) R' ∧ (Two w' p (g + 2) (doT T 7 s) r (gr + 1) R' (More F W.heap.size) ∧ Turns F W w') := by
  have X := Aside0.mk (box_start h 7 s n)
  have HM := Aside0.mk hm
  clear hb h hm
  go_enter Tryd.func35, Tryd.ntmps35
  go_wp2_with fail
  go_quiet (first | (go_at_call 24; exact qt_isVar X.out n _) | (go_at_call 40; exact qr_isVar X.out HM.out hgr n _))
  go_wp2_with fail
  go_ret
  exact ⟨by simp, R, HM.out, box_end ((X.out.drawn ⟨_, rfl⟩).more (by omega) (by omega))⟩
set_option maxHeartbeats 2000000 in
set_option maxRecDepth 100000 in
theorem alike_8 (hb : SymScan.Blanks W) (hF : ¬ F 0) (h : Two W p g T r gr R F) (hm : Mir T R) (s : ByteArray) (n : Int) (hs : s.size ≤ maxLen) (hg : g + 2 < maxLen) (hgr : gr + 2 < 17592186044416) :
    Calls Tryd.prog 35 #[.pointer (some ⟨p, 0, none⟩), .pointer (some ⟨r, 0, none⟩), .agg #[.int .i64 8, .string s, .int .i64 n]] W fun e w' => e = .returned (.bool true) ∧ ∃ R', Mir (doT T 8 s) R' ∧ (Two w' p (g + 2) (doT T 8 s) r (gr + 1) R' (More F W.heap.size) ∧ Turns F W w') := by
  have X := Aside0.mk (box_start h 8 s n)
  have HM := Aside0.mk hm
  clear hb h hm
  go_enter Tryd.func35, Tryd.ntmps35
  go_wp2_with fail
  go_quiet (first | (go_at_call 21; exact qt_active X.out n _) | (go_at_call 41; exact qr_active X.out HM.out hgr n _))
  go_wp2_with fail
  go_ret
  exact ⟨by simp, R, HM.out, box_end ((X.out.drawn ⟨_, rfl⟩).more (by omega) (by omega))⟩
set_option maxHeartbeats 2000000 in
set_option maxRecDepth 100000 in
theorem alike_9 (hb : SymScan.Blanks W) (hF : ¬ F 0) (h : Two W p g T r gr R F) (hm : Mir T R) (s : ByteArray) (n : Int) (hs : s.size ≤ maxLen) (hg : g + 2 < maxLen) (hgr : gr + 2 < 17592186044416) :
    Calls Tryd.prog 35 #[.pointer (some ⟨p, 0, none⟩), .pointer (some ⟨r, 0, none⟩), .agg #[.int .i64 9, .string s, .int .i64 n]] W fun e w' => e = .returned (.bool true) ∧ ∃ R', Mir (doT T 9 s) R' ∧ (Two w' p (g + 2) (doT T 9 s) r (gr + 1) R' (More F W.heap.size) ∧ Turns F W w') := by
  have X := Aside0.mk (box_start h 9 s n)
  have HM := Aside0.mk hm
  have HB := Aside0.mk (box_blanks hb 9 s n)
  clear hb h hm
  go_enter Tryd.func35, Tryd.ntmps35
  go_wp2_with fail
  refine (t_count X.out).mono ?_
  rintro e w2 ⟨rfl, hx⟩
  obtain ⟨b0, b1, b2⟩ := box_at hx
  have X2 := Aside0.mk hx
  clear hx
  go_wp2_with fail
  refine (r_count X2.out HM.out hgr).mono ?_
  rintro e w3 ⟨rfl, hx⟩
  have X3 := Aside0.mk hx
  clear hx
  go_wp2_with fail
  go_ret
  exact ⟨by simp, R, HM.out, box_end (X3.out.more (by omega) (by omega))⟩
set_option maxHeartbeats 2000000 in
set_option maxRecDepth 100000 in
theorem alike_10 (hb : SymScan.Blanks W) (hF : ¬ F 0) (h : Two W p g T r gr R F) (hm : Mir T R) (s : ByteArray) (n : Int) (hs : s.size ≤ maxLen) (hg : g + 2 < maxLen) (hgr : gr + 2 < 17592186044416) :
    Calls Tryd.prog 35 #[.pointer (some ⟨p, 0, none⟩), .pointer (some ⟨r, 0, none⟩), .agg #[.int .i64 10, .string s, .int .i64 n]] W fun e w' => e = .returned (.bool true) ∧ ∃ R', Mir (doT T 10 s) R' ∧ (Two w' p (g + 2) (doT T 10 s) r (gr + 1) R' (More F W.heap.size) ∧ Turns F W w') := by
  have X := Aside0.mk (box_start h 10 s n)
  have HM := Aside0.mk hm
  have b0 := (box_at X.out).2.1
  clear hb h hm
  go_enter Tryd.func35, Tryd.ntmps35
  go_wp2_with fail
  refine start_ (n := 10) (S := fun w' => w'.cell? ⟨W.heap.size, 1, none⟩ = some (.string s)) (ds := []) #[false, false, false, false, false, false, false, false, false, false] (by kernel_rfl) rfl rfl b0 (fun hHeld => ?_)
  refine pure_ (i := 0) (N := some 149) (v := ?_) (a' := ?_) #[true, false, false, false, false, false, false, false, false, false] rfl rfl (by kernel_rfl) (fun _ _ _ h => h) (Or.inl ⟨by rfl, ?_⟩) ?_ ?_
  rotate_left
  · intro w'
    go_simp
    with_reducible rfl
  rotate_left
  · simp only [Act.put, List.setIfInBounds_toArray, List.set_cons_zero, List.set_cons_succ, i64_w, i32_w]
    rfl
  refine pure_ (i := 1) (N := some 150) (v := ?_) (a' := ?_) #[true, true, false, false, false, false, false, false, false, false] rfl rfl (by kernel_rfl) (fun _ _ _ h => h) (Or.inl ⟨by rfl, ?_⟩) ?_ ?_
  rotate_left
  · intro w'
    go_simp
    with_reducible rfl
  rotate_left
  · simp only [Act.put, List.setIfInBounds_toArray, List.set_cons_zero, List.set_cons_succ, i64_w, i32_w]
    rfl
  refine take_ (i := 2) (N := some 151) (v := ?_) (a' := ?_) #[true, true, true, false, false, false, false, false, false, false] rfl rfl (by kernel_rfl) (fun _ _ _ h => h) (Or.inl ⟨by rfl, ?_⟩) hHeld ?_ ?_
  rotate_left
  · intro w' s0
    go_simp
    with_reducible rfl
  rotate_left
  · simp only [Act.put, List.setIfInBounds_toArray, List.set_cons_zero, List.set_cons_succ, i64_w, i32_w]
    rfl
  refine pure_ (i := 4) (N := some 153) (v := ?_) (a' := ?_) #[true, true, true, false, true, false, false, false, false, false] rfl rfl (by kernel_rfl) (fun _ _ _ h => h) (Or.inl ⟨by rfl, ?_⟩) ?_ ?_
  rotate_left
  · intro w'
    go_simp
    with_reducible rfl
  rotate_left
  · simp only [Act.put, List.setIfInBounds_toArray, List.set_cons_zero, List.set_cons_succ, i64_w, i32_w]
    rfl
  refine pure_ (i := 5) (N := some 154) (v := ?_) (a' := ?_) #[true, true, true, false, true, true, false, false, false, false] rfl rfl (by kernel_rfl) (fun _ _ _ h => h) (Or.inl ⟨by rfl, ?_⟩) ?_ ?_
  rotate_left
  · intro w'
    go_simp
    with_reducible rfl
  rotate_left
  · simp only [Act.put, List.setIfInBounds_toArray, List.set_cons_zero, List.set_cons_succ, i64_w, i32_w]
    rfl
  refine take_ (i := 6) (N := some 155) (v := ?_) (a' := ?_) #[true, true, true, false, true, true, true, false, false, false] rfl rfl (by kernel_rfl) (fun _ _ _ h => h) (Or.inl ⟨by rfl, ?_⟩) hHeld ?_ ?_
  rotate_left
  · intro w' s0
    go_simp
    with_reducible rfl
  rotate_left
  · simp only [Act.put, List.setIfInBounds_toArray, List.set_cons_zero, List.set_cons_succ, i64_w, i32_w]
    rfl
  refine one_ (i := 3) (N := some 152) #[true, true, true, true, true, true, true, false, false, false] rfl rfl (by kernel_rfl) (by decide) (fun K hK => ?_)
  refine goes_ Tryd.func25 (by kernel_rfl) rfl #[.pointer (some ⟨p, 0, none⟩), .string s] (by rfl) rfl rfl (by simp [Act.eval, Act.put]) ?_
  refine (t_label (X.out.drawn ⟨1, rfl⟩) s hs hg).mono ?_
  rintro e w2 ⟨rfl, hx⟩
  have b1 := (box_at hx).2.1
  have X2 := Aside0.mk hx
  refine ⟨_, rfl, hK.out _ _ b1 (fun hHeld => ?_)⟩
  clear hx hK K
  refine one_ (i := 7) (N := some 156) #[true, true, true, true, true, true, true, true, false, false] rfl rfl (by kernel_rfl) (by decide) (fun K hK => ?_)
  refine goes_ Tryd.func68 (by kernel_rfl) rfl #[.pointer (some ⟨r, 0, none⟩), .string s] (by rfl) rfl rfl (by simp [Act.eval, Act.put]) ?_
  refine (r_label X2.out HM.out hgr s hs).mono ?_
  rintro e w3 ⟨R3, ⟨rfl, hm3⟩, hx⟩
  have b1' := (box_at hx).2.1
  have X3 := Aside0.mk hx
  have HM3 := Aside0.mk hm3
  refine ⟨_, rfl, hK.out _ _ b1' (fun hHeld => ?_)⟩
  clear hx hm3 hK K
  refine pure_ (i := 8) (N := some 157) (v := ?_) (a' := ?_) #[true, true, true, true, true, true, true, true, true, false] rfl rfl (by kernel_rfl) (fun _ _ _ h => h) (Or.inl ⟨by rfl, ?_⟩) ?_ ?_
  rotate_left
  · intro w'
    go_simp
    with_reducible rfl
  rotate_left
  · simp only [Act.put, List.setIfInBounds_toArray, List.set_cons_zero, List.set_cons_succ, i64_w, i32_w]
    rfl
  refine pure_ (i := 9) (N := some 6) (v := ?_) (a' := ?_) #[true, true, true, true, true, true, true, true, true, true] rfl rfl (by kernel_rfl) (fun _ _ _ h => h) (Or.inl ⟨by rfl, ?_⟩) ?_ ?_
  rotate_left
  · intro w'
    go_simp
    with_reducible rfl
  rotate_left
  · simp only [Act.put, List.setIfInBounds_toArray, List.set_cons_zero, List.set_cons_succ, i64_w, i32_w]
    rfl
  refine done_ (by kernel_rfl) ?_
  go_wp2_with fail
  go_ret
  exact ⟨by simp, R3, HM3.out, box_end (X3.out.more (by omega) (by omega))⟩
set_option maxHeartbeats 2000000 in
set_option maxRecDepth 100000 in
theorem alike_12 (hb : SymScan.Blanks W) (hF : ¬ F 0) (h : Two W p g T r gr R F) (hm : Mir T R) (s : ByteArray) (n : Int) (hs : s.size ≤ maxLen) (hg : g + 2 < maxLen) (hgr : gr + 2 < 17592186044416) :
    Calls Tryd.prog 35 #[.pointer (some ⟨p, 0, none⟩), .pointer (some ⟨r, 0, none⟩), .agg #[.int .i64 12, .string s, .int .i64 n]] W fun e w' => e = .returned (.bool true) ∧ ∃ R', Mir (doT T 12 s) R' ∧ (Two w' p (g + 2) (doT T 12 s) r (gr + 1) R' (More F W.heap.size) ∧ Turns F W w') := by
  have X := Aside0.mk (box_start h 12 s n)
  have HM := Aside0.mk hm
  have HB := Aside0.mk (box_blanks hb 12 s n)
  clear hb h hm
  go_enter Tryd.func35, Tryd.ntmps35
  go_wp2_with fail
  refine (t_depth X.out).mono ?_
  rintro e w2 ⟨rfl, hx⟩
  obtain ⟨b0, b1, b2⟩ := box_at hx
  have X2 := Aside0.mk hx
  clear hx
  go_wp2_with fail
  refine (r_depth X2.out HM.out hgr).mono ?_
  rintro e w3 ⟨rfl, hx⟩
  have X3 := Aside0.mk hx
  clear hx
  go_wp2_with fail
  go_ret
  exact ⟨by simp, R, HM.out, box_end (X3.out.more (by omega) (by omega))⟩

theorem labels_own {p g : Nat} {fp : Nat → Prop} (h : TabIs w p g T fp) :
    Calls Tryd.prog 29 #[.pointer (some ⟨p, 0, none⟩)] w fun e w' => ∃ v', e = .returned v' ∧ w'.ownsRow w.heap.size 9 1 v' T.labels.length (T.labels.map Value.string) ∧ Turns None w w' := by
  obtain ⟨hw, ⟨vs, bn, ba, vc, bt, vl, vals⟩, h, _⟩ := h
  have hl := hw.labels
  have hcl := clone_calls h.labels (by omega)
  obtain ⟨A, cap, e, _⟩ := row_slice h.labels
  simp only at e hcl
  subst e
  have c5 := (cell_at h.cells 5).1
  simp only [List.getElem?_toArray, List.getElem?_cons_zero, List.getElem?_cons_succ] at c5
  clear h hl hw
  go_enter Tryd.func29, Tryd.ntmps29
  go_wp2_with fail
  refine hcl.mono ?_
  rintro e w' ⟨v', rfl, ho, ht⟩
  have Ho := Aside0.mk ho
  have Ht := Aside0.mk ht
  clear ho ht c5
  go_wp2_with fail
  go_ret
  exact ⟨_, rfl, Ho.out, Ht.out⟩
theorem t_labels (h : Twos W w F p g T r gr R) : Calls Tryd.prog 29 #[.pointer (some ⟨p, 0, none⟩)] w fun e w' => ∃ v', e = .returned v' ∧ w'.ownsRow w.heap.size 9 1 v' T.labels.length (T.labels.map Value.string) ∧ Turns None w w' ∧ Twos W w' F p g T r gr R := by
  obtain ⟨F1, h1⟩ := tabOf h
  exact (labels_own h1).mono fun e w' ⟨v', he, ho, ht⟩ => ⟨v', he, ho, ht, h.past ht⟩
theorem r_labels (h : Twos W w F p g T r gr R) (hm : Mir T R) : Calls Tryd.prog 38 #[.pointer (some ⟨r, 0, none⟩)] w fun e w' => ∃ v', e = .returned v' ∧ w'.ownsRow w.heap.size 9 1 v' T.labels.length (T.labels.map Value.string) ∧ Turns None w w' ∧ Twos W w' F p g T r gr R := by
  have h' := h
  obtain ⟨⟨F1, F2, a, ⟨q, hq, hqf⟩, c, d, e⟩, ht⟩ := h'
  have hl : R.taken.length ≤ 1024 := by rw [hm.taken]; exact hm.wf.labels
  refine (rlabels_h hq hl).mono fun e w' ⟨v', he, ho, ht⟩ => ⟨v', he, ?_, ht, h.past ht⟩
  rw [← hm.taken]
  exact ho
theorem row_reads {base : Nat} {v : Value} {l : List ByteArray} (ho : w.ownsRow base 9 1 v l.length (l.map Value.string)) : ∃ A c, v = .slice A l.length c ∧ l.length ≤ c ∧ Kd.C Kd.string w A l.length l :=
  Kd.R_reads (Kd.R_of_own (enc := Value.string) (h1 := fun _ => rfl) (ok := fun _ => True) ho (fun _ _ => trivial))
theorem row_kept {base : Nat} {v : Value} {l : List ByteArray} {w' : World} (ho : w.ownsRow base 9 1 v l.length (l.map Value.string)) (ht : Turns None w w') : w'.ownsRow base 9 1 v l.length (l.map Value.string) :=
  own_move ho (fun k hk => ht.block k (ho.lt k hk).2 (fun x => x.elim))
set_option maxHeartbeats 2000000 in
set_option maxRecDepth 100000 in
theorem alike_11 (hb : SymScan.Blanks W) (hF : ¬ F 0) (h : Two W p g T r gr R F) (hm : Mir T R) (s : ByteArray) (n : Int) (hs : s.size ≤ maxLen) (hg : g + 2 < maxLen) (hgr : gr + 2 < 17592186044416) :
    Calls Tryd.prog 35 #[.pointer (some ⟨p, 0, none⟩), .pointer (some ⟨r, 0, none⟩), .agg #[.int .i64 11, .string s, .int .i64 n]] W fun e w' => e = .returned (.bool true) ∧ ∃ R', Mir (doT T 11 s) R' ∧ (Two w' p (g + 2) (doT T 11 s) r (gr + 1) R' (More F W.heap.size) ∧ Turns F W w') := by
  have X := Aside0.mk (box_start h 11 s n)
  have HM := Aside0.mk hm
  have Hl := Lib.hid (show T.labels.length ≤ 1048576 by have := hm.wf.labels; omega)
  clear hb h hm
  go_enter Tryd.func35, Tryd.ntmps35
  go_wp2_with fail
  refine (t_labels X.out).mono ?_
  rintro e w2 ⟨v2, rfl, ho2, _, hx⟩
  have X2 := Aside0.mk hx
  have O2 := Aside0.mk ho2
  clear hx ho2
  go_wp2_with fail
  refine (r_labels X2.out HM.out).mono ?_
  rintro e w3 ⟨v3, rfl, ho3, ht3, hx⟩
  have X3 := Aside0.mk hx
  obtain ⟨A3, c3, rfl, hc3, hC3⟩ := row_reads ho3
  obtain ⟨A2, c2, rfl, hc2, hC2⟩ := row_reads (row_kept O2.out ht3)
  have HC3 := Aside0.mk hC3
  have HC2 := Aside0.mk hC2
  clear hx ho3 ht3 hC3 hC2
  go_wp2_with fail
  refine (SymLabelsPure.same_calls A2 c2 A3 c3 T.labels Hl.out HC2.out hc2 HC3.out hc3).mono ?_
  rintro e w4 ⟨rfl, hd4⟩
  have X4 := Aside0.mk (X3.out.drawn hd4)
  clear hd4
  go_wp2_with fail
  go_ret
  exact ⟨rfl, R, HM.out, box_end (X4.out.more (by omega) (by omega))⟩
set_option maxHeartbeats 2000000 in
set_option maxRecDepth 100000 in
theorem alike_none (k : Int) (h1 : k ≠ 1) (h2 : k ≠ 2) (h3 : k ≠ 3) (h4 : k ≠ 4) (h5 : k ≠ 5) (h6 : k ≠ 6) (h7 : k ≠ 7) (h8 : k ≠ 8) (h9 : k ≠ 9) (h10 : k ≠ 10) (h11 : k ≠ 11) (h12 : k ≠ 12) (hb : SymScan.Blanks W) (hF : ¬ F 0) (h : Two W p g T r gr R F) (hm : Mir T R) (s : ByteArray) (n : Int) (hs : s.size ≤ maxLen) (hg : g + 2 < maxLen) (hgr : gr + 2 < 17592186044416) :
    Calls Tryd.prog 35 #[.pointer (some ⟨p, 0, none⟩), .pointer (some ⟨r, 0, none⟩), .agg #[.int .i64 k, .string s, .int .i64 n]] W fun e w' => e = .returned (.bool true) ∧ ∃ R', Mir (doT T k s) R' ∧ (Two w' p (g + 2) (doT T k s) r (gr + 1) R' (More F W.heap.size) ∧ Turns F W w') := by
  have hdo : doT T k s = T := by unfold doT; rw [if_neg h1, if_neg h2, if_neg h3, if_neg h4, if_neg h10]
  rw [hdo]
  have X := Aside0.mk (box_start h k s n)
  have HM := Aside0.mk hm
  have d1 : (k == 1) = false := beq_eq_false_iff_ne.2 h1
  have d2 : (k == 2) = false := beq_eq_false_iff_ne.2 h2
  have d3 : (k == 3) = false := beq_eq_false_iff_ne.2 h3
  have d4 : (k == 4) = false := beq_eq_false_iff_ne.2 h4
  have d5 : (k == 5) = false := beq_eq_false_iff_ne.2 h5
  have d6 : (k == 6) = false := beq_eq_false_iff_ne.2 h6
  have d7 : (k == 7) = false := beq_eq_false_iff_ne.2 h7
  have d8 : (k == 8) = false := beq_eq_false_iff_ne.2 h8
  have d9 : (k == 9) = false := beq_eq_false_iff_ne.2 h9
  have d10 : (k == 10) = false := beq_eq_false_iff_ne.2 h10
  have d11 : (k == 11) = false := beq_eq_false_iff_ne.2 h11
  have d12 : (k == 12) = false := beq_eq_false_iff_ne.2 h12
  clear hb h hm h1 h2 h3 h4 h5 h6 h7 h8 h9 h10 h11 h12 hdo
  go_enter Tryd.func35, Tryd.ntmps35
  go_wp2_with fail
  go_ret
  exact ⟨rfl, R, HM.out, box_end (X.out.more (by omega) (by omega))⟩
theorem alike_calls (hb : SymScan.Blanks W) (hF : ¬ F 0) (h : Two W p g T r gr R F) (hm : Mir T R) (s : ByteArray) (n : Int) (hs : s.size ≤ maxLen) (hg : g + 2 < maxLen) (hgr : gr + 2 < 17592186044416) (k : Int) :
    Calls Tryd.prog 35 #[.pointer (some ⟨p, 0, none⟩), .pointer (some ⟨r, 0, none⟩), .agg #[.int .i64 k, .string s, .int .i64 n]] W fun e w' => e = .returned (.bool true) ∧ ∃ R', Mir (doT T k s) R' ∧ (Two w' p (g + 2) (doT T k s) r (gr + 1) R' (More F W.heap.size) ∧ Turns F W w') := by
  by_cases h1 : k = 1
  · subst h1; exact alike_1 hb hF h hm s n hs hg hgr
  by_cases h2 : k = 2
  · subst h2; exact alike_2 hb hF h hm s n hs hg hgr
  by_cases h3 : k = 3
  · subst h3; exact alike_3 hb hF h hm s n hs hg hgr
  by_cases h4 : k = 4
  · subst h4; exact alike_4 hb hF h hm s n hs hg hgr
  by_cases h5 : k = 5
  · subst h5; exact alike_5 hb hF h hm s n hs hg hgr
  by_cases h6 : k = 6
  · subst h6; exact alike_6 hb hF h hm s n hs hg hgr
  by_cases h7 : k = 7
  · subst h7; exact alike_7 hb hF h hm s n hs hg hgr
  by_cases h8 : k = 8
  · subst h8; exact alike_8 hb hF h hm s n hs hg hgr
  by_cases h9 : k = 9
  · subst h9; exact alike_9 hb hF h hm s n hs hg hgr
  by_cases h10 : k = 10
  · subst h10; exact alike_10 hb hF h hm s n hs hg hgr
  by_cases h11 : k = 11
  · subst h11; exact alike_11 hb hF h hm s n hs hg hgr
  by_cases h12 : k = 12
  · subst h12; exact alike_12 hb hF h hm s n hs hg hgr
  exact alike_none k h1 h2 h3 h4 h5 h6 h7 h8 h9 h10 h11 h12 hb hF h hm s n hs hg hgr
end
end Go.Proofs.YtpoojimmponklaaDoor.SymAlike

namespace Go.Proofs.YtpoojimmponklaaDoor.SymPlays
open Go.RowKit Go.Maps Go.Proofs.YtpoojimmponklaaDoor.SymTab Go.Proofs.YtpoojimmponklaaDoor.SymHeap Go.Proofs.YtpoojimmponklaaDoor.SymReads Go.Proofs.YtpoojimmponklaaDoor.SymApi Go.Proofs.YtpoojimmponklaaDoor.SymScan Go.Proofs.YtpoojimmponklaaDoor.SymScript Go.Proofs.YtpoojimmponklaaDoor.SymRef Go.Proofs.YtpoojimmponklaaDoor.SymRefDoes Go.Proofs.YtpoojimmponklaaDoor.SymRefMore Go.Proofs.YtpoojimmponklaaDoor.SymRefVar Go.Proofs.YtpoojimmponklaaDoor.SymRefLabel Go.Proofs.YtpoojimmponklaaDoor.SymNew Go.Proofs.YtpoojimmponklaaDoor.SymPair Go.Proofs.YtpoojimmponklaaDoor.SymAlike
open Go.Proofs.YtpoojimmponklaaDoorW.PrintWords
set_option linter.unusedVariables false

/-- Two pairs of tables, each table apart from the others. W: the world in which the law began. -/
def Four (W w : World) (t r u v g gr : Nat) (T : Tab) (R : Ref) (U : Tab) (V : Ref) : Prop :=
  Below W.heap.size W w ∧ 0 < W.heap.size ∧ Mir T R ∧ Mir U V ∧ ∃ Fa Fb, Two w t g T r gr R Fa ∧ Two w u g U v gr V Fb ∧ (∀ k, Fa k → ¬ Fb k) ∧ (∀ k, Fa k → W.heap.size ≤ k) ∧ (∀ k, Fb k → W.heap.size ≤ k)

section
variable {W w w' : World} {t r u v g gr g' gr' : Nat} {T T' U : Tab} {R R' V : Ref}
theorem Four.swap (h : Four W w t r u v g gr T R U V) : Four W w u v t r g gr U V T R := by
  obtain ⟨hB, h0, hm, hm2, Fa, Fb, a, b, c, d, e⟩ := h
  exact ⟨hB, h0, hm2, hm, Fb, Fa, b, a, fun k hk hk2 => c k hk2 hk, e, d⟩
theorem Four.more (h : Four W w t r u v g gr T R U V) (hg : g ≤ g') (hr : gr ≤ gr') : Four W w t r u v g' gr' T R U V := by
  obtain ⟨hB, h0, hm, hm2, Fa, Fb, a, b, c⟩ := h
  exact ⟨hB, h0, hm, hm2, Fa, Fb, a.more hg hr, b.more hg hr, c⟩
theorem Four.past (h : Four W w t r u v g gr T R U V) (ht : Turns None w w') : Four W w' t r u v g gr T R U V := by
  obtain ⟨hB, h0, hm, hm2, Fa, Fb, a, b, c⟩ := h
  exact ⟨hB.trans (ht.below hB.size (fun _ h => h.elim)), h0, hm, hm2, Fa, Fb, a.move (fun k hk _ => ht.block k hk (fun x => x.elim)) ht.size, b.move (fun k hk _ => ht.block k hk (fun x => x.elim)) ht.size, c⟩
theorem Four.drawn (h : Four W w t r u v g gr T R U V) (hd : Drawn0 w w') : Four W w' t r u v g gr T R U V := by
  obtain ⟨n, rfl⟩ := hd
  exact h.past (Turns.drewN w n)
theorem Four.blanks (h : Four W w t r u v g gr T R U V) (hb : Blanks W) : Blanks w := hb.move (h.1.block 0 h.2.1)
theorem four_tab (h : Four W w t r u v g gr T R U V) : ∃ F, TabIs w t g T F := by
  obtain ⟨hB, h0, hm, hm2, Fa, Fb, ⟨F1, F2, a, _⟩, _⟩ := h
  exact ⟨F1, a⟩
theorem four_ref (h : Four W w t r u v g gr T R U V) : ∃ q, RHolds w r gr R q := by
  obtain ⟨hB, h0, hm, hm2, Fa, Fb, ⟨F1, F2, _, ⟨q, hq, _⟩, _⟩, _⟩ := h
  exact ⟨q, hq⟩
theorem four_mir (h : Four W w t r u v g gr T R U V) : Mir T R := h.2.2.1
theorem four_alike (hb : Blanks W) (h : Four W w t r u v g gr T R U V) (k : Int) (s : ByteArray) (n : Int) (hs : s.size ≤ maxLen) (hg : g + 2 < maxLen) (hgr : gr + 2 < 17592186044416) :
    Calls Tryd.prog 35 #[.pointer (some ⟨t, 0, none⟩), .pointer (some ⟨r, 0, none⟩), .agg #[.int .i64 k, .string s, .int .i64 n]] w fun e w' => e = .returned (.bool true) ∧ ∃ T' R', Four W w' t r u v (g + 2) (gr + 1) T' R' U V := by
  have hb' := h.blanks hb
  obtain ⟨hB, h0, hm, hm2, Fa, Fb, a, b, c, d, e⟩ := h
  refine (alike_calls hb' (fun hk => by have := d 0 hk; omega) a hm s n hs hg hgr k).mono ?_
  rintro e' w' ⟨he, R', hm', hx, ht⟩
  have hs1 := hB.size
  refine ⟨he, _, R', hB.trans (ht.below hs1 d), h0, hm', hm2, fun k => More Fa w.heap.size k, fun k => Fb k ∧ k < w.heap.size, hx, ?_, ?_, ?_, fun k hk => e k hk.1⟩
  · exact ((b.mono (F' := fun k => Fb k ∧ k < w.heap.size) (fun k hk hf => ⟨hf, hk⟩)).move (fun k hk hf => ht.block k hk (fun hf2 => c k hf2 hf.1)) ht.size).more (by omega) (by omega)
  · rintro k (hk | hk) hk2
    · exact c k hk hk2.1
    · omega
  · rintro k (hk | hk)
    · exact d k hk
    · omega
theorem drew_turns {w w' : World} (hd : Drawn0 w w') : Turns None w w' := by
  obtain ⟨n, rfl⟩ := hd
  exact Turns.drewN w n
theorem ft_count (h : Four W w t r u v g gr T R U V) : Calls Tryd.prog 20 #[.pointer (some ⟨t, 0, none⟩)] w fun e w' => e = .returned (.int .i64 (T.syms.length : Int)) ∧ Four W w' t r u v g gr T R U V := by
  obtain ⟨F1, h1⟩ := four_tab h
  exact (count_calls h1).mono fun e w' ⟨he, hd⟩ => ⟨he, h.drawn hd⟩
theorem fqt_count (h : Four W w t r u v g gr T R U V) (m : Nat) : Calls Tryd.prog 20 #[.pointer (some ⟨t, 0, none⟩)] (w.drewN m) fun e w'' => e = .returned (.int .i64 (T.syms.length : Int)) ∧ ∃ k, w'' = w.drewN k := by
  obtain ⟨F1, h1⟩ := four_tab (h.drawn (w' := w.drewN m) ⟨m, rfl⟩)
  exact (count_calls h1).mono fun e w' ⟨he, k, hd⟩ => ⟨he, m + k, by rw [hd, World.drewN_drewN]⟩
theorem ft_depth (h : Four W w t r u v g gr T R U V) : Calls Tryd.prog 16 #[.pointer (some ⟨t, 0, none⟩)] w fun e w' => e = .returned (.int .i64 (T.scopes.length : Int)) ∧ Four W w' t r u v g gr T R U V := by
  obtain ⟨F1, h1⟩ := four_tab h
  exact (depth_calls h1).mono fun e w' ⟨he, hd⟩ => ⟨he, h.drawn hd⟩
theorem fqt_depth (h : Four W w t r u v g gr T R U V) (m : Nat) : Calls Tryd.prog 16 #[.pointer (some ⟨t, 0, none⟩)] (w.drewN m) fun e w'' => e = .returned (.int .i64 (T.scopes.length : Int)) ∧ ∃ k, w'' = w.drewN k := by
  obtain ⟨F1, h1⟩ := four_tab (h.drawn (w' := w.drewN m) ⟨m, rfl⟩)
  exact (depth_calls h1).mono fun e w' ⟨he, k, hd⟩ => ⟨he, m + k, by rw [hd, World.drewN_drewN]⟩
theorem ft_name (h : Four W w t r u v g gr T R U V) (n : Int) : Calls Tryd.prog 23 #[.pointer (some ⟨t, 0, none⟩), .int .i64 n] w fun e w' => e = .returned (.string (nameT T n)) ∧ Four W w' t r u v g gr T R U V := by
  obtain ⟨F1, h1⟩ := four_tab h
  exact (name_calls h1 n).mono fun e w' ⟨he, hd⟩ => ⟨he, by rw [hd]; exact h⟩
theorem fqt_name (h : Four W w t r u v g gr T R U V) (n : Int) (m : Nat) : Calls Tryd.prog 23 #[.pointer (some ⟨t, 0, none⟩), .int .i64 n] (w.drewN m) fun e w'' => e = .returned (.string (nameT T n)) ∧ ∃ k, w'' = w.drewN k := by
  obtain ⟨F1, h1⟩ := four_tab (h.drawn (w' := w.drewN m) ⟨m, rfl⟩)
  exact (name_calls h1 n).mono fun e w' ⟨he, hd⟩ => ⟨he, m, hd⟩
theorem ft_isVar (h : Four W w t r u v g gr T R U V) (n : Int) : Calls Tryd.prog 24 #[.pointer (some ⟨t, 0, none⟩), .int .i64 n] w fun e w' => e = .returned (.bool (isVarT T n)) ∧ Four W w' t r u v g gr T R U V := by
  obtain ⟨F1, h1⟩ := four_tab h
  exact (isVar_calls h1 n).mono fun e w' ⟨he, hd⟩ => ⟨he, h.drawn hd⟩
theorem fqt_isVar (h : Four W w t r u v g gr T R U V) (n : Int) (m : Nat) : Calls Tryd.prog 24 #[.pointer (some ⟨t, 0, none⟩), .int .i64 n] (w.drewN m) fun e w'' => e = .returned (.bool (isVarT T n)) ∧ ∃ k, w'' = w.drewN k := by
  obtain ⟨F1, h1⟩ := four_tab (h.drawn (w' := w.drewN m) ⟨m, rfl⟩)
  exact (isVar_calls h1 n).mono fun e w' ⟨he, k, hd⟩ => ⟨he, m + k, by rw [hd, World.drewN_drewN]⟩
theorem ft_active (h : Four W w t r u v g gr T R U V) (n : Int) : Calls Tryd.prog 21 #[.pointer (some ⟨t, 0, none⟩), .int .i64 n] w fun e w' => e = .returned (.bool (activeT T n)) ∧ Four W w' t r u v g gr T R U V := by
  obtain ⟨F1, h1⟩ := four_tab h
  exact (active_calls h1 n).mono fun e w' ⟨he, hd⟩ => ⟨he, h.drawn hd⟩
theorem fqt_active (h : Four W w t r u v g gr T R U V) (n : Int) (m : Nat) : Calls Tryd.prog 21 #[.pointer (some ⟨t, 0, none⟩), .int .i64 n] (w.drewN m) fun e w'' => e = .returned (.bool (activeT T n)) ∧ ∃ k, w'' = w.drewN k := by
  obtain ⟨F1, h1⟩ := four_tab (h.drawn (w' := w.drewN m) ⟨m, rfl⟩)
  exact (active_calls h1 n).mono fun e w' ⟨he, k, hd⟩ => ⟨he, m + k, by rw [hd, World.drewN_drewN]⟩
theorem fr_count (h : Four W w t r u v g gr T R U V) (hg : gr + 2 < 17592186044416) : Calls Tryd.prog 36 #[.pointer (some ⟨r, 0, none⟩)] w fun e w' => e = .returned (.int .i64 (T.syms.length : Int)) ∧ Four W w' t r u v g gr T R U V := by
  obtain ⟨q, h1⟩ := four_ref h
  have := rcount_calls (fp := fun _ => True) ⟨q, h1, fun _ _ => trivial⟩
  rw [(four_mir h).syms] at this
  exact this.mono fun e w' ⟨he, hd⟩ => ⟨he, h.drawn hd⟩
theorem fqr_count (h : Four W w t r u v g gr T R U V) (hg : gr + 2 < 17592186044416) (m : Nat) : Calls Tryd.prog 36 #[.pointer (some ⟨r, 0, none⟩)] (w.drewN m) fun e w'' => e = .returned (.int .i64 (T.syms.length : Int)) ∧ ∃ k, w'' = w.drewN k := by
  obtain ⟨q, h1⟩ := four_ref (h.drawn (w' := w.drewN m) ⟨m, rfl⟩)
  have := rcount_calls (fp := fun _ => True) ⟨q, h1, fun _ _ => trivial⟩
  rw [(four_mir h).syms] at this
  exact this.mono fun e w' ⟨he, k, hd⟩ => ⟨he, m + k, by rw [hd, World.drewN_drewN]⟩
theorem fr_depth (h : Four W w t r u v g gr T R U V) (hg : gr + 2 < 17592186044416) : Calls Tryd.prog 37 #[.pointer (some ⟨r, 0, none⟩)] w fun e w' => e = .returned (.int .i64 (T.scopes.length : Int)) ∧ Four W w' t r u v g gr T R U V := by
  obtain ⟨q, h1⟩ := four_ref h
  have := rdepth_calls (fp := fun _ => True) ⟨q, h1, fun _ _ => trivial⟩ (by unfold maxLen; omega)
  rw [(four_mir h).rel.depth] at this
  exact this.mono fun e w' ⟨he, hd⟩ => ⟨he, h.drawn hd⟩
theorem fqr_depth (h : Four W w t r u v g gr T R U V) (hg : gr + 2 < 17592186044416) (m : Nat) : Calls Tryd.prog 37 #[.pointer (some ⟨r, 0, none⟩)] (w.drewN m) fun e w'' => e = .returned (.int .i64 (T.scopes.length : Int)) ∧ ∃ k, w'' = w.drewN k := by
  obtain ⟨q, h1⟩ := four_ref (h.drawn (w' := w.drewN m) ⟨m, rfl⟩)
  have := rdepth_calls (fp := fun _ => True) ⟨q, h1, fun _ _ => trivial⟩ (by unfold maxLen; omega)
  rw [(four_mir h).rel.depth] at this
  exact this.mono fun e w' ⟨he, k, hd⟩ => ⟨he, m + k, by rw [hd, World.drewN_drewN]⟩
theorem fr_name (h : Four W w t r u v g gr T R U V) (hg : gr + 2 < 17592186044416) (n : Int) : Calls Tryd.prog 39 #[.pointer (some ⟨r, 0, none⟩), .int .i64 n] w fun e w' => e = .returned (.string (nameT T n)) ∧ Four W w' t r u v g gr T R U V := by
  obtain ⟨q, h1⟩ := four_ref h
  have := rname_calls (fp := fun _ => True) ⟨q, h1, fun _ _ => trivial⟩ n
  rw [mir_name (four_mir h)] at this
  exact this.mono fun e w' ⟨he, hd⟩ => ⟨he, h.drawn hd⟩
theorem fqr_name (h : Four W w t r u v g gr T R U V) (hg : gr + 2 < 17592186044416) (n : Int) (m : Nat) : Calls Tryd.prog 39 #[.pointer (some ⟨r, 0, none⟩), .int .i64 n] (w.drewN m) fun e w'' => e = .returned (.string (nameT T n)) ∧ ∃ k, w'' = w.drewN k := by
  obtain ⟨q, h1⟩ := four_ref (h.drawn (w' := w.drewN m) ⟨m, rfl⟩)
  have := rname_calls (fp := fun _ => True) ⟨q, h1, fun _ _ => trivial⟩ n
  rw [mir_name (four_mir h)] at this
  exact this.mono fun e w' ⟨he, k, hd⟩ => ⟨he, m + k, by rw [hd, World.drewN_drewN]⟩
theorem fr_isVar (h : Four W w t r u v g gr T R U V) (hg : gr + 2 < 17592186044416) (n : Int) : Calls Tryd.prog 40 #[.pointer (some ⟨r, 0, none⟩), .int .i64 n] w fun e w' => e = .returned (.bool (isVarT T n)) ∧ Four W w' t r u v g gr T R U V := by
  obtain ⟨q, h1⟩ := four_ref h
  have := risVar_calls (fp := fun _ => True) ⟨q, h1, fun _ _ => trivial⟩ n
  rw [mir_isVar (four_mir h)] at this
  exact this.mono fun e w' ⟨he, hd⟩ => ⟨he, h.drawn hd⟩
theorem fqr_isVar (h : Four W w t r u v g gr T R U V) (hg : gr + 2 < 17592186044416) (n : Int) (m : Nat) : Calls Tryd.prog 40 #[.pointer (some ⟨r, 0, none⟩), .int .i64 n] (w.drewN m) fun e w'' => e = .returned (.bool (isVarT T n)) ∧ ∃ k, w'' = w.drewN k := by
  obtain ⟨q, h1⟩ := four_ref (h.drawn (w' := w.drewN m) ⟨m, rfl⟩)
  have := risVar_calls (fp := fun _ => True) ⟨q, h1, fun _ _ => trivial⟩ n
  rw [mir_isVar (four_mir h)] at this
  exact this.mono fun e w' ⟨he, k, hd⟩ => ⟨he, m + k, by rw [hd, World.drewN_drewN]⟩
theorem fr_active (h : Four W w t r u v g gr T R U V) (hg : gr + 2 < 17592186044416) (n : Int) : Calls Tryd.prog 41 #[.pointer (some ⟨r, 0, none⟩), .int .i64 n] w fun e w' => e = .returned (.bool (activeT T n)) ∧ Four W w' t r u v g gr T R U V := by
  obtain ⟨q, h1⟩ := four_ref h
  have := ractive_calls (fp := fun _ => True) ⟨q, h1, fun _ _ => trivial⟩ (by unfold maxLen; omega) n
  rw [mir_active (four_mir h)] at this
  exact this.mono fun e w' ⟨he, hd⟩ => ⟨he, h.drawn hd⟩
theorem fqr_active (h : Four W w t r u v g gr T R U V) (hg : gr + 2 < 17592186044416) (n : Int) (m : Nat) : Calls Tryd.prog 41 #[.pointer (some ⟨r, 0, none⟩), .int .i64 n] (w.drewN m) fun e w'' => e = .returned (.bool (activeT T n)) ∧ ∃ k, w'' = w.drewN k := by
  obtain ⟨q, h1⟩ := four_ref (h.drawn (w' := w.drewN m) ⟨m, rfl⟩)
  have := ractive_calls (fp := fun _ => True) ⟨q, h1, fun _ _ => trivial⟩ (by unfold maxLen; omega) n
  rw [mir_active (four_mir h)] at this
  exact this.mono fun e w' ⟨he, k, hd⟩ => ⟨he, m + k, by rw [hd, World.drewN_drewN]⟩
theorem ft_labels (h : Four W w t r u v g gr T R U V) : Calls Tryd.prog 29 #[.pointer (some ⟨t, 0, none⟩)] w fun e w' => ∃ v', e = .returned v' ∧ w'.ownsRow w.heap.size 9 1 v' T.labels.length (T.labels.map Value.string) ∧ Turns None w w' ∧ Four W w' t r u v g gr T R U V := by
  obtain ⟨F1, h1⟩ := four_tab h
  exact (labels_own h1).mono fun e w' ⟨v', he, ho, ht⟩ => ⟨v', he, ho, ht, h.past ht⟩
theorem fr_labels (h : Four W w t r u v g gr T R U V) : Calls Tryd.prog 38 #[.pointer (some ⟨r, 0, none⟩)] w fun e w' => ∃ v', e = .returned v' ∧ w'.ownsRow w.heap.size 9 1 v' T.labels.length (T.labels.map Value.string) ∧ Turns None w w' ∧ Four W w' t r u v g gr T R U V := by
  obtain ⟨q, h1⟩ := four_ref h
  have hm := four_mir h
  have hl : R.taken.length ≤ 1024 := by rw [hm.taken]; exact hm.wf.labels
  refine (rlabels_h h1 hl).mono fun e w' ⟨v', he, ho, ht⟩ => ⟨v', he, ?_, ht, h.past ht⟩
  rw [← hm.taken]
  exact ho
/-- What the law's four calls of New make. -/
def Part1 (W w : World) (t : Nat) (F : Nat → Prop) : Prop := Below W.heap.size W w ∧ TabIs w t 0 empty F ∧ ∀ k, F k → W.heap.size ≤ k ∧ k < w.heap.size
def Part2 (W w : World) (t r : Nat) (F : Nat → Prop) : Prop := Below W.heap.size W w ∧ Two w t 0 empty r 0 ⟨[], [], []⟩ F ∧ ∀ k, F k → W.heap.size ≤ k ∧ k < w.heap.size
theorem new_1 : Calls Tryd.prog 33 #[] W fun e w' => ∃ t F, e = .returned (.pointer (some ⟨t, 0, none⟩)) ∧ Part1 W w' t F := by
  refine new_api.mono ?_
  rintro e w' ⟨p, he, h1, ht⟩
  exact ⟨p, _, he, ht.below (Nat.le_refl _) (fun _ h => h.elim), h1.bound, fun k hk => hk⟩
theorem new_2 {F : Nat → Prop} (h : Part1 W w t F) : Calls Tryd.prog 34 #[] w fun e w' => ∃ r F', e = .returned (.pointer (some ⟨r, 0, none⟩)) ∧ Part2 W w' t r F' := by
  obtain ⟨hB, h1, h2⟩ := h
  have hs := hB.size
  refine rnew_calls.mono ?_
  rintro e w' ⟨r, q, he, hq, hqn, ht⟩
  have ht' := ht.size
  refine ⟨r, fun k => W.heap.size ≤ k ∧ k < w'.heap.size, he, hB.trans (ht.below hs (fun _ h => h.elim)), ⟨F, q.has r, h1.move (fun k hk => ht.block k (h2 k hk).2 (fun x => x.elim)), ⟨q, hq, fun _ hk => hk⟩, fun k hk hk2 => ?_, fun k hk => ⟨⟨(h2 k hk).1, ?_⟩, ?_⟩, fun k hk => ⟨⟨?_, hq.lt k hk⟩, hq.lt k hk⟩⟩, fun k hk => hk⟩
  · have := (h2 k hk).2
    have := hqn k hk2
    omega
  · have := (h2 k hk).2; omega
  · have := (h2 k hk).2; omega
  · have := hqn k hk; omega
theorem new_4 {Fa Fb : Nat → Prop} {w1 w2 : World} (h0 : 0 < W.heap.size) (ha : Part2 W w1 t r Fa) (hb : Part2 w1 w2 u v Fb) : Four W w2 t r u v 0 0 empty ⟨[], [], []⟩ empty ⟨[], [], []⟩ := by
  obtain ⟨a1, a2, a3⟩ := ha
  obtain ⟨b1, b2, b3⟩ := hb
  have hs := a1.size
  have hs2 := b1.size
  refine ⟨a1.trans ⟨b1.os, b1.tape, b1.output, b1.size, fun k hk => b1.block k (by omega)⟩, h0, mir_empty, mir_empty, Fa, Fb, a2.move (fun k hk _ => b1.block k hk) hs2, b2, fun k hk hk2 => ?_, fun k hk => (a3 k hk).1, fun k hk => ?_⟩
  · have := (a3 k hk).2
    have := (b3 k hk2).1
    omega
  · have := (b3 k hk).1
    omega
end

set_option maxHeartbeats 8000000 in
set_option maxRecDepth 100000 in
theorem walk {w : World} (hb : Blanks w) (A : Option Addr) (c : Nat) (l : List OpRec) (hl : l.length ≤ 4398046511104) (hs : Script w A l) :
    Calls Tryd.prog 9 #[.slice A l.length c] w fun e w' => e = .returned (.bool true) ∧ Below w.heap.size w w' := by
  have Hb := Lib.hid hb
  have HS := Lib.hid hs
  have H0 := Lib.hid hb.lt
  clear hb hs
  go_enter Tryd.func9, Tryd.ntmps9
  go_wp2_with fail
  refine new_1.mono ?_
  rintro e w1 ⟨t, F1, rfl, p1⟩
  have P1 := Aside0.mk p1
  clear p1
  go_wp2_with fail
  refine (new_2 P1.out).mono ?_
  rintro e w2 ⟨r, F2, rfl, p2⟩
  have P2 := Aside0.mk p2
  clear p2 P1
  go_wp2_with fail
  refine new_1.mono ?_
  rintro e w3 ⟨u, F3, rfl, p3⟩
  have P3 := Aside0.mk p3
  clear p3
  go_wp2_with fail
  refine (new_2 P3.out).mono ?_
  rintro e w4 ⟨v, F4, rfl, p4⟩
  have M := Aside0.mk (new_4 H0.out P2.out p4)
  clear p4 P2 P3
  go_wp2_with fail
  go_loopw [7] (fun v7 wr => ∃ (i : Nat) (T U : Tab) (R V : Ref), i ≤ l.length ∧ v7 = .int .i64 i ∧ Aside0 (Four w wr t r u v (4 * i) (2 * i) T R U V)) (fun v7 _ => l.length - (intOf v7).toNat)
  case atStart => exact ⟨0, empty, empty, ⟨[], [], []⟩, ⟨[], [], []⟩, by omega, rfl, M⟩
  case round =>
    clear M
    obtain ⟨i, T, U, R, V, hi, rfl, M⟩ := hrel
    by_cases hlt : i < l.length
    · obtain ⟨a, rfl⟩ := HS.out.some_ (by omega)
      obtain ⟨c1, c2, c3, hx⟩ := (HS.out.below M.out.1).at_ a i l[i] rfl (List.getElem?_eq_getElem hlt)
      generalize l[i] = x at c1 c2 c3 hx
      have Hx := Lib.hid hx
      clear hx
      go_wp2_with fail
      refine (four_alike Hb.out M.out x.k x.s x.n Hx.out (by unfold maxLen; omega) (by omega)).mono ?_
      rintro e w5 ⟨rfl, T1, R1, hm⟩
      have M1 := Aside0.mk hm
      clear hm M c1 c2 c3
      by_cases hodd : i % 2 = 1
      · have hj : i / 2 < l.length := by omega
        obtain ⟨c4, c5, c6, hy⟩ := (HS.out.below M1.out.1).at_ a (i / 2) l[i / 2] rfl (List.getElem?_eq_getElem hj)
        generalize l[i / 2] = y at c4 c5 c6 hy
        have Hy := Lib.hid hy
        clear hy
        go_wp2_with fail
        refine (four_alike Hb.out M1.out.swap y.k y.s y.n Hy.out (by unfold maxLen; omega) (by omega)).mono ?_
        rintro e w6 ⟨rfl, T2, R2, hm⟩
        have M2 := Aside0.mk hm.swap
        clear hm M1 c4 c5 c6
        go_wp2_with fail
        go_roundw
        case rel => exact ⟨i + 1, _, _, _, _, by omega, by go_num, ⟨M2.out.more (by omega) (by omega)⟩⟩
        case measure => simp [intOf]; omega
      · go_wp2_with fail
        go_roundw
        case rel => exact ⟨i + 1, _, _, _, _, by omega, by go_num, ⟨M1.out.more (by omega) (by omega)⟩⟩
        case measure => simp [intOf]; omega
    · obtain ⟨g, gr, hg, hgr, hM⟩ : ∃ g gr, g + 2 < maxLen ∧ gr + 2 < 17592186044416 ∧ Four w wr t r u v g gr T R U V := ⟨4 * i, 2 * i, by unfold maxLen; omega, by omega, M.out⟩
      have Hg := Lib.hid hgr
      have M := Aside0.mk hM
      have Hlu := Lib.hid (show U.labels.length ≤ 1048576 by have := (four_mir hM.swap).wf.labels; omega)
      have Hlt := Lib.hid (show T.labels.length ≤ 1048576 by have := (four_mir hM).wf.labels; omega)
      have hfew := (four_mir hM).wf.few
      clear hM hg hgr
      go_wp2_with fail
      refine (ft_count M.out.swap).mono ?_
      rintro e w5 ⟨rfl, hm⟩
      replace M := Aside0.mk hm.swap
      clear hm
      go_wp2_with fail
      refine (fr_count M.out.swap Hg.out).mono ?_
      rintro e w6 ⟨rfl, hm⟩
      replace M := Aside0.mk hm.swap
      clear hm
      go_wp2_with fail
      refine (ft_depth M.out.swap).mono ?_
      rintro e w7 ⟨rfl, hm⟩
      replace M := Aside0.mk hm.swap
      clear hm
      go_wp2_with fail
      refine (fr_depth M.out.swap Hg.out).mono ?_
      rintro e w8 ⟨rfl, hm⟩
      replace M := Aside0.mk hm.swap
      clear hm
      go_wp2_with fail
      refine (ft_labels M.out.swap).mono ?_
      rintro e w9 ⟨v2, rfl, ho2, _, hm⟩
      replace M := Aside0.mk hm.swap
      have O2 := Aside0.mk ho2
      clear hm ho2
      go_wp2_with fail
      refine (fr_labels M.out.swap).mono ?_
      rintro e w10 ⟨v3, rfl, ho3, ht3, hm⟩
      replace M := Aside0.mk hm.swap
      obtain ⟨A3, c3, rfl, hc3, hC3⟩ := row_reads ho3
      obtain ⟨A2, c2, rfl, hc2, hC2⟩ := row_reads (row_kept O2.out ht3)
      have HC3 := Aside0.mk hC3
      have HC2 := Aside0.mk hC2
      clear hm ho3 ht3 hC3 hC2 O2
      go_wp2_with fail
      refine (SymLabelsPure.same_calls A2 c2 A3 c3 U.labels Hlu.out HC2.out hc2 HC3.out hc3).mono ?_
      rintro e w11 ⟨rfl, hd⟩
      replace M := Aside0.mk (M.out.drawn hd)
      clear hd HC2 HC3
      go_wp2_with fail
      refine new_api.mono ?_
      rintro e w12 ⟨p, rfl, h1, ht⟩
      replace M := Aside0.mk (M.out.past ht)
      have N1 := Aside0.mk h1
      clear h1 ht
      go_wp2_with fail
      refine (count_calls N1.out).mono ?_
      rintro e w13 ⟨rfl, hd⟩
      replace M := Aside0.mk (M.out.drawn hd)
      clear hd N1
      rw [show ((empty.syms.length : Nat) : Int) = 0 from rfl]
      go_wp2_with fail
      go_loopw [8] (fun v8 wq => ∃ j : Int, -1 ≤ j ∧ j ≤ T.syms.length + 1 ∧ v8 = .int .i64 j ∧ Aside0 (Four w wq t r u v g gr T R U V)) (fun v8 _ => ((T.syms.length : Int) + 1 - intOf v8).toNat)
      case atStart => exact ⟨-1, by omega, by omega, rfl, M⟩
      case round =>
        clear M
        obtain ⟨j, hj0, hj1, rfl, M⟩ := hrel
        go_wp2_with fail
        refine (fr_count M.out Hg.out).mono ?_
        rintro e w14 ⟨rfl, hm⟩
        replace M := Aside0.mk hm
        clear hm
        by_cases hle : j ≤ T.syms.length
        · skip
          go_wp2_with fail
          refine (ft_name M.out j).mono ?_
          rintro e wx ⟨rfl, hm⟩
          replace M := Aside0.mk hm
          clear hm
          go_wp2_with fail
          refine (fr_name M.out Hg.out j).mono ?_
          rintro e wx ⟨rfl, hm⟩
          replace M := Aside0.mk hm
          clear hm
          go_wp2_with fail
          refine (ft_isVar M.out j).mono ?_
          rintro e wx ⟨rfl, hm⟩
          replace M := Aside0.mk hm
          clear hm
          go_wp2_with fail
          refine (fr_isVar M.out Hg.out j).mono ?_
          rintro e wx ⟨rfl, hm⟩
          replace M := Aside0.mk hm
          clear hm
          go_wp2_with fail
          refine (ft_active M.out j).mono ?_
          rintro e wx ⟨rfl, hm⟩
          replace M := Aside0.mk hm
          clear hm
          go_wp2_with fail
          refine (fr_active M.out Hg.out j).mono ?_
          rintro e wx ⟨rfl, hm⟩
          replace M := Aside0.mk hm
          clear hm
          go_wp2_with fail
          go_roundw
          case rel => exact ⟨j + 1, by omega, by omega, by go_num, M⟩
          case measure => simp [intOf]; omega
        · go_wp2_with fail
          refine (ft_count M.out).mono ?_
          rintro e wx ⟨rfl, hm⟩
          replace M := Aside0.mk hm
          clear hm
          go_wp2_with fail
          refine (fr_count M.out Hg.out).mono ?_
          rintro e wx ⟨rfl, hm⟩
          replace M := Aside0.mk hm
          clear hm
          go_wp2_with fail
          refine (ft_depth M.out).mono ?_
          rintro e wx ⟨rfl, hm⟩
          replace M := Aside0.mk hm
          clear hm
          go_wp2_with fail
          refine (fr_depth M.out Hg.out).mono ?_
          rintro e wx ⟨rfl, hm⟩
          replace M := Aside0.mk hm
          clear hm
          go_wp2_with fail
          refine (ft_labels M.out).mono ?_
          rintro e wx ⟨v2, rfl, ho2, _, hm⟩
          replace M := Aside0.mk hm
          have O2 := Aside0.mk ho2
          clear hm ho2
          go_wp2_with fail
          refine (fr_labels M.out).mono ?_
          rintro e wy ⟨v3, rfl, ho3, ht3, hm⟩
          replace M := Aside0.mk hm
          obtain ⟨A3, c3, rfl, hc3, hC3⟩ := row_reads ho3
          obtain ⟨A2, c2, rfl, hc2, hC2⟩ := row_reads (row_kept O2.out ht3)
          have HC3 := Aside0.mk hC3
          have HC2 := Aside0.mk hC2
          clear hm ho3 ht3 hC3 hC2 O2
          go_wp2_with fail
          refine (SymLabelsPure.same_calls A2 c2 A3 c3 T.labels Hlt.out HC2.out hc2 HC3.out hc3).mono ?_
          rintro e wz ⟨rfl, hd⟩
          replace M := Aside0.mk (M.out.drawn hd)
          clear hd HC2 HC3
          go_wp2_with fail
          go_ret
          exact ⟨by simp, M.out.1⟩
end Go.Proofs.YtpoojimmponklaaDoor.SymPlays
