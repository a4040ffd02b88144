/- Const declares a constant. -/
import Derived.Test.YtpoojimmponklaaDoorAdd
import Derived.Test.YtpoojimmponklaaDoorScan
namespace Go.Proofs.YtpoojimmponklaaDoor.SymConst
open Go.RowKit Go.Maps Go.Proofs.YtpoojimmponklaaDoor.SymTab Go.Proofs.YtpoojimmponklaaDoor.SymHeap Go.Proofs.YtpoojimmponklaaDoor.SymReads Go.Proofs.YtpoojimmponklaaDoor.SymAdd Go.Proofs.YtpoojimmponklaaDoor.SymScan
open Go.Proofs.YtpoojimmponklaaDoorW.PrintWords (Aside0 Drawn0 own_move)

theorem steps_refl {w : World} {p g : Nat} {T : Tab} {q : Parts} (h : Holds w p g T q) : TabSteps w w p g T q := ⟨q, h, fun _ hk => .inl hk, Turns.refl _ _⟩

/-- add where the table is full. -/
theorem add_full {w : World} {p g : Nat} {T : Tab} {q : Parts} (h : Holds w p g T q) (s : ByteArray) (b : Bool) (hfull : 512 ≤ T.syms.length) :
    Calls Tryd.prog 59 #[.pointer (some ⟨p, 0, none⟩), .string s, .bool b] w fun e w' => e = .returned (.tuple #[.int .i64 0, .int .i64 22]) ∧ w' = w := by
  obtain ⟨vs, bn, ba, vc, bt, vl, vals⟩ := q
  obtain ⟨A, cap, e, _⟩ := row_slice h.syms
  simp only at e
  subst e
  have c0 := (cell_at h.cells 0).1
  simp only [List.getElem?_toArray, List.getElem?_cons_zero] at c0
  have hlen : 512 ≤ ((T.syms.length : Int)) := by omega
  clear h
  go_enter Tryd.func59, Tryd.ntmps59
  go_wp2
  go_ret2
  exact ⟨rfl, rfl⟩

/-- A map's block turned: the rest of the table stays. -/
theorem holds_act {w w2 : World} {p g g' : Nat} {T : Tab} {q : Parts} (h : Holds w p g T q) (hg2 : w.grownBy w2 (some q.ba)) {f : ByteArray → Option Nat} (hm : MapIs w2 q.ba g' f) (hg : g ≤ g') : Holds w2 p g' { T with act := f } q := by
  have hlt := h.lt
  have hty := tyOf_map h.active
  have all : ∀ k, k < w.heap.size → k ≠ q.ba → w2.heap[k]? = w.heap[k]? := fun k hk h1 => hg2.block k hk (by simpa using h1)
  have row : ∀ k t, k < w.heap.size → tyOf w k = some t → w2.heap[k]? = w.heap[k]? := fun k t hk ht => all k hk (ne_ty ht hty (by simp))
  refine ⟨(row p 88 (hlt p (.inl rfl)) h.tp).trans h.cells, own_move h.syms (fun k hk => row k 93 (h.syms.lt k hk).2 (tyOf_row h.syms hk)), ?_, hm, ?_, h.na, h.nt, h.at_,
    own_move h.scopes (fun k hk => row k 90 (h.scopes.lt k hk).2 (tyOf_row h.scopes hk)), h.vars.move (fun v hv k hk => row k 3 (hlt k (.inr (.inr (.inr (.inr (.inr (.inr (.inr ⟨v, hv, hk⟩)))))))) (h.tvars hv hk)), own_move h.labels (fun k hk => row k 9 (h.labels.lt k hk).2 (tyOf_row h.labels hk))⟩
  · exact (h.numbers.move (all q.bn (hlt q.bn (.inr (.inl rfl))) h.na)).more hg
  · exact (h.taken.move (all q.bt (hlt q.bt (by simp [Parts.has])) (Ne.symm h.at_))).more hg
theorem steps_act {w w1 w2 : World} {p g g' : Nat} {T T1 : Tab} {q : Parts} {q1 : Parts} (h1 : Holds w1 p g T1 q1) (hh : ∀ k, q1.has p k → q.has p k ∨ w.heap.size ≤ k) (ht : Turns (q.has p) w w1)
    (hg2 : w1.grownBy w2 (some q1.ba)) {f : ByteArray → Option Nat} (hm : MapIs w2 q1.ba g' f) (hg : g ≤ g') (hT : T = { T1 with act := f }) : TabSteps w w2 p g' T q := by
  subst hT
  refine ⟨q1, holds_act h1 hg2 hm hg, hh, ht.trans (Turns.of_grown (fp := q1.has p) hg2 (fun k hk => ?_)) hh⟩
  have := Option.some.inj hk
  subst this
  exact .inr (.inr (.inl rfl))

set_option maxHeartbeats 1000000 in
set_option maxRecDepth 100000 in
theorem const_calls {w : World} (hb : Blanks w) {p g : Nat} {T : Tab} {q : Parts} (h : Holds w p g T q) (s : ByteArray) (hs : s.size ≤ maxLen) (hg : g + 2 < maxLen) :
    Calls Tryd.prog 18 #[.pointer (some ⟨p, 0, none⟩), .string s] w fun e w' => e = .returned (.tuple #[.int .i64 ((constT T s).2.1 : Int), .int .i64 ((constT T s).2.2 : Int)]) ∧ TabSteps w w' p (g + 2) (constT T s).1 q := by
  have hsame : TabSteps w w p (g + 2) T q := steps_refl (h.more (by omega))
  have H := Aside0.mk h
  obtain ⟨vs, bn, ba, vc, bt, vl, vals⟩ := q
  obtain ⟨A, cap, e, _⟩ := row_slice h.scopes
  simp only at e
  subst e
  have c1 := (cell_at h.cells 1).1
  have c2 := (cell_at h.cells 2).1
  have c3 := (cell_at h.cells 3).1
  simp only [List.getElem?_toArray, List.getElem?_cons_zero, List.getElem?_cons_succ] at c1 c2 c3
  have hsame' := Lib.hid hsame
  have hl := h.numbers.look hs
  have Hb := Lib.hid hb
  clear h hsame hb
  by_cases hsc : 0 < T.scopes.length
  · have Hc := Lib.hid (show constT T s = (T, 0, 23) by unfold constT; rw [if_pos hsc])
    have d3 : decide ((0 : Int) < (T.scopes.length : Int)) = true := decide_eq_true (by omega)
    go_enter Tryd.func18, Tryd.ntmps18
    go_wp2_with fail
    go_ret2
    rw [Hc.out]
    exact ⟨rfl, hsame'.out⟩
  · have d3 : decide ((0 : Int) < (T.scopes.length : Int)) = false := decide_eq_false (by omega)
    have hsym := symbol_calls Hb.out s hs
    cases hok : symOk s with
    | false =>
      have Hc := Lib.hid (show constT T s = (T, 0, 21) by unfold constT; rw [if_neg hsc, if_pos hok])
      rw [hok] at hsym
      clear hok
      go_enter Tryd.func18, Tryd.ntmps18
      go_wp2_with (go_at_call 58; refine hsym.mono ?_; rintro e w' ⟨rfl, rfl⟩)
      go_ret2
      rw [Hc.out]
      exact ⟨rfl, hsame'.out⟩
    | true =>
      rw [hok] at hsym
      have Hok := Lib.hid hok
      clear hok
      cases hi : idx T.syms s with
      | some n =>
        have Hc := Lib.hid (show constT T s = (T, 0, 20) by unfold constT; rw [if_neg hsc, Hok.out, hi]; rfl)
        rw [hi] at hl
        clear hi
        go_enter Tryd.func18, Tryd.ntmps18
        go_wp2_with (go_at_call 58; refine hsym.mono ?_; rintro e w' ⟨rfl, rfl⟩)
        go_ret2
        rw [Hc.out]
        exact ⟨rfl, hsame'.out⟩
      | none =>
        have Hi := Lib.hid hi
        rw [hi] at hl
        clear hi
        by_cases hf : 512 ≤ T.syms.length
        · have Hc := Lib.hid (show constT T s = (T, 0, 22) by unfold constT; rw [if_neg hsc, Hok.out, Hi.out]; simp [hf])
          go_enter Tryd.func18, Tryd.ntmps18
          go_wp2_with (first | (go_at_call 58; refine hsym.mono ?_; rintro e w' ⟨rfl, rfl⟩) | (go_at_call 59; refine (add_full H.out s false hf).mono ?_; rintro e w' ⟨rfl, rfl⟩))
          go_ret2
          rw [Hc.out]
          exact ⟨rfl, hsame'.out⟩
        · have hs32 : s.size ≤ 32 := by
            have := Hok.out
            unfold symOk at this
            simp only [Bool.and_eq_true, decide_eq_true_eq] at this
            exact this.2
          have Hc := Lib.hid (show constT T s = ({ added T s false with act := upd T.act s T.syms.length }, T.syms.length, 0) by unfold constT; rw [if_neg hsc, Hok.out, Hi.out]; simp [hf])
          go_enter Tryd.func18, Tryd.ntmps18
          go_wp2_with (go_at_call 58; refine hsym.mono ?_; rintro e w' ⟨rfl, rfl⟩)
          refine (add_calls H.out s false hs32 Hi.out (by omega) (by omega)).mono ?_
          rintro e w1 ⟨rfl, ⟨q1, hq1, hh1, ht1⟩⟩
          have e2 := (cell_at hq1.cells 2).1
          simp only [List.getElem?_toArray, List.getElem?_cons_zero, List.getElem?_cons_succ] at e2
          have Hq1 := Aside0.mk hq1
          have Hh1 := Aside0.mk hh1
          have Ht1 := Aside0.mk ht1
          clear hq1 hh1 ht1 c1 c2 c3 hl
          go_wp2_with (at_mapUpdate; refine wp_store rfl _ _ _ rfl rfl rfl rfl Hq1.out.active hs (by omega) (by omega) ?_; intro w2 hm2 hg2)
          go_ret2
          rw [Hc.out]
          exact ⟨rfl, steps_act Hq1.out Hh1.out Ht1.out hg2 hm2 (by omega) rfl⟩
end Go.Proofs.YtpoojimmponklaaDoor.SymConst
