/- Close closes the innermost scope: its variables are not active any more. -/
import Derived.Test.YtpoojimmponklaaDoorVar
import Derived.StillTailTactics
namespace Go.Proofs.YtpoojimmponklaaDoor.SymClose
open Go.RowKit Go.Maps Go.Proofs.YtpoojimmponklaaDoor.SymTab Go.Proofs.YtpoojimmponklaaDoor.SymHeap Go.Proofs.YtpoojimmponklaaDoor.SymReads Go.Proofs.YtpoojimmponklaaDoor.SymAdd Go.Proofs.YtpoojimmponklaaDoor.SymConst Go.Proofs.YtpoojimmponklaaDoor.SymPut Go.Proofs.YtpoojimmponklaaDoor.SymVar
open Go.Proofs.YtpoojimmponklaaDoorW.PrintWords (Aside0 Drawn0 own_move)
set_option linter.unusedVariables false

theorem dels_snoc (T : Tab) (f : ByteArray → Option Nat) (l : List Nat) (v : Nat) : dels T f (l ++ [v]) = del (dels T f l) (nameOf T v) := by simp [dels]

/-- The k-th number of the innermost scope. -/
theorem var_cell {w : World} {p g : Nat} {T : Tab} {q : Parts} (h : Holds w p g T q) {ls : List (List Nat)} {xs : List Nat} (hT : T.scopes = ls ++ [xs]) {us : List Value} {A3 : Option Addr} {cap3 : Nat} (hq : q.vals = us ++ [.slice A3 xs.length cap3]) {k : Nat} (hk : k < xs.length) :
    ∃ gb, A3 = some ⟨gb, 0, none⟩ ∧ w.cell? ⟨gb, k, none⟩ = some (.int .i64 (xs[k] : Int)) := by
  have hv := h.vars
  rw [hT, hq] at hv
  obtain ⟨_, hv2, _⟩ := vars_split hv
  obtain ⟨gb, cap', e, _, hcell, _⟩ := row_some hv2 (by omega)
  simp only [Value.slice.injEq, true_and] at e
  refine ⟨gb, e.1, hcell k _ ?_⟩
  simp [numRow, hk]

theorem pop_row {w : World} {base e m cap : Nat} {A : Option Addr} {vals : List Value} {v : Value} (h : w.ownsRow base e 1 (.slice A (m + 1) cap) (m + 1) (vals ++ [v])) : w.ownsRow base e 1 (.slice A m cap) m vals := by
  have hl : vals.length = m := by have := h.1; simp at this; omega
  refine ⟨by omega, .inr ?_⟩
  rcases h.2 with ⟨e, h0⟩ | ⟨g, cap', cur, e, hb, hg, hn, hc, hs, ht⟩
  · omega
  · simp only [Value.slice.injEq, true_and] at e
    obtain ⟨rfl, rfl⟩ := e
    refine ⟨g, cap, cur, rfl, hb, hg, by omega, hc, hs, ?_⟩
    have h2 : (cur.toList.take ((m + 1) * 1)).take m = (vals ++ [v]).take m := by rw [ht]
    rw [List.take_take] at h2
    rw [show min m ((m + 1) * 1) = m * 1 by omega] at h2
    rw [h2, ← hl]
    simp

theorem pop_steps {w : World} {p g : Nat} {T : Tab} {q : Parts} (h : Holds w p g T q) {ls : List (List Nat)} {xs : List Nat} (hT : T.scopes = ls ++ [xs]) {us : List Value} {v : Value} (hq : q.vals = us ++ [v]) {sb cap : Nat} (hvc : q.vc = .slice (some ⟨sb, 0, none⟩) T.scopes.length cap) :
    TabSteps w (w.setCell ⟨p, 3, none⟩ (.slice (some ⟨sb, 0, none⟩) (T.scopes.length - 1) cap)) p g { T with scopes := ls } q := by
  obtain ⟨vs, bn, ba, vc, bt, vl, vals⟩ := q
  simp only at hq hvc
  subst hq hvc
  have hv := h.vars
  rw [hT] at hv
  obtain ⟨hv1, _, _⟩ := vars_split hv
  have hlt := h.lt
  have hm : T.scopes.length = ls.length + 1 := by rw [hT]; simp
  have hm1 : T.scopes.length - 1 = ls.length := by omega
  rw [hm1]
  obtain ⟨nv, hnv⟩ : ∃ nv, nv = Value.slice (some ⟨sb, 0, none⟩) ls.length cap := ⟨_, rfl⟩
  rw [← hnv]
  have row : ∀ k t, tyOf w k = t → t ≠ some 88 → (w.setCell ⟨p, 3, none⟩ nv).heap[k]? = w.heap[k]? := fun k t ht h1 => Below.heap_setCell w ⟨p, 3, none⟩ nv k (ne_ty ht h.tp h1)
  have hs : w.ownsRow 0 90 1 nv ls.length us := by
    have := h.scopes
    simp only at this
    rw [hm] at this
    rw [hnv]
    exact pop_row this
  refine ⟨⟨vs, bn, ba, nv, bt, vl, us⟩, ⟨?_, ?_, ?_, ?_, ?_, h.na, h.nt, h.at_, ?_, ?_, ?_⟩, ?_, ?_⟩
  · rw [set_block h.cells]
    rfl
  · exact own_move h.syms (fun k hk => row k _ (tyOf_row h.syms hk) (by decide))
  · exact h.numbers.move (row bn _ (tyOf_map h.numbers) (by decide))
  · exact h.active.move (row ba _ (tyOf_map h.active) (by decide))
  · exact h.taken.move (row bt _ (tyOf_map h.taken) (by decide))
  · exact own_move hs (fun k hk => row k _ (tyOf_row hs hk) (by decide))
  · exact hv1.move (fun u hu k hk => row k _ (h.tvars (v := u) (by simp [hu]) hk) (by decide))
  · exact own_move h.labels (fun k hk => row k _ (tyOf_row h.labels hk) (by decide))
  · intro k hk
    left
    rcases hk with hk | hk | hk | hk | hk | hk | hk | ⟨u, hu, hk⟩
    · exact .inl hk
    · exact .inr (.inl hk)
    · exact .inr (.inr (.inl hk))
    · exact .inr (.inr (.inr (.inl hk)))
    · exact .inr (.inr (.inr (.inr (.inl hk))))
    · rw [show (Parts.vc ⟨vs, bn, ba, nv, bt, vl, us⟩) = nv from rfl, hnv] at hk
      exact .inr (.inr (.inr (.inr (.inr (.inl hk)))))
    · exact .inr (.inr (.inr (.inr (.inr (.inr (.inl hk))))))
    · exact .inr (.inr (.inr (.inr (.inr (.inr (.inr ⟨u, by simp [hu], hk⟩))))))
  · exact Turns.setCell w ⟨p, 3, none⟩ nv (.inl rfl)

set_option maxHeartbeats 2000000 in
set_option maxRecDepth 100000 in
theorem close_calls {w : World} {p g : Nat} {T : Tab} {q : Parts} (hw : WF T) (h : Holds w p g T q) :
    Calls Tryd.prog 19 #[.pointer (some ⟨p, 0, none⟩)] w fun e w' => e = .returned (.int .i64 ((closeS T).2 : Int)) ∧ TabSteps w w' p g (closeS T).1 q := by
  by_cases hsc : 0 < T.scopes.length
  · obtain ⟨ls, xs, us, v, sb, cap, A3, cap3, hT, hq, hvc, hv, e3, ev, fv, hpl, hsl, _, _, _⟩ := last_facts h hsc
    subst hv
    have Hc := Lib.hid (show closeS T = ({ T with act := dels T T.act xs, scopes := ls }, 0) by
      unfold closeS
      rw [if_neg (by intro e; rw [e] at hsc; simp at hsc), hT]
      simp)
    have hx : ∀ v ∈ xs, v < T.syms.length := fun v hv => (hw.vars xs (by rw [hT]; simp) v hv).1
    have hxl : xs.length ≤ 512 := by
      have h1 := nodup_le (n := T.syms.length) (List.Sublist.nodup (List.sublist_flatten_of_mem (show xs ∈ T.scopes by rw [hT]; simp)) hw.once) hx
      have := hw.few
      omega
    have Hw := Aside0.mk hw
    have H := Aside0.mk h
    have HT := Aside0.mk hT
    have Hq := Aside0.mk hq
    have Hvc := Aside0.mk hvc
    have Hx := Aside0.mk hx
    have hd := hw.deep
    have hk1 : (0 : Int) ≤ (T.scopes.length : Int) - 1 := by omega
    have hk1' : (1 : Int) ≤ (T.scopes.length : Int) := by omega
    have hk2 : (T.scopes.length : Int) - 1 < (T.scopes.length : Int) := by omega
    have d0 : ((T.scopes.length : Int) == 0) = false := beq_eq_false_iff_ne.2 (by omega)
    clear hw h hT hq hvc hx
    go_enter Tryd.func19, Tryd.ntmps19
    go_wp2_with fail
    go_loopw [23] (fun v23 wr => ∃ k : Nat, k ≤ xs.length ∧ v23 = .int .i64 k ∧ Aside0 (Holds wr p g { T with act := dels T T.act (xs.take k) } q) ∧ Aside0 (Turns (q.has p) w wr)) (fun v23 _ => xs.length - (intOf v23).toNat)
    case atStart => exact ⟨0, by omega, rfl, ⟨by simpa [dels] using H.out⟩, ⟨Turns.refl _ _⟩⟩
    case round =>
      obtain ⟨k, hk, rfl, HR, HB⟩ := hrel
      by_cases hklt : k < xs.length
      · obtain ⟨gb, e, hcell⟩ := var_cell HR.out (T := { T with act := dels T T.act (xs.take k) }) HT.out Hq.out hklt
        subst e
        have hv := Hx.out xs[k] (List.getElem_mem hklt)
        have hts := List.take_succ_eq_append_getElem hklt
        obtain ⟨b, capb, eb, hname, _⟩ := syms_at HR.out (k := xs[k]) hv
        have hs32 := size_name Hw.out hv
        obtain ⟨x, hxx⟩ : ∃ x, x = xs[k] := ⟨_, rfl⟩
        rw [← hxx] at hcell hv hts hname hs32
        clear hxx
        replace hname : wr.cell? ⟨b, x * 2, none⟩ = some (.string (nameOf T x)) := hname
        have c0 := (cell_at HR.out.cells 0).1
        have c2 := (cell_at HR.out.cells 2).1
        simp only [List.getElem?_toArray, List.getElem?_cons_zero, List.getElem?_cons_succ, eb] at c0 c2
        have Hts := Aside0.mk hts
        have hx0 : (0 : Int) ≤ x := by omega
        have hx1 : (x : Int) < (T.syms.length : Int) := by omega
        clear hts eb
        go_wp2_with fail
        go_still_tail 12, (by kernel_rfl)
        refine wp_delete rfl _ _ rfl rfl rfl (HR.out.active.move rfl) (s := nameOf T x) (by unfold maxLen; omega) ?_
        intro w2 hm2 hg2
        have h2 : Holds w2 p g { T with act := dels T T.act (xs.take (k + 1)) } q := by
          have := holds_act (HR.out.move (w' := wr.drew) (fun _ _ => rfl)) hg2 hm2 (Nat.le_refl _)
          rw [Hts.out, dels_snoc]
          exact this
        have t2 : Turns (q.has p) w w2 := Turns.trans (HB.out.trans (Turns.drewN (fp := q.has p) wr 1) (fun _ hk => .inl hk)) (Turns.of_grown (fp := q.has p) hg2 (fun k hk => by have := Option.some.inj hk; subst this; exact .inr (.inr (.inl rfl)))) (fun _ hk => .inl hk)
        have H2 := Aside0.mk h2
        have T2 := Aside0.mk t2
        clear h2 t2 hm2 hg2 c0 c2 hcell hname
        go_wp2_with fail
        go_roundw
        case rel => exact ⟨k + 1, by omega, by go_num, H2, T2⟩
        case measure => simp [intOf]; omega
      · have hk' : k = xs.length := by omega
        have hR := HR.out
        rw [List.take_of_length_le (by omega)] at hR
        have HR' := Aside0.mk hR
        have c3 := cell_at hR.cells 3
        simp only [List.getElem?_toArray, List.getElem?_cons_zero, List.getElem?_cons_succ, Hvc.out] at c3
        obtain ⟨c3, f3⟩ := c3
        have hcap : T.scopes.length ≤ cap := by
          obtain ⟨A', cap', e, hle⟩ := row_slice hR.scopes
          rw [Hvc.out] at e
          simp only [Value.slice.injEq] at e
          have h1 : T.scopes.length ≤ cap' := hle
          omega
        have hcap' : (T.scopes.length : Int) - 1 ≤ (cap : Int) := by omega
        clear hR hk' HR
        go_wp2_with fail
        go_ret
        rw [Hc.out]
        refine ⟨rfl, ?_⟩
        obtain ⟨q', a, b, c⟩ := pop_steps HR'.out (hT := HT.out) (hq := Hq.out) (hvc := Hvc.out)
        exact ⟨q', a, fun k hk => by rcases b k hk with h | h; exact .inl h; exact .inr (Nat.le_trans HB.out.size h), HB.out.trans c (fun _ hk => .inl hk)⟩
  · have h0 : T.scopes = [] := by
      cases hl : T.scopes with
      | nil => rfl
      | cons x l => rw [hl] at hsc; simp at hsc
    have Hc := Lib.hid (show closeS T = (T, 23) by unfold closeS; rw [if_pos h0])
    have hsame := Lib.hid (steps_refl h)
    obtain ⟨A, cap, e, _⟩ := row_slice h.scopes
    have c3 := (cell_at h.cells 3).1
    simp only [List.getElem?_toArray, List.getElem?_cons_zero, List.getElem?_cons_succ, e] at c3
    replace c3 : w.cell? ⟨p, 3, none⟩ = some (.slice A 0 cap) := by rw [c3, h0]; rfl
    clear h0 hsc h e
    go_enter Tryd.func19, Tryd.ntmps19
    go_wp2_with fail
    go_ret
    rw [Hc.out]
    exact ⟨rfl, hsame.out⟩
end Go.Proofs.YtpoojimmponklaaDoor.SymClose
