/- Label takes a label for ever. -/
import Derived.Test.YtpoojimmponklaaDoorConst
import Derived.Test.YtpoojimmponklaaDoorName
import Derived.StillTailTactics
namespace Go.Proofs.YtpoojimmponklaaDoor.SymLabel
open Go.RowKit Go.Maps Go.Proofs.YtpoojimmponklaaDoor.SymTab Go.Proofs.YtpoojimmponklaaDoor.SymHeap Go.Proofs.YtpoojimmponklaaDoor.SymReads Go.Proofs.YtpoojimmponklaaDoor.SymAdd Go.Proofs.YtpoojimmponklaaDoor.SymConst Go.Proofs.YtpoojimmponklaaDoor.SymName
open Go.Proofs.YtpoojimmponklaaDoorW.PrintWords (Aside0 Drawn0 own_move)

theorem info9 : (Tryd.prog.info? 9).map (fun i => (i.zero, i.size, i.bytes)) = some (some (.string .empty), 1, 16) := by kernel_rfl

theorem drawn_steps {w w1 : World} (hd : Drawn0 w w1) {p g : Nat} {T : Tab} {q : Parts} (h : Holds w p g T q) : Holds w1 p g T q ∧ Turns (q.has p) w w1 := by
  obtain ⟨n, rfl⟩ := hd
  exact ⟨h.move (fun _ _ => rfl), Turns.drewN w n⟩
theorem steps_from {w w1 w2 : World} {p g : Nat} {T : Tab} {q : Parts} (h1 : Turns (q.has p) w w1) (h2 : TabSteps w1 w2 p g T q) : TabSteps w w2 p g T q := by
  obtain ⟨q', a, b, c⟩ := h2
  exact ⟨q', a, fun k hk => by rcases b k hk with h | h; exact .inl h; exact .inr (Nat.le_trans h1.size h), h1.trans c (fun _ hk => .inl hk)⟩

set_option maxHeartbeats 1000000 in
set_option maxRecDepth 100000 in
theorem label_calls {w : World} {p g : Nat} {T : Tab} {q : Parts} (h : Holds w p g T q) (s : ByteArray) (hs : s.size ≤ maxLen) (hd : T.labels.length ≤ 1024) (hg : g + 1 < maxLen) :
    Calls Tryd.prog 25 #[.pointer (some ⟨p, 0, none⟩), .string s] w fun e w' => e = .returned (.int .i64 ((labelT T s).2 : Int)) ∧ TabSteps w w' p (g + 1) (labelT T s).1 q := by
  have hname := name_calls (w := w) s hs
  cases hok : nameOk s with
  | false =>
    have Hc := Lib.hid (show labelT T s = (T, 21) by unfold labelT; rw [if_pos hok])
    rw [hok] at hname
    have H := Aside0.mk (h.more (show g ≤ g + 1 by omega))
    clear hok h
    go_enter Tryd.func25, Tryd.ntmps25
    go_wp2_with (go_at_call 61; refine hname.mono ?_; rintro e w1 ⟨rfl, hd1⟩)
    go_ret
    rw [Hc.out]
    obtain ⟨h1, t1⟩ := drawn_steps hd1 H.out
    exact ⟨rfl, steps_from t1 (steps_refl h1)⟩
  | true =>
    rw [hok] at hname
    have H0 := Aside0.mk h
    have Hok := Lib.hid hok
    clear hok h
    go_enter Tryd.func25, Tryd.ntmps25
    go_wp2_with fail
    refine hname.mono ?_
    rintro e w1 ⟨rfl, hd1⟩
    obtain ⟨h, t1⟩ := drawn_steps hd1 H0.out
    have Ht0 := Aside0.mk t1
    clear hd1 H0 t1 hname
    have H := Aside0.mk h
    have hsame := Lib.hid (steps_refl (h.more (show g ≤ g + 1 by omega)))
    obtain ⟨vs, bn, ba, vc, bt, vl, vals⟩ := q
    obtain ⟨A, cap, e, _⟩ := row_slice h.labels
    simp only at e
    subst e
    have c4 := (cell_at h.cells 4).1
    have c5 := (cell_at h.cells 5).1
    simp only [List.getElem?_toArray, List.getElem?_cons_zero, List.getElem?_cons_succ] at c4 c5
    have hl := h.taken.look hs
    have HS := Aside0.mk h.labels
    clear h
    cases hi : labIdx T.labels s with
    | some n =>
      have Hc := Lib.hid (show labelT T s = (T, 20) by unfold labelT; rw [Hok.out, hi]; rfl)
      rw [hi] at hl
      clear hi
      go_wp2_with fail
      go_ret
      rw [Hc.out]
      exact ⟨rfl, steps_from Ht0.out hsame.out⟩
    | none =>
      have Hi := Lib.hid hi
      rw [hi] at hl
      clear hi
      by_cases hf : 1024 ≤ T.labels.length
      · have Hc := Lib.hid (show labelT T s = (T, 22) by unfold labelT; rw [Hok.out, Hi.out]; simp [hf])
        have d3 : 1024 ≤ (T.labels.length : Int) := by omega
        go_wp2_with fail
        go_ret
        rw [Hc.out]
        exact ⟨rfl, steps_from Ht0.out hsame.out⟩
      · have d3 : (T.labels.length : Int) < 1024 := by omega
        have Hc := Lib.hid (show labelT T s = ({ T with labels := T.labels ++ [s] }, 0) by unfold labelT; rw [Hok.out, Hi.out]; simp [hf])
        clear hf
        obtain ⟨i0, hi, hz0, hz1, hz2⟩ := info_parts info9
        have HI := Aside0.mk hi
        have Hz0 := Aside0.mk hz0
        have Hz1 := Aside0.mk hz1
        have Hz2 := Aside0.mk hz2
        clear hi hz0 hz1 hz2
        go_wp2_with fail
        go_still_tail 10, (by kernel_rfl)
        change wpList _ _ _ _ _ w1.drew
        refine wp_store rfl _ _ _ rfl rfl rfl rfl (H.out.taken.move rfl) hs (by omega) (by omega) ?_
        intro w2 hm2 hg2
        have hlt := H.out.lt
        have hbt := tyOf_map H.out.taken
        have hb2 : ∀ k, k < w1.heap.size → k ≠ bt → w2.heap[k]? = w1.heap[k]? := fun k hk hne => hg2.block k hk (by simpa using hne)
        have hp2 := (hb2 p (hlt p (.inl rfl)) (ne_ty H.out.tp hbt (by decide))).trans H.out.cells
        have hs2 : w2.ownsRow 0 9 1 (.slice A T.labels.length cap) T.labels.length (T.labels.map Value.string) := own_move HS.out (fun k hk => hb2 k (HS.out.lt k hk).2 (ne_ty (tyOf_row HS.out hk) hbt (by decide)))
        have ht2 : Turns (fun k => k = bt) w1 w2 := (Turns.drewN w1 1).trans (Turns.of_grown (fp := fun k => k = bt) hg2 (fun k hk => (Option.some.inj hk).symm)) (fun k hk => .inl hk)
        have e5 := cell_at hp2 5
        simp only [List.getElem?_toArray, List.getElem?_cons_zero, List.getElem?_cons_succ] at e5
        obtain ⟨e5, f5⟩ := e5
        have Hb2 := Aside0.mk hb2
        have Hp2 := Aside0.mk hp2
        have Hs2 := Aside0.mk hs2
        have Ht2 := Aside0.mk ht2
        have Hm2 := Aside0.mk hm2
        have Hlt := Aside0.mk hlt
        clear hb2 hp2 hs2 ht2 hg2 hm2 hlt hbt c4 c5 hl
        go_wp2_with (at_builtin; refine wpList_append_own_at _ rfl (.tmp 40) (.tmp 42) 38 rfl 0 9 i0 (.string .empty) 1 16 Tryd.underlying38 HI.out Hz0.out Hz1.out Hz2.out rfl (by decide) _ _ _ rfl (Hs2.out.alloc _) ⟨w2.heap.size, 0, none⟩ 1 1 [.string s] rfl rfl (cell_one_new _ _ _) ?c2 (by unfold maxLen; omega) (by omega) (Nat.zero_le _) ?_)
        case c2 => rfl
        intro v' w3 hown3 hgrow3 hnil3 hat3
        clear hnil3
        have ht3 : Turns (fun k => (Value.slice A T.labels.length cap).ownBlock = some k) w2 w3 := (Turns.alloc _ w2 _).trans (Turns.of_grown (fp := fun k => (Value.slice A T.labels.length cap).ownBlock = some k) hgrow3 (fun k hk => hk)) (fun k hk => .inl hk)
        have hb3 : ∀ k, k < w2.heap.size → tyOf w2 k ≠ some 9 → w3.heap[k]? = w2.heap[k]? := fun k hk hty => ht3.block k hk (fun e => hty (tyOf_row Hs2.out e))
        have hpl2 : p < w2.heap.size := Nat.lt_of_lt_of_le (Hlt.out p (.inl rfl)) Ht2.out.size
        have hp3 := (hb3 p hpl2 (by rw [tyOf_cells Hp2.out]; decide)).trans Hp2.out
        have d0 := cell_at hp3 5
        simp only [List.getElem?_toArray, List.getElem?_cons_zero, List.getElem?_cons_succ] at d0
        obtain ⟨A', cap', e', _⟩ := row_slice hown3
        subst e'
        obtain ⟨d0, f0⟩ := d0
        have Hb3 := Aside0.mk hb3
        have Hp3 := Aside0.mk hp3
        have Ht3 := Aside0.mk ht3
        have Hown3 := Aside0.mk hown3
        have Hat3 := Aside0.mk hat3
        clear hb3 hp3 ht3 hown3 hat3 hgrow3 hpl2 e5 f5
        go_wp2_with fail
        go_ret
        rw [Hc.out]
        refine ⟨rfl, steps_from Ht0.out ?_⟩
        clear Hc hsame
        have h := H.out
        have hlt := Hlt.out
        have hat := Hat3.out
        have hbt := tyOf_map h.taken
        have hpt : tyOf w3 p = some 88 := tyOf_cells Hp3.out
        have hsz := Ht2.out.size
        have step : ∀ k, k ≠ p → (w3.setCell ⟨p, 5, none⟩ (.slice A' (T.labels.length + 1) cap')).heap[k]? = w3.heap[k]? := fun k h1 => Below.heap_setCell w3 ⟨p, 5, none⟩ _ k h1
        have row : ∀ k t, k < w1.heap.size → tyOf w1 k = t → t ≠ some 9 → t ≠ some 88 → k ≠ bt → (w3.setCell ⟨p, 5, none⟩ (.slice A' (T.labels.length + 1) cap')).heap[k]? = w1.heap[k]? := fun k t hk ht h1 h2 h3 =>
          (step k (ne_ty ht h.tp h2)).trans ((Hb3.out k (by omega) (by rw [tyOf_same (Hb2.out k hk h3), ht]; exact h1)).trans (Hb2.out k hk h3))
        refine ⟨⟨vs, bn, ba, vc, bt, .slice A' (T.labels.length + 1) cap', vals⟩, ⟨?_, ?_, ?_, ?_, ?_, h.na, h.nt, h.at_, ?_, ?_, ?_⟩, ?_, ?_⟩
        · rw [set_block Hp3.out]
          rfl
        · exact own_move h.syms (fun k hk => row k _ (h.syms.lt k hk).2 (tyOf_row h.syms hk) (by decide) (by decide) (ne_ty (tyOf_row h.syms hk) hbt (by decide)))
        · exact (h.numbers.move (row bn _ (hlt bn (by simp [Parts.has])) (tyOf_map h.numbers) (by decide) (by decide) h.nt)).more (by omega)
        · exact (h.active.move (row ba _ (hlt ba (by simp [Parts.has])) (tyOf_map h.active) (by decide) (by decide) h.at_)).more (by omega)
        · have hm := Hm2.out
          rw [← labIdx_snoc Hi.out] at hm
          refine hm.move ?_
          have hb2 : tyOf w2 bt = none := tyOf_map Hm2.out
          exact (step bt (ne_ty hbt h.tp (by decide))).trans (Hb3.out bt Hm2.out.lt (by rw [hb2]; decide))
        · exact own_move h.scopes (fun k hk => row k _ (h.scopes.lt k hk).2 (tyOf_row h.scopes hk) (by decide) (by decide) (ne_ty (tyOf_row h.scopes hk) hbt (by decide)))
        · exact h.vars.move (fun v hv k hk => row k _ (hlt k (.inr (.inr (.inr (.inr (.inr (.inr (.inr ⟨v, hv, hk⟩)))))))) (h.tvars hv hk) (by decide) (by decide) (ne_ty (h.tvars hv hk) hbt (by decide)))
        · have hl : (T.labels ++ [s]).length = T.labels.length + 1 := by simp
          have hl2 : (T.labels ++ [s]).map Value.string = T.labels.map Value.string ++ [.string s] := by simp
          show World.ownsRow _ _ _ _ _ (T.labels ++ [s]).length ((T.labels ++ [s]).map Value.string)
          rw [hl, hl2]
          exact own_move Hown3.out (fun k hk => step k (ne_ty (tyOf_row Hown3.out hk) hpt (by decide)))
        · intro k hk
          simp only [Parts.has] at hk ⊢
          rcases hk with hk | hk | hk | hk | hk | hk | hk | hk
          · exact .inl (.inl hk)
          · exact .inl (.inr (.inl hk))
          · exact .inl (.inr (.inr (.inl hk)))
          · exact .inl (.inr (.inr (.inr (.inl hk))))
          · exact .inl (.inr (.inr (.inr (.inr (.inl hk)))))
          · exact .inl (.inr (.inr (.inr (.inr (.inr (.inl hk))))))
          · rcases hat with e | e
            · rw [e] at hk
              exact .inl (.inr (.inr (.inr (.inr (.inr (.inr (.inl hk)))))))
            · rw [e] at hk
              right
              have := Option.some.inj hk
              omega
          · exact .inl (.inr (.inr (.inr (.inr (.inr (.inr (.inr hk)))))))
        · refine Turns.trans (Turns.trans (Ht2.out.mono ?_) (Ht3.out.mono (fp' := Parts.has ⟨vs, bn, ba, vc, bt, .slice A T.labels.length cap, vals⟩ p) ?_) (fun _ hk => .inl hk)) (Turns.setCell (fp := fun k => k = p) w3 ⟨p, 5, none⟩ _ rfl) ?_
          · rintro k rfl; simp [Parts.has]
          · intro k hk; simp [Parts.has, hk]
          · rintro k rfl; left; simp [Parts.has]
end Go.Proofs.YtpoojimmponklaaDoor.SymLabel
