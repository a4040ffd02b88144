/- Open opens a scope. -/
import Derived.Test.YtpoojimmponklaaDoorConst
namespace Go.Proofs.YtpoojimmponklaaDoor.SymOpen
open Go.RowKit Go.Maps Go.Proofs.YtpoojimmponklaaDoor.SymTab Go.Proofs.YtpoojimmponklaaDoor.SymHeap Go.Proofs.YtpoojimmponklaaDoor.SymReads Go.Proofs.YtpoojimmponklaaDoor.SymAdd Go.Proofs.YtpoojimmponklaaDoor.SymConst
open Go.Proofs.YtpoojimmponklaaDoorW.PrintWords (Aside0 Drawn0 own_move)

theorem info90 : (Tryd.prog.info? 90).map (fun i => (i.zero, i.size, i.bytes)) = some (some (.agg #[.slice none 0 0]), 1, 24) := by kernel_rfl

theorem vars_snoc {w : World} {vals : List Value} {l : List (List Nat)} (h : Vars w vals l) : Vars w (vals ++ [.slice none 0 0]) (l ++ [[]]) := by
  obtain ⟨h1, h2, h3⟩ := h
  refine ⟨by simp [h1], fun j v xs hv hx => ?_, ?_⟩
  · rw [List.getElem?_append] at hv hx
    split at hv
    · rename_i hj
      rw [if_pos (by omega)] at hx
      exact h2 j v xs hv hx
    · rename_i hj
      rw [if_neg (by omega)] at hx
      have e1 : v = .slice none 0 0 := by
        cases hjj : j - vals.length with
        | zero => rw [hjj] at hv; simpa using hv.symm
        | succ m => rw [hjj] at hv; simp at hv
      have e2 : xs = [] := by
        cases hjj : j - l.length with
        | zero => rw [hjj] at hx; simpa using hx
        | succ m => rw [hjj] at hx; simp at hx
      subst e1 e2
      exact World.ownsRow_nil _ _ _ _
  · rw [List.pairwise_append]
    refine ⟨h3, by simp, fun u _ v hv k hk => ?_⟩
    simp only [List.mem_singleton] at hv
    subst hv
    simp [Value.ownBlock]

set_option maxHeartbeats 1000000 in
set_option maxRecDepth 100000 in
theorem open_calls {w : World} {p g : Nat} {T : Tab} {q : Parts} (h : Holds w p g T q) (hd : T.scopes.length ≤ 16) :
    Calls Tryd.prog 17 #[.pointer (some ⟨p, 0, none⟩)] w fun e w' => e = .returned (.int .i64 ((openS T).2 : Int)) ∧ TabSteps w w' p g (openS T).1 q := by
  have hsame := Lib.hid (steps_refl h)
  have H := Aside0.mk h
  obtain ⟨vs, bn, ba, vc, bt, vl, vals⟩ := q
  obtain ⟨A, cap, e, _⟩ := row_slice h.scopes
  simp only at e
  subst e
  have c3 := (cell_at h.cells 3).1
  simp only [List.getElem?_toArray, List.getElem?_cons_zero, List.getElem?_cons_succ] at c3
  have HS := Aside0.mk h.scopes
  clear h
  by_cases hsc : 16 ≤ T.scopes.length
  · have Hc := Lib.hid (show openS T = (T, 23) by unfold openS; rw [if_pos hsc])
    have d3 : 16 ≤ (T.scopes.length : Int) := by omega
    go_enter Tryd.func17, Tryd.ntmps17
    go_wp2_with fail
    go_ret
    rw [Hc.out]
    exact ⟨rfl, hsame.out⟩
  · have d3 : (T.scopes.length : Int) < 16 := by omega
    have Hc := Lib.hid (show openS T = ({ T with scopes := T.scopes ++ [[]] }, 0) by unfold openS; rw [if_neg hsc])
    clear hsc
    obtain ⟨i0, hi, hz0, hz1, hz2⟩ := info_parts info90
    have Hi := Aside0.mk hi
    have Hz0 := Aside0.mk hz0
    have Hz1 := Aside0.mk hz1
    have Hz2 := Aside0.mk hz2
    clear hi hz0 hz1 hz2
    go_enter Tryd.func17, Tryd.ntmps17
    go_wp2_with (at_builtin; refine wpList_append_own_at _ rfl (.tmp 13) (.tmp 15) 86 rfl 0 90 i0 (.agg #[.slice none 0 0]) 1 24 Tryd.underlying86 Hi.out Hz0.out Hz1.out Hz2.out rfl (by decide) _ _ _ rfl (HS.out.alloc _) ⟨w.heap.size, 0, none⟩ 1 1 [.slice none 0 0] rfl rfl (cell_one_new _ _ _) ?c2 (by unfold maxLen; omega) (by omega) (Nat.zero_le _) ?_)
    case c2 => rfl
    intro v' w1 hown1 hgrow1 hnil1 hat1
    clear hnil1
    have ht1 : Turns (fun k => (Value.slice A T.scopes.length cap).ownBlock = some k) w w1 := (Turns.alloc _ w _).trans (Turns.of_grown (fp := fun k => (Value.slice A T.scopes.length cap).ownBlock = some k) hgrow1 (fun k hk => hk)) (fun k hk => .inl hk)
    have hlt := H.out.lt
    have hb1 : ∀ k, k < w.heap.size → tyOf w k ≠ some 90 → w1.heap[k]? = w.heap[k]? := fun k hk hty => ht1.block k hk (fun e => hty (tyOf_row HS.out e))
    have hp1 : w1.heap[p]? = some (.cells #[vs, .map (some bn), .map (some ba), .slice A T.scopes.length cap, .map (some bt), vl] 88 (0, 0)) := (hb1 p (hlt p (.inl rfl)) (by rw [H.out.tp]; decide)).trans H.out.cells
    have d0 := cell_at hp1 3
    simp only [List.getElem?_toArray, List.getElem?_cons_zero, List.getElem?_cons_succ] at d0
    obtain ⟨A', cap', e', _⟩ := row_slice hown1
    subst e'
    obtain ⟨d0, f0⟩ := d0
    have Hb1 := Aside0.mk hb1
    have Hp1 := Aside0.mk hp1
    have Ht1 := Aside0.mk ht1
    have Hown1 := Aside0.mk hown1
    have Hlt := Aside0.mk hlt
    have Hat1 := Aside0.mk hat1
    clear c3 hb1 hp1 ht1 hown1 hlt hat1 hgrow1
    go_wp2_with fail
    go_ret
    rw [Hc.out]
    refine ⟨rfl, ?_⟩
    have h := H.out
    have hb1 := Hb1.out
    have hlt := Hlt.out
    have hat := Hat1.out
    have hpt : tyOf w1 p = some 88 := tyOf_cells Hp1.out
    have step : ∀ k, k ≠ p → (w1.setCell ⟨p, 3, none⟩ (.slice A' (T.scopes.length + 1) cap')).heap[k]? = w1.heap[k]? := fun k h1 => Below.heap_setCell w1 ⟨p, 3, none⟩ _ k h1
    have row : ∀ k t, k < w.heap.size → tyOf w k = t → t ≠ some 90 → t ≠ some 88 → (w1.setCell ⟨p, 3, none⟩ (.slice A' (T.scopes.length + 1) cap')).heap[k]? = w.heap[k]? := fun k t hk ht h1 h2 =>
      (step k (ne_ty ht h.tp h2)).trans (hb1 k hk (by rw [ht]; exact h1))
    refine ⟨⟨vs, bn, ba, .slice A' (T.scopes.length + 1) cap', bt, vl, vals ++ [.slice none 0 0]⟩, ⟨?_, ?_, ?_, ?_, ?_, h.na, h.nt, h.at_, ?_, ?_, ?_⟩, ?_, ?_⟩
    · rw [set_block Hp1.out]
      rfl
    · exact own_move h.syms (fun k hk => row k _ (h.syms.lt k hk).2 (tyOf_row h.syms hk) (by decide) (by decide))
    · exact h.numbers.move (row bn _ (hlt bn (by simp [Parts.has])) (tyOf_map h.numbers) (by decide) (by decide))
    · exact h.active.move (row ba _ (hlt ba (by simp [Parts.has])) (tyOf_map h.active) (by decide) (by decide))
    · exact h.taken.move (row bt _ (hlt bt (by simp [Parts.has])) (tyOf_map h.taken) (by decide) (by decide))
    · have hl : ({ T with scopes := T.scopes ++ [[]] } : Tab).scopes.length = T.scopes.length + 1 := by simp
      rw [hl]
      exact own_move Hown1.out (fun k hk => step k (ne_ty (tyOf_row Hown1.out hk) hpt (by decide)))
    · exact vars_snoc (h.vars.move (fun v hv k hk => row k _ (hlt k (.inr (.inr (.inr (.inr (.inr (.inr (.inr ⟨v, hv, hk⟩)))))))) (h.tvars hv hk) (by decide) (by decide)))
    · exact own_move h.labels (fun k hk => row k _ (h.labels.lt k hk).2 (tyOf_row h.labels hk) (by decide) (by decide))
    · intro k hk
      simp only [Parts.has] at hk ⊢
      rcases hk with hk | hk | hk | hk | hk | hk | hk | ⟨v, hv, hk⟩
      · exact .inl (.inl hk)
      · exact .inl (.inr (.inl hk))
      · exact .inl (.inr (.inr (.inl hk)))
      · exact .inl (.inr (.inr (.inr (.inl hk))))
      · exact .inl (.inr (.inr (.inr (.inr (.inl hk)))))
      · rcases hat with e | e
        · rw [e] at hk
          exact .inl (.inr (.inr (.inr (.inr (.inr (.inl hk))))))
        · rw [e] at hk
          right
          have := Option.some.inj hk
          omega
      · exact .inl (.inr (.inr (.inr (.inr (.inr (.inr (.inl hk)))))))
      · rcases List.mem_append.1 hv with hv | hv
        · exact .inl (.inr (.inr (.inr (.inr (.inr (.inr (.inr ⟨v, hv, hk⟩)))))))
        · simp only [List.mem_singleton] at hv
          subst hv
          simp [Value.ownBlock] at hk
    · refine Turns.trans (Ht1.out.mono ?_) (Turns.setCell (fp := fun k => k = p) w1 ⟨p, 3, none⟩ _ rfl) ?_
      · intro k hk; simp [Parts.has, hk]
      · rintro k rfl; left; simp [Parts.has]
end Go.Proofs.YtpoojimmponklaaDoor.SymOpen
