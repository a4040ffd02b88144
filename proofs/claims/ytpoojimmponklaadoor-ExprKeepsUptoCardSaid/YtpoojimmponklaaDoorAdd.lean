/- add makes a new symbol. -/
import Derived.Test.YtpoojimmponklaaDoorReads
import Derived.OwnWalk
namespace Go.Proofs.YtpoojimmponklaaDoor.SymAdd
open Go.RowKit Go.Maps Go.Proofs.YtpoojimmponklaaDoor.SymTab Go.Proofs.YtpoojimmponklaaDoor.SymHeap Go.Proofs.YtpoojimmponklaaDoor.SymReads
open Go.Proofs.YtpoojimmponklaaDoorW.PrintWords (Aside0 Drawn0 own_move)

theorem info93 : (Tryd.prog.info? 93).map (fun i => (i.zero, i.size, i.bytes)) = some (some (.agg #[.string .empty, .bool false]), 2, 24) := by kernel_rfl

theorem cells_two_new (w : World) (x y : Value) (t : TypeId) : ∀ j u, [x, y][j]? = some u → (w.alloc (.cells #[x, y] t)).cell? ((⟨w.heap.size, 0, none⟩ : Addr).add j) = some u := by
  intro j u hu
  match j, hu with
  | 0, hu => simp at hu; subst hu; simp [Addr.add]
  | 1, hu => simp at hu; subst hu; simp [Addr.add]

set_option maxHeartbeats 1000000 in
set_option maxRecDepth 100000 in
theorem add_calls {w : World} {p g : Nat} {T : Tab} {q : Parts} (h : Holds w p g T q) (s : ByteArray) (b : Bool) (hs : s.size ≤ 32) (hnew : idx T.syms s = none) (hfew : T.syms.length < 512) (hg : g < maxLen) :
    Calls Tryd.prog 59 #[.pointer (some ⟨p, 0, none⟩), .string s, .bool b] w fun e w' => e = .returned (.tuple #[.int .i64 (T.syms.length : Int), .int .i64 0]) ∧ TabSteps w w' p (g + 1) (added T s b) q := by
  obtain ⟨vs, bn, ba, vc, bt, vl, vals⟩ := q
  have H := Aside0.mk h
  obtain ⟨A, cap, e, _⟩ := row_slice h.syms
  simp only at e
  subst e
  have c0 := (cell_at h.cells 0).1
  simp only [List.getElem?_toArray, List.getElem?_cons_zero] at c0
  have hlen : ((T.syms.length : Int)) < 512 := by omega
  obtain ⟨i0, hi, hz0, hz1, hz2⟩ := info_parts info93
  have HS := Aside0.mk h.syms
  have Hi := Aside0.mk hi
  have Hz0 := Aside0.mk hz0
  have Hz1 := Aside0.mk hz1
  have Hz2 := Aside0.mk hz2
  clear h hi hz0 hz1 hz2
  go_enter Tryd.func59, Tryd.ntmps59
  go_wp2_with (at_builtin; refine wpList_append_own_at _ rfl (.tmp 19) (.tmp 23) 84 rfl 0 93 i0 (.agg #[.string .empty, .bool false]) 2 24 Tryd.underlying84 Hi.out Hz0.out Hz1.out Hz2.out rfl (by decide) _ _ _ rfl (HS.out.alloc _) ⟨w.heap.size, 0, none⟩ 1 1 [.string s, .bool b] rfl rfl (cells_two_new _ _ _ _) ?c2 (by unfold maxLen; omega) (by omega) (Nat.zero_le _) ?_)
  case c2 => exact ⟨rfl, rfl⟩
  intro v' w1 hown1 hgrow1 hnil1 hat1
  clear hnil1
  have ht1 : Turns (fun k => (Value.slice A T.syms.length cap).ownBlock = some k) w w1 := (Turns.alloc _ w _).trans (Turns.of_grown (fp := fun k => (Value.slice A T.syms.length cap).ownBlock = some k) hgrow1 (fun k hk => hk)) (fun k hk => .inl hk)
  have hlt := H.out.lt
  have hb1 : ∀ k, k < w.heap.size → tyOf w k ≠ some 93 → w1.heap[k]? = w.heap[k]? := fun k hk hty => ht1.block k hk (fun e => hty (tyOf_row HS.out e))
  have hp1 : w1.heap[p]? = some (.cells #[.slice A T.syms.length cap, .map (some bn), .map (some ba), vc, .map (some bt), vl] 88 (0, 0)) := (hb1 p (hlt p (.inl rfl)) (by rw [H.out.tp]; decide)).trans H.out.cells
  have d0 := cell_at hp1 0
  have d1 := cell_at hp1 1
  simp only [List.getElem?_toArray, List.getElem?_cons_zero, List.getElem?_cons_succ] at d0 d1
  have hmap : MapIs (w1.setCell ⟨p, 0, none⟩ v') bn g (idx T.syms) := by
    refine H.out.numbers.move ?_
    have hbn : bn < w.heap.size := hlt bn (.inr (.inl rfl))
    have hne : bn ≠ p := ne_ty (tyOf_map H.out.numbers) H.out.tp (by decide)
    exact (Below.heap_setCell w1 ⟨p, 0, none⟩ v' bn hne).trans (hb1 bn hbn (by rw [tyOf_map H.out.numbers]; decide))
  obtain ⟨A', cap', e', _⟩ := row_slice hown1
  subst e'
  obtain ⟨d0, f0⟩ := d0
  obtain ⟨d1, _⟩ := d1
  have Hb1 := Aside0.mk hb1
  have Hp1 := Aside0.mk hp1
  have Ht1 := Aside0.mk ht1
  have Hown1 := Aside0.mk hown1
  have Hlt := Aside0.mk hlt
  have Hat1 := Aside0.mk hat1
  clear c0 hb1 hp1 ht1 hown1 hlt hat1 hgrow1
  go_wp2_with (at_mapUpdate; refine wp_store rfl _ _ _ rfl rfl rfl rfl hmap (by unfold maxLen; omega) hg (by omega) ?_; intro w2 hm2 hg2)
  go_ret2
  refine ⟨rfl, ?_⟩
  have h := H.out
  have hb1 := Hb1.out
  have hlt := Hlt.out
  have hat := Hat1.out
  have hpt : tyOf w1 p = some 88 := tyOf_cells Hp1.out
  have hbn : tyOf w bn = none := tyOf_map h.numbers
  have hbn1 : tyOf w1 bn = none := (tyOf_same (hb1 bn (hlt bn (.inr (.inl rfl))) (by rw [hbn]; decide))).trans hbn
  -- what is neither the table's own block, nor the numbers' map: as it was behind the append
  have step : ∀ k, k < w1.heap.size → k ≠ p → k ≠ bn → w2.heap[k]? = w1.heap[k]? := fun k hk h1 h2 =>
    (hg2.block k (by simp [World.setCell]; exact hk) (by simpa using h2)).trans (Below.heap_setCell w1 ⟨p, 0, none⟩ _ k h1)
  have hsz := Ht1.out.size
  have all : ∀ k, k < w.heap.size → tyOf w k ≠ some 93 → k ≠ p → k ≠ bn → w2.heap[k]? = w.heap[k]? := fun k hk h1 h2 h3 =>
    (step k (by omega) h2 h3).trans (hb1 k hk h1)
  have row : ∀ k t, k < w.heap.size → tyOf w k = some t → t ≠ 93 → t ≠ 88 → w2.heap[k]? = w.heap[k]? := fun k t hk ht h1 h2 =>
    all k hk (by rw [ht]; simpa using h1) (ne_ty ht h.tp (by simpa using h2)) (ne_ty ht hbn (by simp))
  refine ⟨⟨.slice A' (T.syms.length + 1) cap', bn, ba, vc, bt, vl, vals⟩, ⟨?_, ?_, ?_, ?_, ?_, h.na, h.nt, h.at_, ?_, ?_, ?_⟩, ?_, ?_⟩
  · rw [hg2.block p (by simp [World.setCell]; have := hlt p (.inl rfl); omega) (by have := ne_ty hpt hbn1 (by decide); simpa using this), set_block Hp1.out]
    rfl
  · have hl : (added T s b).syms = T.syms ++ [(s, b)] := rfl
    rw [hl, List.length_append, List.length_singleton, symCells_snoc]
    refine own_move Hown1.out (fun k hk => ?_)
    have ht := tyOf_row Hown1.out hk
    exact step k (Hown1.out.lt k hk).2 (ne_ty ht hpt (by decide)) (ne_ty ht hbn1 (by decide))
  · have := hm2
    rw [← idx_snoc (b := b) hnew] at this
    exact this
  · have hba := tyOf_map h.active
    exact (h.active.move (all ba (hlt ba (by simp [Parts.has])) (by rw [hba]; decide) (ne_ty hba h.tp (by decide)) (Ne.symm h.na))).more (by omega)
  · have hbt := tyOf_map h.taken
    exact (h.taken.move (all bt (hlt bt (by simp [Parts.has])) (by rw [hbt]; decide) (ne_ty hbt h.tp (by decide)) (Ne.symm h.nt))).more (by omega)
  · exact own_move h.scopes (fun k hk => row k 90 (h.scopes.lt k hk).2 (tyOf_row h.scopes hk) (by decide) (by decide))
  · exact h.vars.move (fun v hv k hk => row k 3 (hlt k (.inr (.inr (.inr (.inr (.inr (.inr (.inr ⟨v, hv, hk⟩)))))))) (h.tvars hv hk) (by decide) (by decide))
  · exact own_move h.labels (fun k hk => row k 9 (h.labels.lt k hk).2 (tyOf_row h.labels hk) (by decide) (by decide))
  · intro k hk
    simp only [Parts.has] at hk ⊢
    rcases hk with hk | hk | hk | hk | hk | hk
    · exact .inl (.inl hk)
    · exact .inl (.inr (.inl hk))
    · exact .inl (.inr (.inr (.inl hk)))
    · exact .inl (.inr (.inr (.inr (.inl hk))))
    · rcases hat with e | e
      · rw [e] at hk
        exact .inl (.inr (.inr (.inr (.inr (.inl hk)))))
      · rw [e] at hk
        right
        have := Option.some.inj hk
        omega
    · exact .inl (.inr (.inr (.inr (.inr (.inr hk)))))
  · refine Turns.trans (Turns.trans (Ht1.out.mono ?_) (Turns.setCell (fp := fun k => k = p) w1 ⟨p, 0, none⟩ _ rfl) ?_) (Turns.of_grown (fp := fun k => k = bn) hg2 (fun k hk => (Option.some.inj hk).symm)) ?_
    · intro k hk; simp [Parts.has, hk]
    · rintro k rfl; left; simp [Parts.has]
    · rintro k rfl; left; simp [Parts.has]
end Go.Proofs.YtpoojimmponklaaDoor.SymAdd
