/- The innermost scope takes one number more: what the memory then says. -/
import Derived.Test.YtpoojimmponklaaDoorConst
namespace Go.Proofs.YtpoojimmponklaaDoor.SymPut
open Go.RowKit Go.Maps Go.Proofs.YtpoojimmponklaaDoor.SymTab Go.Proofs.YtpoojimmponklaaDoor.SymHeap Go.Proofs.YtpoojimmponklaaDoor.SymReads
open Go.Proofs.YtpoojimmponklaaDoorW.PrintWords (own_move)

def numRow (xs : List Nat) : List Value := xs.map fun (k : Nat) => Value.int .i64 (k : Int)
theorem vars_split {w : World} {us : List Value} {v : Value} {ls : List (List Nat)} {xs : List Nat} (h : Vars w (us ++ [v]) (ls ++ [xs])) :
    Vars w us ls ∧ w.ownsRow 0 3 1 v xs.length (numRow xs) ∧ ∀ u, u ∈ us → ∀ k, u.ownBlock = some k → v.ownBlock ≠ some k := by
  obtain ⟨h1, h2, h3⟩ := h
  have hl : us.length = ls.length := by simpa using h1
  rw [List.pairwise_append] at h3
  refine ⟨⟨hl, fun j u ys hu hy => ?_, h3.1⟩, ?_, fun u hu k hk => h3.2.2 u hu v (by simp) k hk⟩
  · have hj := (List.getElem?_eq_some_iff.1 hu).1
    exact h2 j u ys (by rw [List.getElem?_append_left hj]; exact hu) (by rw [List.getElem?_append_left (by omega)]; exact hy)
  · exact h2 us.length v xs (by simp) (by rw [hl]; simp)
theorem vars_join {w : World} {us : List Value} {v : Value} {ls : List (List Nat)} {xs : List Nat} (h : Vars w us ls) (hv : w.ownsRow 0 3 1 v xs.length (numRow xs)) (hd : ∀ u, u ∈ us → ∀ k, u.ownBlock = some k → v.ownBlock ≠ some k) : Vars w (us ++ [v]) (ls ++ [xs]) := by
  obtain ⟨h1, h2, h3⟩ := h
  refine ⟨by simp [h1], fun j u ys hu hy => ?_, ?_⟩
  · rw [List.getElem?_append] at hu hy
    split at hu
    · rename_i hj
      rw [if_pos (by omega)] at hy
      exact h2 j u ys hu hy
    · rename_i hj
      rw [if_neg (by omega)] at hy
      have e0 : j - us.length = 0 := by
        have := (List.getElem?_eq_some_iff.1 hu).1
        simpa using this
      have e1 : j - ls.length = 0 := by omega
      rw [e0] at hu
      rw [e1] at hy
      have hu' : u = v := by simpa using hu.symm
      have hy' : ys = xs := by simpa using hy.symm
      subst hu' hy'
      exact hv
  · rw [List.pairwise_append]
    refine ⟨h3, by simp, fun u hu x hx k hk => ?_⟩
    simp only [List.mem_singleton] at hx
    subst hx
    exact hd u hu k hk

theorem put_steps {w2 w3 : World} {p g : Nat} {T : Tab} {q : Parts} (h : Holds w2 p g T q) {ls : List (List Nat)} {xs : List Nat} (hT : T.scopes = ls ++ [xs]) {us : List Value} {v : Value} (hq : q.vals = us ++ [v])
    {sb cap gg cap4 : Nat} (hvc : q.vc = .slice (some ⟨sb, 0, none⟩) T.scopes.length cap) {n : Nat} {o : Obj}
    (hown : w3.ownsRow 0 3 1 (.slice (some ⟨gg, 0, none⟩) (xs.length + 1) cap4) (xs.length + 1) (numRow xs ++ [.int .i64 (n : Int)])) (hgrow : (w2.alloc o).drew.grownBy w3 v.ownBlock) (hat : v.ownBlock = some gg ∨ gg = w2.heap.size + 1) :
    TabSteps w2 (w3.setCell ⟨sb, T.scopes.length - 1, none⟩ (.slice (some ⟨gg, 0, none⟩) (xs.length + 1) cap4)) p g { T with scopes := addLast T.scopes n } q := by
  obtain ⟨vs, bn, ba, vc, bt, vl, vals⟩ := q
  simp only at hq hvc
  subst hq hvc
  have hv := h.vars
  rw [hT] at hv
  obtain ⟨hv1, hv2, hv3⟩ := vars_split hv
  have hlt := h.lt
  have hll : us.length = ls.length := hv1.1
  have hm : T.scopes.length - 1 = ls.length := by rw [hT]; simp
  have htsb : tyOf w2 sb = some 90 := tyOf_row h.scopes rfl
  have hsl : sb < w2.heap.size := (h.scopes.lt sb rfl).2
  have hg3 : ∀ k, k < w2.heap.size → v.ownBlock ≠ some k → w3.heap[k]? = w2.heap[k]? := fun k hk hn =>
    (hgrow.block k (by simp; omega) (Ne.symm hn)).trans ((World.grownBy_alloc w2 o none).block k hk (by simp))
  have hvt : ∀ k, v.ownBlock = some k → tyOf w2 k = some 3 := fun k hk => tyOf_row hv2 hk
  have hg3' : ∀ k, k < w2.heap.size → tyOf w2 k ≠ some 3 → w3.heap[k]? = w2.heap[k]? := fun k hk hn => hg3 k hk (fun e => hn (hvt k e))
  obtain ⟨nv, hnv⟩ : ∃ nv, nv = Value.slice (some ⟨gg, 0, none⟩) (xs.length + 1) cap4 := ⟨_, rfl⟩
  rw [← hnv] at hown ⊢
  have hnb : nv.ownBlock = some gg := by rw [hnv]; rfl
  have step : ∀ k, k ≠ sb → (w3.setCell ⟨sb, T.scopes.length - 1, none⟩ nv).heap[k]? = w3.heap[k]? := fun k h1 => Below.heap_setCell w3 ⟨sb, T.scopes.length - 1, none⟩ _ k h1
  have row : ∀ k t, k < w2.heap.size → tyOf w2 k = t → t ≠ some 3 → t ≠ some 90 → (w3.setCell ⟨sb, T.scopes.length - 1, none⟩ nv).heap[k]? = w2.heap[k]? := fun k t hk ht h1 h2 =>
    (step k (ne_ty ht htsb h2)).trans (hg3' k hk (by rw [ht]; exact h1))
  have hsb3 : w3.heap[sb]? = w2.heap[sb]? := hg3' sb hsl (by rw [htsb]; decide)
  have hgt : tyOf w3 gg = some 3 := tyOf_row hown hnb
  have hgsb : gg ≠ sb := ne_ty hgt ((tyOf_same hsb3).trans htsb) (by decide)
  refine ⟨⟨vs, bn, ba, .slice (some ⟨sb, 0, none⟩) T.scopes.length cap, bt, vl, us ++ [nv]⟩, ⟨?_, ?_, ?_, ?_, ?_, h.na, h.nt, h.at_, ?_, ?_, ?_⟩, ?_, ?_⟩
  · exact (row p _ (hlt p (.inl rfl)) h.tp (by decide) (by decide)).trans h.cells
  · exact own_move h.syms (fun k hk => row k _ (h.syms.lt k hk).2 (tyOf_row h.syms hk) (by decide) (by decide))
  · exact h.numbers.move (row bn _ (hlt bn (by simp [Parts.has])) (tyOf_map h.numbers) (by decide) (by decide))
  · exact h.active.move (row ba _ (hlt ba (by simp [Parts.has])) (tyOf_map h.active) (by decide) (by decide))
  · exact h.taken.move (row bt _ (hlt bt (by simp [Parts.has])) (tyOf_map h.taken) (by decide) (by decide))
  · show World.ownsRow _ _ _ _ _ (addLast T.scopes n).length _
    rw [addLast_length]
    have hs := h.scopes
    refine ⟨by have := hs.1; simp at this ⊢; omega, .inr ?_⟩
    rcases hs.2 with ⟨e, _⟩ | ⟨g', cap', cur, e, hb, hgg, hn, hc, hsz, htk⟩
    · cases e
    · simp only [Value.slice.injEq, Option.some.injEq, Addr.mk.injEq, and_true, true_and] at e
      obtain ⟨rfl, rfl⟩ := e
      refine ⟨sb, cap, cur.setIfInBounds (T.scopes.length - 1) nv, rfl, hb, set_block (hsb3.trans hgg) _ _, hn, hc, by simpa using hsz, ?_⟩
      rw [Array.toList_setIfInBounds, List.take_set, htk, hm]
      have : ls.length = us.length := hll.symm
      rw [this]
      simp
  · show Vars _ _ (addLast T.scopes n)
    have ea : addLast T.scopes n = ls ++ [xs ++ [n]] := by rw [hT, addLast_snoc]
    rw [ea]
    refine vars_join (hv1.move (fun u hu k hk => ?_)) ?_ ?_
    · have hkt := (h.tvars (v := u) (by simp [hu]) hk)
      have hkl : k < w2.heap.size := hlt k (.inr (.inr (.inr (.inr (.inr (.inr (.inr ⟨u, by simp [hu], hk⟩)))))))
      exact (step k (ne_ty hkt htsb (by decide))).trans (hg3 k hkl (hv3 u hu k hk))
    · have e : numRow (xs ++ [n]) = numRow xs ++ [.int .i64 (n : Int)] := by simp [numRow]
      have e2 : (xs ++ [n]).length = xs.length + 1 := by simp
      rw [e2, e]
      exact own_move hown (fun k hk => step k (by rw [hnb] at hk; cases hk; exact hgsb))
    · intro u hu k hk e
      rw [hnb] at e
      cases e
      have hkl : gg < w2.heap.size := hlt gg (.inr (.inr (.inr (.inr (.inr (.inr (.inr ⟨u, by simp [hu], hk⟩)))))))
      rcases hat with e | e
      · exact hv3 u hu gg hk e
      · omega
  · exact own_move h.labels (fun k hk => row k _ (h.labels.lt k hk).2 (tyOf_row h.labels hk) (by decide) (by decide))
  · intro k hk
    rcases hk with hk | hk | hk | hk | hk | hk | hk | ⟨u, hu, hk⟩
    · exact .inl (.inl hk)
    · exact .inl (.inr (.inl hk))
    · exact .inl (.inr (.inr (.inl hk)))
    · exact .inl (.inr (.inr (.inr (.inl hk))))
    · exact .inl (.inr (.inr (.inr (.inr (.inl hk)))))
    · exact .inl (.inr (.inr (.inr (.inr (.inr (.inl hk))))))
    · exact .inl (.inr (.inr (.inr (.inr (.inr (.inr (.inl hk)))))))
    · rcases List.mem_append.1 hu with hu | hu
      · exact .inl (.inr (.inr (.inr (.inr (.inr (.inr (.inr ⟨u, by simp [hu], hk⟩)))))))
      · simp only [List.mem_singleton] at hu
        subst hu
        rw [hnb] at hk
        cases hk
        rcases hat with e | e
        · exact .inl (.inr (.inr (.inr (.inr (.inr (.inr (.inr ⟨v, by simp, e⟩)))))))
        · right; omega
  · refine Turns.trans (Turns.trans (Turns.alloc _ w2 o) (Turns.trans (Turns.drewN (fp := fun k => v.ownBlock = some k) (w2.alloc o) 1) (Turns.of_grown (fp := fun k => v.ownBlock = some k) hgrow (fun k hk => hk)) (fun _ hk => .inl hk)) ?_) (Turns.setCell (fp := fun k => k = sb) w3 ⟨sb, T.scopes.length - 1, none⟩ _ rfl) ?_
    · intro k hk
      exact .inl (.inr (.inr (.inr (.inr (.inr (.inr (.inr ⟨v, by simp, hk⟩)))))))
    · rintro k rfl
      exact .inl (.inr (.inr (.inr (.inr (.inr (.inl rfl))))))
end Go.Proofs.YtpoojimmponklaaDoor.SymPut
