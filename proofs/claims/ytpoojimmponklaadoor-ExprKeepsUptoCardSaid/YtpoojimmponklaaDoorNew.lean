/- New makes an empty table; Labels tells a copy of the labels. -/
import Derived.Test.YtpoojimmponklaaDoorClose
namespace Go.Proofs.YtpoojimmponklaaDoor.SymNew
open Go.RowKit Go.Maps Go.Proofs.YtpoojimmponklaaDoor.SymTab Go.Proofs.YtpoojimmponklaaDoor.SymHeap Go.Proofs.YtpoojimmponklaaDoor.SymReads Go.Proofs.YtpoojimmponklaaDoor.SymAdd Go.Proofs.YtpoojimmponklaaDoor.SymConst
open Go.Proofs.YtpoojimmponklaaDoorW.PrintWords
set_option linter.unusedVariables false

def None : Nat → Prop := fun _ => False

set_option maxHeartbeats 1000000 in
theorem new_calls {w : World} :
    Calls Tryd.prog 33 #[] w fun e w' => ∃ p q, e = .returned (.pointer (some ⟨p, 0, none⟩)) ∧ Holds w' p 0 empty q ∧ (∀ k, q.has p k → w.heap.size ≤ k) ∧ Turns None w w' := by
  have hmm := @run_makeMap Tryd.prog
  go_enter Tryd.func33, Tryd.ntmps33
  go_wp2
  go_ret
  refine ⟨_, ⟨.slice none 0 0, w.heap.size, w.heap.size + 1, .slice none 0 0, w.heap.size + 1 + 1, .slice none 0 0, []⟩, rfl, ?_, ?_, ?_⟩
  · have m1 := MapIs.made w
    have m2 := MapIs.made (w.alloc (Obj.map #[] 0))
    have m3 := MapIs.made ((w.alloc (Obj.map #[] 0)).alloc (Obj.map #[] 0))
    have s1 : (w.alloc (Obj.map #[] 0)).heap.size = w.heap.size + 1 := by simp
    have s2 : ((w.alloc (Obj.map #[] 0)).alloc (Obj.map #[] 0)).heap.size = w.heap.size + 1 + 1 := by simp
    have s3 : (((w.alloc (Obj.map #[] 0)).alloc (Obj.map #[] 0)).alloc (Obj.map #[] 0)).heap.size = w.heap.size + 1 + 1 + 1 := by simp
    rw [s1] at m2
    rw [s2] at m3
    have old : ∀ (W : World) (o : Obj) (k : Nat), k < W.heap.size → (W.alloc o).heap[k]? = W.heap[k]? := fun W o k hk => Below.heap_alloc W o k hk
    refine ⟨?_, World.ownsRow_nil _ _ _ _, ?_, ?_, ?_, by simp, by simp; omega, by simp, World.ownsRow_nil _ _ _ _, ⟨rfl, fun j v xs hv _ => by simp at hv, List.Pairwise.nil⟩, World.ownsRow_nil _ _ _ _⟩
    · have := heap_alloc_new (((w.alloc (Obj.map #[] 0)).alloc (Obj.map #[] 0)).alloc (Obj.map #[] 0)) (Obj.cells #[Value.slice none 0 0, Value.map (some w.heap.size), Value.map (some (w.heap.size + 1)), Value.slice none 0 0, Value.map (some (w.heap.size + 1 + 1)), Value.slice none 0 0] 88)
      rw [s3] at this
      exact this
    · exact m1.move ((old _ _ _ (by rw [s3]; omega)).trans ((old _ _ _ (by rw [s2]; omega)).trans (old _ _ _ (by rw [s1]; omega))))
    · exact m2.move ((old _ _ _ (by rw [s3]; omega)).trans (old _ _ _ (by rw [s2]; omega)))
    · exact m3.move (old _ _ _ (by rw [s3]; omega))
  · intro k hk
    rcases hk with hk | hk | hk | hk | hk | hk | hk | ⟨v, hv, hk⟩
    · omega
    · simp only at hk; omega
    · simp only at hk; omega
    · simp only at hk; omega
    · simp [Value.ownBlock] at hk
    · simp [Value.ownBlock] at hk
    · simp [Value.ownBlock] at hk
    · simp at hv
  · exact Turns.trans (Turns.trans (Turns.trans (Turns.alloc _ _ _) (Turns.alloc None _ _) (fun _ h => h.elim)) (Turns.alloc None _ _) (fun _ h => h.elim)) (Turns.alloc None _ _) (fun _ h => h.elim)

theorem info9 : (Tryd.prog.info? 9).map (fun i => (i.zero, i.size, i.bytes)) = some (some (.string .empty), 1, 16) := by kernel_rfl

set_option maxHeartbeats 1000000 in
set_option maxRecDepth 100000 in
/-- slices.Clone of a list of texts that stands as a row. -/
theorem clone_calls {w : World} {v : Value} {l : List ByteArray} (h : w.ownsRow 0 9 1 v l.length (l.map Value.string)) (hl : l.length ≤ 1048576) :
    Calls Tryd.prog 62 #[v] w fun e w' => ∃ v', e = .returned v' ∧ w'.ownsRow w.heap.size 9 1 v' l.length (l.map Value.string) ∧ Turns None w w' := by
  have H := Aside0.mk h
  rcases h.2 with ⟨rfl, h0⟩ | ⟨g, cap, cur, rfl, hb, hg, hn, hc, hs, ht⟩
  · have hl0 : l = [] := List.eq_nil_of_length_eq_zero h0
    subst hl0
    have he := @Lib.run_eql_slice_nil Tryd.prog
    go_enter Tryd.func62, Tryd.ntmps62
    go_wp2
    go_ret
    exact ⟨_, rfl, World.ownsRow_nil _ _ _ _, Turns.refl _ _⟩
  · obtain ⟨i0, hi, hz0, hz1, hz2⟩ := info_parts info9
    have HI := Aside0.mk hi
    have Hz0 := Aside0.mk hz0
    have Hz1 := Aside0.mk hz1
    have Hz2 := Aside0.mk hz2
    have hlt : g < w.heap.size := (Array.getElem?_eq_some_iff.1 hg).1
    clear hi hz0 hz1 hz2 hg hn hc hs ht hb h
    have he := @Lib.run_eql_slice_nil Tryd.prog
    go_enter Tryd.func62, Tryd.ntmps62
    have Hown := Aside0.mk (World.ownsRow_made (base := w.heap.size) (e := 9) (size := 1) w #[] 0 (Nat.le_refl _) (by unfold maxLen; omega) rfl)
    have Hc := Aside0.mk (show ∀ j u, (l.map Value.string)[j]? = some u → (w.alloc (.cells #[] 9)).cell? ((⟨g, 0, none⟩ : Addr).add j) = some u from fun j u hu => (H.out.alloc (.cells #[] 9)).cells rfl j u hu)
    go_wp2_with (at_builtin; refine wpList_append_own_at _ rfl (.tmp 5) (.tmp 6) 38 rfl w.heap.size 9 i0 (.string .empty) 1 16 Tryd.underlying38 HI.out Hz0.out Hz1.out Hz2.out rfl (by decide) _ 0 [] rfl Hown.out ⟨g, 0, none⟩ l.length cap (l.map Value.string) rfl (by simp) Hc.out ?c2 (by unfold maxLen; omega) (by omega) (by simp) ?_)
    case c2 =>
      intro u hu
      obtain ⟨s, _, rfl⟩ := List.mem_map.1 hu
      rfl
    intro v' w1 hown1 hgrow1 hnil1 hat1
    have Hown1 := Aside0.mk hown1
    have Hgrow1 := Aside0.mk hgrow1
    clear hown1 hgrow1 hnil1 hat1
    go_wp2_with fail
    go_ret
    refine ⟨_, rfl, ?_, ?_⟩
    · exact Hown1.out
    · refine ⟨Hgrow1.out.os, Hgrow1.out.tape, Hgrow1.out.output, ?_, fun k hk _ => ?_⟩
      · have := Hgrow1.out.size
        simp at this
        omega
      · exact (Hgrow1.out.block k (by simp; omega) (by simp [Value.ownBlock]; omega)).trans ((World.grownBy_alloc w (.cells #[] 9) none).block k hk (by simp))

theorem labels_calls {w : World} {p g : Nat} {T : Tab} {fp : Nat → Prop} (h : TabIs w p g T fp) :
    Calls Tryd.prog 29 #[.pointer (some ⟨p, 0, none⟩)] w fun e w' => ∃ v', e = .returned v' ∧ Kd.R Kd.string 9 w' w.heap.size (fun k => w.heap.size ≤ k) v' T.labels ∧ Turns None w w' := by
  obtain ⟨hw, ⟨vs, bn, ba, vc, bt, vl, vals⟩, h, _⟩ := h
  have hl := hw.labels
  have hcl := clone_calls h.labels (by omega)
  obtain ⟨A, cap, e, _⟩ := row_slice h.labels
  simp only at e hcl
  subst e
  have c5 := (cell_at h.cells 5).1
  simp only [List.getElem?_toArray, List.getElem?_cons_zero, List.getElem?_cons_succ] at c5
  clear h hl hw
  go_enter Tryd.func29, Tryd.ntmps29
  go_wp2_with fail
  refine hcl.mono ?_
  rintro e w' ⟨v', rfl, ho, ht⟩
  have Ho := Aside0.mk ho
  have Ht := Aside0.mk ht
  clear ho ht c5
  go_wp2_with fail
  go_ret
  exact ⟨_, rfl, Kd.R_of_own (enc := Value.string) Ho.out (fun k hk => (Ho.out.lt k hk).1), Ht.out⟩
end Go.Proofs.YtpoojimmponklaaDoor.SymNew
