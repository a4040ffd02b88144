/- states tells which symbols are active. -/
import Derived.Test.YtpoojimmponklaaDoorBeside
namespace Go.Proofs.YtpoojimmponklaaDoor.SymStates
open Go.RowKit Go.Maps Go.Proofs.YtpoojimmponklaaDoor.SymTab Go.Proofs.YtpoojimmponklaaDoor.SymHeap Go.Proofs.YtpoojimmponklaaDoor.SymApi Go.Proofs.YtpoojimmponklaaDoor.SymScript Go.Proofs.YtpoojimmponklaaDoor.SymReads Go.Proofs.YtpoojimmponklaaDoor.SymBeside
open Go.Proofs.YtpoojimmponklaaDoorW.PrintWords (Aside0 Drawn0 own_move)
set_option linter.unusedVariables false

theorem info4 : (Tryd.prog.info? 4).map (fun i => (i.zero, i.size, i.bytes)) = some (some (.bool false), 1, 1) := by kernel_rfl
/-- Which of the first n symbols are active. -/
def acts (T : Tab) (n : Nat) : List Value := (List.range n).map fun (k : Nat) => Value.bool (activeT T k)
theorem acts_succ (T : Tab) (n : Nat) : acts T (n + 1) = acts T n ++ [.bool (activeT T n)] := by simp [acts, List.range_succ]
theorem acts_len (T : Tab) (n : Nat) : (acts T n).length = n := by simp [acts]

set_option maxHeartbeats 2000000 in
set_option maxRecDepth 100000 in
theorem states_calls {w : World} {p g : Nat} {T : Tab} {fp : Nat → Prop} (h : TabIs w p g T fp) :
    Calls Tryd.prog 15 #[.pointer (some ⟨p, 0, none⟩)] w fun e w' => ∃ v, e = .returned v ∧ w'.ownsRow w.heap.size 4 1 v T.syms.length (acts T T.syms.length) ∧ Below w.heap.size w w' := by
  have hfew := h.1.few
  have H := Aside0.mk h.bound
  clear h
  go_enter Tryd.func15, Tryd.ntmps15
  go_wp2_with fail
  go_loopw [3, 4] (fun v3 v4 wr => ∃ n : Nat, n ≤ T.syms.length ∧ v4 = .int .i64 n ∧ Aside0 (wr.ownsRow w.heap.size 4 1 v3 n (acts T n)) ∧ Aside0 (Below w.heap.size w wr)) (fun _ v4 _ => T.syms.length - (intOf v4).toNat)
  case atStart => exact ⟨0, by omega, rfl, ⟨World.ownsRow_nil _ _ _ _⟩, ⟨Below.refl _ _⟩⟩
  case round =>
    obtain ⟨n, hn, rfl, HO, HB⟩ := hrel
    have HT := Aside0.mk (H.out.move (w' := wr) (fun k hk => HB.out.block k hk.2))
    by_cases hlt : n < T.syms.length
    · obtain ⟨i0, hi, hz0, hz1, hz2⟩ := info_parts info4
      have HI := Aside0.mk hi
      have Hz0 := Aside0.mk hz0
      have Hz1 := Aside0.mk hz1
      have Hz2 := Aside0.mk hz2
      clear hi hz0 hz1 hz2
      obtain ⟨A, cap, e, _⟩ := row_slice HO.out
      subst e
      go_wp2_with fail
      refine (count_calls HT.out).mono ?_
      rintro e w2 ⟨rfl, ⟨m, rfl⟩⟩
      go_wp2_with fail
      refine (active_calls (HT.out.move (w' := wr.drewN m) (fun _ _ => rfl)) n).mono ?_
      rintro e w3 ⟨rfl, ⟨m2, rfl⟩⟩
      have hs := acts_succ T n
      obtain ⟨b, hb⟩ : ∃ b, b = activeT T n := ⟨_, rfl⟩
      rw [← hb] at hs ⊢
      have Hs := Aside0.mk hs
      clear hs hb
      obtain ⟨wq, hwq⟩ : ∃ wq, wq = (wr.drewN m).drewN m2 := ⟨_, rfl⟩
      have HOq := Aside0.mk (show wq.ownsRow w.heap.size 4 1 (.slice A n cap) n (acts T n) from by rw [hwq]; exact own_move HO.out (fun _ _ => rfl))
      have HBq := Aside0.mk (show Below w.heap.size w wq from by rw [hwq]; exact ⟨HB.out.os, HB.out.tape, HB.out.output, HB.out.size, HB.out.block⟩)
      rw [← hwq]
      clear hwq HO HB HT
      go_wp2_with (at_builtin; refine wpList_append_own_at _ rfl (.tmp 11) (.tmp 15) 29 rfl w.heap.size 4 i0 (.bool false) 1 1 Tryd.underlying29 HI.out Hz0.out Hz1.out Hz2.out rfl (by decide) _ _ _ rfl (HOq.out.alloc _) ⟨wq.heap.size, 0, none⟩ 1 1 [.bool b] rfl rfl (cell_one_new _ _ _) ?c2 (by unfold maxLen; omega) (by omega) (by have := HBq.out.size; simp; omega) ?_)
      case c2 => intro u hu; simp at hu; subst hu; rfl
      intro v' w4 hown4 hgrow4 hnil4 hat4
      have hb4 : Below w.heap.size w w4 := (HBq.out.alloc HBq.out.size _).grown hgrow4 (by have := HBq.out.size; simp; omega) (fun k hk => (HOq.out.lt k hk).1)
      have HO4 := Aside0.mk (show w4.ownsRow w.heap.size 4 1 v' (n + 1) (acts T (n + 1)) from by rw [Hs.out]; exact hown4)
      have HB4 := Aside0.mk hb4
      clear hown4 hgrow4 hnil4 hat4 hb4
      go_wp2_with fail
      go_roundw
      case rel => exact ⟨n + 1, by omega, by go_num, HO4, HB4⟩
      case measure => simp [intOf]; omega
    · have hn' : n = T.syms.length := by omega
      subst hn'
      go_wp2_with fail
      refine (count_calls HT.out).mono ?_
      rintro e w2 ⟨rfl, ⟨m, rfl⟩⟩
      go_wp2_with fail
      go_ret
      exact ⟨_, rfl, own_move HO.out (fun _ _ => rfl), ⟨HB.out.os, HB.out.tape, HB.out.output, HB.out.size, HB.out.block⟩⟩
end Go.Proofs.YtpoojimmponklaaDoor.SymStates
