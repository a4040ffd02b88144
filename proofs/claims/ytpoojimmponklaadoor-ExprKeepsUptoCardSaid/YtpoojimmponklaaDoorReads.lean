/- The calls that only read a table: Count, Depth, there, Name, IsVar, Active, Find. -/
import Derived.Test.YtpoojimmponklaaDoorHeap
import Derived.Deep.QuietTactic
import Derived.BigQuiet
import Derived.WalkLawsBesides
import Derived.WalkSpells
import Derived.Lib.Hide
namespace Go.Proofs.YtpoojimmponklaaDoor.SymReads
open Go.RowKit Go.Maps Go.Proofs.YtpoojimmponklaaDoor.SymTab Go.Proofs.YtpoojimmponklaaDoor.SymHeap
open Go.Proofs.YtpoojimmponklaaDoorW.PrintWords (Aside0 Drawn0)

theorem row_slice {w : World} {base e size n : Nat} {v : Value} {xs : List Value} (h : w.ownsRow base e size v n xs) : ∃ A cap, v = .slice A n cap ∧ n ≤ cap := by
  rcases h.2 with ⟨rfl, rfl⟩ | ⟨g, cap, cur, rfl, _, _, hn, _⟩
  · exact ⟨_, _, rfl, Nat.le_refl _⟩
  · exact ⟨_, _, rfl, hn⟩
theorem row_some {w : World} {base e size n : Nat} {v : Value} {xs : List Value} (h : w.ownsRow base e size v n xs) (hn : 0 < n) :
    ∃ g cap, v = .slice (some ⟨g, 0, none⟩) n cap ∧ n ≤ cap ∧ (∀ j u, xs[j]? = some u → w.cell? ⟨g, j, none⟩ = some u) ∧ (∀ j, w.frozen? ⟨g, j, none⟩ = false) ∧ ∃ cur, w.heap[g]? = some (.cells cur e (0, 0)) := by
  have hc := fun (k : Nat) (hk : v.ownBlock = some k) => h.cells hk
  rcases h.2 with ⟨rfl, rfl⟩ | ⟨g, cap, cur, rfl, _, hg, hnc, _⟩
  · omega
  · refine ⟨g, cap, rfl, hnc, fun j u hu => ?_, fun j => ?_, cur, hg⟩
    · have := hc g rfl j u hu
      rw [show (⟨g, 0, none⟩ : Addr).add j = ⟨g, j, none⟩ from by unfold Addr.add; split <;> simp_all] at this
      exact this
    · simp [World.frozen?, hg]
theorem cell_at {w : World} {p : Nat} {cs : Array Value} {t : TypeId} (h : w.heap[p]? = some (.cells cs t (0, 0))) (i : Nat) : w.cell? ⟨p, i, none⟩ = cs[i]? ∧ w.frozen? ⟨p, i, none⟩ = false := by
  constructor
  · simp [World.cell?, h]
  · simp [World.frozen?, h]

def varOf (T : Tab) (k : Nat) : Bool := (T.syms.getD k (ByteArray.empty, false)).2
/-- The row of symbols: where it lies, and its cells by number. -/
theorem syms_at {w : World} {p g : Nat} {T : Tab} {q : Parts} (h : Holds w p g T q) {k : Nat} (hk : k < T.syms.length) :
    ∃ b cap, q.vs = .slice (some ⟨b, 0, none⟩) T.syms.length cap ∧ w.cell? ⟨b, k * 2, none⟩ = some (.string (nameOf T k)) ∧ w.cell? ⟨b, k * 2 + 1, none⟩ = some (.bool (varOf T k)) := by
  obtain ⟨b, cap, e, _, hcell, _⟩ := row_some h.syms (by omega)
  obtain ⟨h1, h2⟩ := symCells_name hk
  rw [Nat.mul_comm] at h1 h2
  exact ⟨b, cap, e, hcell _ _ h1, hcell _ _ h2⟩
theorem count_calls {w : World} {p g : Nat} {T : Tab} {fp : Nat → Prop} (h : TabIs w p g T fp) :
    Calls Tryd.prog 20 #[.pointer (some ⟨p, 0, none⟩)] w fun e w' => e = .returned (.int .i64 (T.syms.length : Int)) ∧ Drawn0 w w' := by
  obtain ⟨hw, ⟨vs, bn, ba, vc, bt, vl, vals⟩, h, _⟩ := h
  obtain ⟨A, cap, e, _⟩ := row_slice h.syms
  simp only at e
  subst e
  have c0 := (cell_at h.cells 0).1
  simp only [List.getElem?_toArray, List.getElem?_cons_zero] at c0
  clear h
  go_enter Tryd.func20, Tryd.ntmps20
  go_wp2
  go_ret
  exact ⟨rfl, Drawn0.refl _⟩

theorem depth_calls {w : World} {p g : Nat} {T : Tab} {fp : Nat → Prop} (h : TabIs w p g T fp) :
    Calls Tryd.prog 16 #[.pointer (some ⟨p, 0, none⟩)] w fun e w' => e = .returned (.int .i64 (T.scopes.length : Int)) ∧ Drawn0 w w' := by
  obtain ⟨hw, ⟨vs, bn, ba, vc, bt, vl, vals⟩, h, _⟩ := h
  obtain ⟨A, cap, e, _⟩ := row_slice h.scopes
  simp only at e
  subst e
  have c3 := (cell_at h.cells 3).1
  simp only [List.getElem?_toArray, List.getElem?_cons_zero, List.getElem?_cons_succ] at c3
  clear h
  go_enter Tryd.func16, Tryd.ntmps16
  go_wp2
  go_ret
  exact ⟨rfl, Drawn0.refl _⟩

theorem there_calls {w : World} {p g : Nat} {T : Tab} {fp : Nat → Prop} (h : TabIs w p g T fp) (n : Int) :
    Calls Tryd.prog 60 #[.pointer (some ⟨p, 0, none⟩), .int .i64 n] w fun e w' => e = .returned (.bool (there T n)) ∧ w' = w := by
  obtain ⟨hw, ⟨vs, bn, ba, vc, bt, vl, vals⟩, h, _⟩ := h
  obtain ⟨A, cap, e, _⟩ := row_slice h.syms
  simp only at e
  subst e
  have c0 := (cell_at h.cells 0).1
  simp only [List.getElem?_toArray, List.getElem?_cons_zero] at c0
  clear h
  by_cases h0 : 0 ≤ n
  · have d0 : decide (0 ≤ n) = true := decide_eq_true h0
    by_cases h1 : n < T.syms.length
    · have d1 : decide (n < (T.syms.length : Int)) = true := decide_eq_true h1
      go_enter Tryd.func60, Tryd.ntmps60
      go_wp2
      go_ret
      exact ⟨by unfold there; rw [d0, d1]; rfl, rfl⟩
    · have d1 : decide (n < (T.syms.length : Int)) = false := decide_eq_false h1
      go_enter Tryd.func60, Tryd.ntmps60
      go_wp2
      go_ret
      exact ⟨by unfold there; rw [d0, d1]; rfl, rfl⟩
  · have d0 : decide (0 ≤ n) = false := decide_eq_false h0
    go_enter Tryd.func60, Tryd.ntmps60
    go_wp2
    go_ret
    exact ⟨by unfold there; rw [d0]; rfl, rfl⟩

theorem there_split {T : Tab} {n : Int} : there T n = true ↔ ∃ k : Nat, n = (k : Int) ∧ k < T.syms.length := by
  unfold there
  simp only [Bool.and_eq_true, decide_eq_true_eq]
  constructor
  · rintro ⟨h0, h1⟩
    exact ⟨n.toNat, by omega, by omega⟩
  · rintro ⟨k, rfl, hk⟩
    omega

theorem name_calls {w : World} {p g : Nat} {T : Tab} {fp : Nat → Prop} (h : TabIs w p g T fp) (n : Int) :
    Calls Tryd.prog 23 #[.pointer (some ⟨p, 0, none⟩), .int .i64 n] w fun e w' => e = .returned (.string (nameT T n)) ∧ w' = w := by
  have ht := there_calls h n
  obtain ⟨hw, ⟨vs, bn, ba, vc, bt, vl, vals⟩, h, _⟩ := h
  cases hth : there T n with
  | false =>
    rw [hth] at ht
    have Hn := Lib.hid (show nameT T n = ByteArray.empty by unfold nameT; rw [hth]; rfl)
    clear hth
    go_enter Tryd.func23, Tryd.ntmps23
    go_wp2_with (go_at_call 60; refine ht.mono ?_; rintro e w' ⟨rfl, rfl⟩)
    go_ret
    exact ⟨by rw [Hn.out]; rfl, rfl⟩
  | true =>
    rw [hth] at ht
    obtain ⟨k, rfl, hk⟩ := there_split.1 hth
    have Hn := Lib.hid (show nameT T k = nameOf T k by unfold nameT; rw [hth]; rfl)
    clear hth
    obtain ⟨b, cap, e, cn, _⟩ := syms_at h hk
    simp only at e
    subst e
    have c0 := (cell_at h.cells 0).1
    simp only [List.getElem?_toArray, List.getElem?_cons_zero] at c0
    clear h
    go_enter Tryd.func23, Tryd.ntmps23
    go_wp2_with (go_at_call 60; refine ht.mono ?_; rintro e w' ⟨rfl, rfl⟩)
    go_ret
    exact ⟨by rw [Hn.out]; rfl, rfl⟩

theorem isVar_calls {w : World} {p g : Nat} {T : Tab} {fp : Nat → Prop} (h : TabIs w p g T fp) (n : Int) :
    Calls Tryd.prog 24 #[.pointer (some ⟨p, 0, none⟩), .int .i64 n] w fun e w' => e = .returned (.bool (isVarT T n)) ∧ Drawn0 w w' := by
  have ht := there_calls h n
  obtain ⟨hw, ⟨vs, bn, ba, vc, bt, vl, vals⟩, h, _⟩ := h
  cases hth : there T n with
  | false =>
    rw [hth] at ht
    have Hn := Lib.hid (show isVarT T n = false by unfold isVarT; rw [hth]; rfl)
    clear hth
    go_enter Tryd.func24, Tryd.ntmps24
    go_wp2_with (go_at_call 60; refine ht.mono ?_; rintro e w' ⟨rfl, rfl⟩)
    go_ret
    exact ⟨by rw [Hn.out]; rfl, Drawn0.refl _⟩
  | true =>
    rw [hth] at ht
    obtain ⟨k, rfl, hk⟩ := there_split.1 hth
    have Hn := Lib.hid (show isVarT T k = varOf T k by unfold isVarT varOf; rw [hth, Int.toNat_natCast, Bool.true_and])
    clear hth
    obtain ⟨b, cap, e, _, cn⟩ := syms_at h hk
    simp only at e
    subst e
    have c0 := (cell_at h.cells 0).1
    simp only [List.getElem?_toArray, List.getElem?_cons_zero] at c0
    clear h
    go_enter Tryd.func24, Tryd.ntmps24
    go_wp2_with (go_at_call 60; refine ht.mono ?_; rintro e w' ⟨rfl, rfl⟩)
    go_ret
    exact ⟨by rw [Hn.out]; rfl, Drawn0.refl _⟩

/-- What is asked of a map of names: a number (0 if it is not there), and whether it is there. -/
theorem find_calls {w : World} {p g : Nat} {T : Tab} {fp : Nat → Prop} (h : TabIs w p g T fp) (s : ByteArray) (hs : s.size ≤ maxLen) :
    Calls Tryd.prog 31 #[.pointer (some ⟨p, 0, none⟩), .string s] w fun e w' => e = .returned (.tuple #[.int .i64 (num (T.act s)), .bool (T.act s).isSome]) ∧ w' = w := by
  obtain ⟨hw, ⟨vs, bn, ba, vc, bt, vl, vals⟩, h, _⟩ := h
  have c2 := (cell_at h.cells 2).1
  simp only [List.getElem?_toArray, List.getElem?_cons_zero, List.getElem?_cons_succ] at c2
  have hl := h.active.look hs
  clear h
  go_enter Tryd.func31, Tryd.ntmps31
  go_wp2
  go_ret2
  exact ⟨rfl, rfl⟩
theorem size_name {T : Tab} (h : WF T) {k : Nat} (hk : k < T.syms.length) : (nameOf T k).size ≤ 32 := by
  have hm : T.syms[k] ∈ T.syms := List.getElem_mem hk
  have := h.ok _ hm
  unfold symOk at this
  simp only [Bool.and_eq_true, decide_eq_true_eq] at this
  unfold nameOf
  rw [List.getD_eq_getElem?_getD, List.getElem?_eq_getElem hk]
  exact this.2
theorem active_calls {w : World} {p g : Nat} {T : Tab} {fp : Nat → Prop} (h : TabIs w p g T fp) (n : Int) :
    Calls Tryd.prog 21 #[.pointer (some ⟨p, 0, none⟩), .int .i64 n] w fun e w' => e = .returned (.bool (activeT T n)) ∧ Drawn0 w w' := by
  have ht := there_calls h n
  obtain ⟨hw, ⟨vs, bn, ba, vc, bt, vl, vals⟩, h, _⟩ := h
  cases hth : there T n with
  | false =>
    rw [hth] at ht
    have Hn := Lib.hid (show activeT T n = false by unfold activeT; rw [hth]; rfl)
    clear hth
    go_enter Tryd.func21, Tryd.ntmps21
    go_wp2_with (go_at_call 60; refine ht.mono ?_; rintro e w' ⟨rfl, rfl⟩)
    go_ret
    exact ⟨by rw [Hn.out]; rfl, Drawn0.refl _⟩
  | true =>
    rw [hth] at ht
    obtain ⟨k, rfl, hk⟩ := there_split.1 hth
    have Hn := Lib.hid (show activeT T k = (T.act (nameOf T k)).isSome by unfold activeT; rw [hth, Int.toNat_natCast, Bool.true_and])
    clear hth
    obtain ⟨b, cap, e, cn, _⟩ := syms_at h hk
    simp only at e
    subst e
    have c0 := (cell_at h.cells 0).1
    have c2 := (cell_at h.cells 2).1
    simp only [List.getElem?_toArray, List.getElem?_cons_zero, List.getElem?_cons_succ] at c0 c2
    have hl : ∀ nq, (Instr.lookup 85 (.map (some ba)) (.string (nameOf T k)) true).run Tryd.prog (w.drewN nq) = .ok (.tuple #[.int .i64 (num (T.act (nameOf T k))), .bool (T.act (nameOf T k)).isSome]) (w.drewN nq) := fun nq =>
      (h.active.move (w' := w.drewN nq) rfl).look (by have := size_name hw hk; unfold maxLen; omega)
    have hk' : (k : Int) < (T.syms.length : Int) := by omega
    clear h
    go_enter Tryd.func21, Tryd.ntmps21
    go_wp2_with (go_at_call 60; refine ht.mono ?_; rintro e w' ⟨rfl, rfl⟩)
    go_quiet (fail)
    go_wp2
    go_ret
    exact ⟨by rw [Hn.out]; rfl, Drawn0.step (Drawn0.refl _) _⟩
end Go.Proofs.YtpoojimmponklaaDoor.SymReads
