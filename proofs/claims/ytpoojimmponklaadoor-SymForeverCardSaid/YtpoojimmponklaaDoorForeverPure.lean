/- Names and kinds of what is declared, for ever. -/
import Derived.Test.YtpoojimmponklaaDoorLabels
import Derived.Test.YtpoojimmponklaaDoorStates
import Derived.Deep.QuietTactic
import Derived.BigQuiet
namespace Go.Proofs.YtpoojimmponklaaDoor.SymForeverPure
open Go.RowKit Go.Maps Go.Proofs.YtpoojimmponklaaDoor.SymTab Go.Proofs.YtpoojimmponklaaDoor.SymHeap Go.Proofs.YtpoojimmponklaaDoor.SymApi Go.Proofs.YtpoojimmponklaaDoor.SymBegun Go.Proofs.YtpoojimmponklaaDoor.SymScan Go.Proofs.YtpoojimmponklaaDoor.SymScript Go.Proofs.YtpoojimmponklaaDoor.SymReads Go.Proofs.YtpoojimmponklaaDoor.SymLists
open Go.Proofs.YtpoojimmponklaaDoorW.PrintWords (Aside0 Drawn0 own_move)
set_option linter.unusedVariables false
set_option linter.unusedSimpArgs false

def names (T : Tab) : List Value := T.syms.map fun x => .string x.1
def kinds (T : Tab) : List Value := T.syms.map fun x => .bool x.2
theorem names_len (T : Tab) : (names T).length = T.syms.length := by simp [names]
theorem kinds_len (T : Tab) : (kinds T).length = T.syms.length := by simp [kinds]
theorem names_at {T : Tab} {n : Nat} (h : n < T.syms.length) : (names T)[n]? = some (.string (nameOf T n)) := by
  simp [names, nameOf, List.getD_eq_getElem?_getD, List.getElem?_eq_getElem h]
theorem kinds_at {T : Tab} {n : Nat} (h : n < T.syms.length) : (kinds T)[n]? = some (.bool (T.syms.getD n (ByteArray.empty, false)).2) := by
  simp [kinds, List.getD_eq_getElem?_getD, List.getElem?_eq_getElem h]
theorem names_same {T U : Tab} (h : U.syms = T.syms) : names U = names T := by simp [names, h]
theorem kinds_same {T U : Tab} (h : U.syms = T.syms) : kinds U = kinds T := by simp [kinds, h]
theorem names_more {T U : Tab} {s : ByteArray} {b : Bool} (h : U.syms = T.syms ++ [(s, b)]) : names U = names T ++ [.string s] := by simp [names, h]
theorem kinds_more {T U : Tab} {s : ByteArray} {b : Bool} (h : U.syms = T.syms ++ [(s, b)]) : kinds U = kinds T ++ [.bool b] := by simp [kinds, h]

theorem idx_ne {l : List (ByteArray × Bool)} {s : ByteArray} (h : idx l s = none) (n : Nat) (hn : n < l.length) : (l.getD n (ByteArray.empty, false)).1 ≠ s := by
  intro e
  have hm : s ∈ l.map (·.1) := by
    rw [List.getD_eq_getElem?_getD, List.getElem?_eq_getElem hn] at e
    exact List.mem_map.2 ⟨l[n], List.getElem_mem hn, e⟩
  have := idx_some_iff.2 hm
  rw [h] at this
  cases this
theorem const_cases (T : Tab) (s : ByteArray) : (∃ c : Nat, c ≠ 0 ∧ constT T s = (T, 0, c)) ∨ (∃ U : Tab, constT T s = (U, T.syms.length, 0) ∧ U.syms = T.syms ++ [(s, false)] ∧ ∀ n, n < T.syms.length → nameOf T n ≠ s) := by
  unfold constT
  split
  · exact .inl ⟨23, by decide, rfl⟩
  · split
    · exact .inl ⟨21, by decide, rfl⟩
    · split
      · exact .inl ⟨20, by decide, rfl⟩
      · split
        · exact .inl ⟨22, by decide, rfl⟩
        · rename_i h _
          exact .inr ⟨_, rfl, rfl, fun n hn => idx_ne (by simpa using h) n hn⟩
theorem var_cases {T : Tab} (hw : WF T) (s : ByteArray) : (∃ c : Nat, c ≠ 0 ∧ varT T s = (T, 0, c)) ∨ (∃ U : Tab, varT T s = (U, T.syms.length, 0) ∧ U.syms = T.syms ++ [(s, true)] ∧ ∀ n, n < T.syms.length → nameOf T n ≠ s) ∨
    (∃ (U : Tab) (n : Nat), varT T s = (U, n, 0) ∧ n < T.syms.length ∧ U.syms = T.syms ∧ nameOf T n = s ∧ (T.syms.getD n (ByteArray.empty, false)).2 = true) := by
  unfold varT
  split
  · exact .inl ⟨21, by decide, rfl⟩
  · split
    · exact .inl ⟨20, by decide, rfl⟩
    · rename_i h
      cases hi : idx T.syms s with
      | some n =>
        have h1 := idx_lt hi
        have h2 := idx_var hw hi (by simpa using h)
        exact .inr (.inr ⟨_, n, rfl, h1.1, rfl, h1.2, h2⟩)
      | none =>
        simp only
        split
        · exact .inl ⟨22, by decide, rfl⟩
        · exact .inr (.inl ⟨_, rfl, rfl, fun n hn => idx_ne hi n hn⟩)
theorem do_syms (T : Tab) (k : Int) (s : ByteArray) (h3 : k ≠ 3) (h4 : k ≠ 4) : (doT T k s).syms = T.syms := by
  unfold doT
  repeat' split
  all_goals first
    | rfl
    | (unfold openS; split <;> rfl)
    | (unfold closeS; split <;> rfl)
    | (unfold labelT; repeat' (first | rfl | split))
    | omega

theorem sub {W w : World} {p g : Nat} {T : Tab} {rows rows' : List RowOf} (h : Besides W w p g T rows) (hs : ∀ r ∈ rows', r ∈ rows) : Besides W w p g T rows' := by
  obtain ⟨hB, F, hm, hr⟩ := h
  exact ⟨hB, F, hm, fun r hrr => hr r (hs r hrr)⟩
theorem bools_info : (Tryd.prog.info? 4).map (fun i => (i.zero, i.size, i.bytes)) = some (some (.bool false), 1, 1) := by kernel_rfl
theorem name_quiet {W w : World} {p g : Nat} {T : Tab} {rows : List RowOf} {m : Int} {s : ByteArray} (h : Besides W w p g T rows) (hs : nameT T m = s) (n : Nat) :
    Calls Tryd.prog 23 #[.pointer (some ⟨p, 0, none⟩), .int .i64 m] (w.drewN n) fun e w'' => e = .returned (.string s) ∧ ∃ k, w'' = w.drewN k := by
  obtain ⟨_, F, hm, _⟩ := h.drawn (w' := w.drewN n) ⟨n, rfl⟩
  exact (SymReads.name_calls hm.1 m).mono fun e w' ⟨he, hd⟩ => ⟨by rw [he, hs], n, hd⟩
theorem isVar_quiet {W w : World} {p g : Nat} {T : Tab} {rows : List RowOf} {m : Int} {b : Bool} (h : Besides W w p g T rows) (hs : isVarT T m = b) (n : Nat) :
    Calls Tryd.prog 24 #[.pointer (some ⟨p, 0, none⟩), .int .i64 m] (w.drewN n) fun e w'' => e = .returned (.bool b) ∧ ∃ k, w'' = w.drewN k := by
  obtain ⟨_, F, hm, _⟩ := h.drawn (w' := w.drewN n) ⟨n, rfl⟩
  exact (SymReads.isVar_calls hm.1 m).mono fun e w' ⟨he, k, hd⟩ => ⟨by rw [he, hs], n + k, by rw [hd, World.drewN_drewN]⟩
theorem active_quiet {W w : World} {p g : Nat} {T : Tab} {rows : List RowOf} {m : Int} {b : Bool} (h : Besides W w p g T rows) (hs : activeT T m = b) (n : Nat) :
    Calls Tryd.prog 21 #[.pointer (some ⟨p, 0, none⟩), .int .i64 m] (w.drewN n) fun e w'' => e = .returned (.bool b) ∧ ∃ k, w'' = w.drewN k := by
  obtain ⟨_, F, hm, _⟩ := h.drawn (w' := w.drewN n) ⟨n, rfl⟩
  exact (SymReads.active_calls hm.1 m).mono fun e w' ⟨he, k, hd⟩ => ⟨by rw [he, hs], n + k, by rw [hd, World.drewN_drewN]⟩
/-- A list's cells. -/
theorem row_at {W w : World} {p g : Nat} {T : Tab} {rows : List RowOf} {e : TypeId} {v : Value} {xs : List Value} {A : Option Addr} {n c : Nat} (h : Besides W w p g T rows) (hr : ⟨e, .slice A n c, xs⟩ ∈ rows) (hn : 0 < xs.length) :
    ∃ b, A = some ⟨b, 0, none⟩ ∧ ∀ j u, xs[j]? = some u → w.cell? ⟨b, j, none⟩ = some u := by
  obtain ⟨b, c', e', _, hc, _⟩ := row_some (h.own hr) hn
  simp only [Value.slice.injEq] at e'
  exact ⟨b, e'.1, hc⟩
theorem row_form {W w : World} {p g : Nat} {T : Tab} {rows : List RowOf} {e : TypeId} {v : Value} {xs : List Value} (h : Besides W w p g T rows) (hr : ⟨e, v, xs⟩ ∈ rows) (hn : 0 < xs.length) :
    ∃ b c, v = .slice (some ⟨b, 0, none⟩) xs.length c := by
  obtain ⟨b, c', e', _, hc, _⟩ := row_some (h.own hr) hn
  exact ⟨b, c', e'⟩
end Go.Proofs.YtpoojimmponklaaDoor.SymForeverPure
