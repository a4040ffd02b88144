/- A script of calls as it lies in memory, and what a list of calls makes of a table. -/
import Derived.Test.YtpoojimmponklaaDoorBegun
namespace Go.Proofs.YtpoojimmponklaaDoor.SymScript
set_option linter.unusedVariables false
open Go.RowKit Go.Maps Go.Proofs.YtpoojimmponklaaDoor.SymTab Go.Proofs.YtpoojimmponklaaDoor.SymHeap Go.Proofs.YtpoojimmponklaaDoor.SymApi
open Go.Proofs.YtpoojimmponklaaDoorW.PrintWords (Aside0 Drawn0)

structure OpRec where
  k : Int
  s : ByteArray
  n : Int

/-- The script lies in w: kind, text and number of each call. -/
structure Script (w : World) (A : Option Addr) (l : List OpRec) : Prop where
  some_ : 0 < l.length → ∃ a, A = some a
  at_ : ∀ a i x, A = some a → l[i]? = some x → w.cell? (a.add (i * 3)) = some (.int .i64 x.k) ∧ w.cell? ⟨(a.add (i * 3)).block, (a.add (i * 3)).off + 1, none⟩ = some (.string x.s) ∧ w.cell? ⟨(a.add (i * 3)).block, (a.add (i * 3)).off + 2, none⟩ = some (.int .i64 x.n) ∧ x.s.size ≤ maxLen
theorem Script.below {w w' : World} {A : Option Addr} {l : List OpRec} (h : Script w A l) (hb : Below w.heap.size w w') : Script w' A l := by
  refine ⟨h.some_, fun a i x ha hx => ?_⟩
  obtain ⟨h1, h2, h3, h4⟩ := h.at_ a i x ha hx
  exact ⟨(hb.cell (World.block_lt_of_cell? w _ h1)).trans h1, (hb.cell (World.block_lt_of_cell? w _ h2)).trans h2, (hb.cell (World.block_lt_of_cell? w _ h3)).trans h3, h4⟩

def run (T : Tab) (l : List OpRec) : Tab := l.foldl (fun T x => doT T x.k x.s) T
theorem run_snoc (T : Tab) (l : List OpRec) (x : OpRec) : run T (l ++ [x]) = doT (run T l) x.k x.s := by simp [run]
theorem run_take {T : Tab} {l : List OpRec} {i : Nat} (h : i < l.length) : run T (l.take (i + 1)) = doT (run T (l.take i)) l[i].k l[i].s := by
  rw [List.take_succ_eq_append_getElem h, run_snoc]
theorem wf_do {T : Tab} (h : WF T) (k : Int) (s : ByteArray) : WF (doT T k s) := by
  unfold doT
  repeat' split
  · exact wf_open h
  · exact wf_close h
  · exact wf_const h s
  · exact wf_var h s
  · exact wf_label h s
  · exact h

/-- A table of the call's own, in a world that differs from the first one in new blocks alone. -/
def Mine (w0 w : World) (p g : Nat) (T : Tab) : Prop := TabIs w p g T (fun k => w0.heap.size ≤ k) ∧ Below w0.heap.size w0 w
theorem Mine.does {w0 w w' : World} {p g g' : Nat} {T T' : Tab} (h : Mine w0 w p g T) (hd : Does w w' p g' T' (fun k => w0.heap.size ≤ k)) : Mine w0 w' p g' T' := by
  have hs := h.2.size
  refine ⟨hd.1.mono (fun k hk => ?_), h.2.trans (hd.2.below hs (fun _ hk => hk))⟩
  rcases hk with hk | hk
  · exact hk
  · omega
theorem Mine.drawn {w0 w w' : World} {p g : Nat} {T : Tab} (h : Mine w0 w p g T) (hd : Drawn0 w w') : Mine w0 w' p g T := by
  obtain ⟨n, rfl⟩ := hd
  exact ⟨h.1.move (fun _ _ => rfl), ⟨h.2.os, h.2.tape, h.2.output, h.2.size, h.2.block⟩⟩
theorem Mine.blanks {w0 w : World} {p g : Nat} {T : Tab} (h : Mine w0 w p g T) (hb : SymScan.Blanks w0) : SymScan.Blanks w := hb.move (h.2.block 0 hb.lt)
theorem Mine.begun {w0 w : World} {p : Nat} {T : Tab} (h : TabIs w p 4 T (fun k => w0.heap.size ≤ k)) (ht : Turns SymNew.None w0 w) : Mine w0 w p 4 T := ⟨h, ht.below (Nat.le_refl _) (fun _ h => h.elim)⟩
theorem Mine.more {w0 w : World} {p g g' : Nat} {T : Tab} (h : Mine w0 w p g T) (hg : g ≤ g') : Mine w0 w p g' T := ⟨h.1.more hg, h.2⟩
theorem Mine.wf {w0 w : World} {p g : Nat} {T : Tab} (h : Mine w0 w p g T) : WF T := h.1.1

/-! ### the calls, with what they answer told -/
section
variable {w0 w : World} {p g : Nat} {T : Tab}
theorem count_is (h : Mine w0 w p g T) {n : Nat} (hn : T.syms.length = n) : Calls Tryd.prog 20 #[.pointer (some ⟨p, 0, none⟩)] w fun e w' => e = .returned (.int .i64 (n : Int)) ∧ Mine w0 w' p g T := by
  subst hn
  exact (SymReads.count_calls h.1).mono fun e w' ⟨he, hd⟩ => ⟨he, h.drawn hd⟩
theorem depth_is (h : Mine w0 w p g T) {n : Nat} (hn : T.scopes.length = n) : Calls Tryd.prog 16 #[.pointer (some ⟨p, 0, none⟩)] w fun e w' => e = .returned (.int .i64 (n : Int)) ∧ Mine w0 w' p g T := by
  subst hn
  exact (SymReads.depth_calls h.1).mono fun e w' ⟨he, hd⟩ => ⟨he, h.drawn hd⟩
theorem name_is (h : Mine w0 w p g T) {n : Int} {s : ByteArray} (hs : nameT T n = s) : Calls Tryd.prog 23 #[.pointer (some ⟨p, 0, none⟩), .int .i64 n] w fun e w' => e = .returned (.string s) ∧ Mine w0 w' p g T := by
  subst hs
  exact (SymReads.name_calls h.1 n).mono fun e w' ⟨he, hd⟩ => ⟨he, hd ▸ h⟩
theorem isVar_is (h : Mine w0 w p g T) {n : Int} {b : Bool} (hb : isVarT T n = b) : Calls Tryd.prog 24 #[.pointer (some ⟨p, 0, none⟩), .int .i64 n] w fun e w' => e = .returned (.bool b) ∧ Mine w0 w' p g T := by
  subst hb
  exact (SymReads.isVar_calls h.1 n).mono fun e w' ⟨he, hd⟩ => ⟨he, h.drawn hd⟩
theorem active_is (h : Mine w0 w p g T) {n : Int} {b : Bool} (hb : activeT T n = b) : Calls Tryd.prog 21 #[.pointer (some ⟨p, 0, none⟩), .int .i64 n] w fun e w' => e = .returned (.bool b) ∧ Mine w0 w' p g T := by
  subst hb
  exact (SymReads.active_calls h.1 n).mono fun e w' ⟨he, hd⟩ => ⟨he, h.drawn hd⟩
theorem find_is (h : Mine w0 w p g T) {s : ByteArray} (hs : s.size ≤ maxLen) {n : Nat} {b : Bool} (hb : findT T s = (n, b)) : Calls Tryd.prog 31 #[.pointer (some ⟨p, 0, none⟩), .string s] w fun e w' => e = .returned (.tuple #[.int .i64 (n : Int), .bool b]) ∧ Mine w0 w' p g T := by
  refine (find_api h.1 s hs).mono fun e w' ⟨he, hd⟩ => ⟨?_, h.drawn hd⟩
  rw [he, hb]
theorem const_is (h : Mine w0 w p g T) (hb : SymScan.Blanks w0) {s : ByteArray} (hs : s.size ≤ maxLen) (hg : g + 2 < maxLen) {T' : Tab} {n c : Nat} (hc : constT T s = (T', n, c)) : Calls Tryd.prog 18 #[.pointer (some ⟨p, 0, none⟩), .string s] w fun e w' => e = .returned (.tuple #[.int .i64 (n : Int), .int .i64 (c : Int)]) ∧ Mine w0 w' p (g + 2) T' := by
  refine (const_api (h.blanks hb) h.1 s hs hg).mono fun e w' ⟨he, hd⟩ => ?_
  rw [hc] at he hd
  exact ⟨he, h.does hd⟩
theorem var_is (h : Mine w0 w p g T) (hb : SymScan.Blanks w0) {s : ByteArray} (hs : s.size ≤ maxLen) (hg : g + 2 < maxLen) {T' : Tab} {n c : Nat} (hc : varT T s = (T', n, c)) : Calls Tryd.prog 22 #[.pointer (some ⟨p, 0, none⟩), .string s] w fun e w' => e = .returned (.tuple #[.int .i64 (n : Int), .int .i64 (c : Int)]) ∧ Mine w0 w' p (g + 2) T' := by
  refine (var_api (h.blanks hb) h.1 s hs hg).mono fun e w' ⟨he, hd⟩ => ?_
  rw [hc] at he hd
  exact ⟨he, h.does hd⟩
theorem open_is (h : Mine w0 w p g T) {T' : Tab} {c : Nat} (hc : openS T = (T', c)) : Calls Tryd.prog 17 #[.pointer (some ⟨p, 0, none⟩)] w fun e w' => e = .returned (.int .i64 (c : Int)) ∧ Mine w0 w' p g T' := by
  refine (open_api h.1).mono fun e w' ⟨he, hd⟩ => ?_
  rw [hc] at he hd
  exact ⟨he, h.does hd⟩
theorem close_is (h : Mine w0 w p g T) {T' : Tab} {c : Nat} (hc : closeS T = (T', c)) : Calls Tryd.prog 19 #[.pointer (some ⟨p, 0, none⟩)] w fun e w' => e = .returned (.int .i64 (c : Int)) ∧ Mine w0 w' p g T' := by
  refine (close_api h.1).mono fun e w' ⟨he, hd⟩ => ?_
  rw [hc] at he hd
  exact ⟨he, h.does hd⟩
theorem label_is (h : Mine w0 w p g T) {s : ByteArray} (hs : s.size ≤ maxLen) (hg : g + 2 < maxLen) {T' : Tab} {c : Nat} (hc : labelT T s = (T', c)) : Calls Tryd.prog 25 #[.pointer (some ⟨p, 0, none⟩), .string s] w fun e w' => e = .returned (.int .i64 (c : Int)) ∧ Mine w0 w' p (g + 2) T' := by
  refine (label_api h.1 s hs hg).mono fun e w' ⟨he, hd⟩ => ?_
  rw [hc] at he hd
  exact ⟨he, h.does hd⟩
theorem does_is (h : Mine w0 w p g T) (hb : SymScan.Blanks w0) (x : OpRec) (hs : x.s.size ≤ maxLen) (hg : g + 2 < maxLen) : Calls Tryd.prog 14 #[.pointer (some ⟨p, 0, none⟩), .agg #[.int .i64 x.k, .string x.s, .int .i64 x.n]] w fun e w' => e = .returned (.tuple #[]) ∧ Mine w0 w' p (g + 2) (doT T x.k x.s) :=
  (does_calls (h.blanks hb) h.1 x.k x.s x.n hs hg).mono fun e w' ⟨he, hd⟩ => ⟨he, h.does hd⟩
end

/-! ### what is there, asked again -/
section
variable {T : Tab} {n : Nat}
theorem name_at (hn : n < T.syms.length) : nameT T n = nameOf T n := by
  unfold nameT
  rw [SymReads.there_split.2 ⟨n, rfl, hn⟩]
  rfl
theorem ok_at (h : WF T) (hn : n < T.syms.length) : symOk (nameOf T n) = true := by
  have := h.ok _ (List.getElem_mem hn)
  unfold nameOf
  rw [List.getD_eq_getElem?_getD, List.getElem?_eq_getElem hn]
  exact this
theorem act_at (h : WF T) (hn : n < T.syms.length) {m : Nat} (ha : T.act (nameOf T n) = some m) : m = n := by
  have h1 := h.act _ _ ha
  rw [idx_nameOf h hn] at h1
  exact (Option.some.inj h1).symm
theorem active_at (hn : n < T.syms.length) : activeT T n = (T.act (nameOf T n)).isSome := by
  unfold activeT
  rw [SymReads.there_split.2 ⟨n, rfl, hn⟩]
  rfl
theorem isVar_at (hn : n < T.syms.length) : isVarT T n = (T.syms.getD n (ByteArray.empty, false)).2 := by
  unfold isVarT
  rw [SymReads.there_split.2 ⟨n, rfl, hn⟩]
  rfl
theorem isVar_off (h : WF T) (hn : n < T.syms.length) (ha : T.act (nameOf T n) = none) : isVarT T n = true := by
  rw [isVar_at hn]
  exact idx_var h (idx_nameOf h hn) ha
theorem const_again (h : WF T) (hn : n < T.syms.length) (hs : T.scopes.length = 0) : constT T (nameOf T n) = (T, 0, 20) := by
  unfold constT
  rw [if_neg (by omega), ok_at h hn, idx_nameOf h hn]
  rfl
theorem var_on (h : WF T) (hn : n < T.syms.length) {m : Nat} (ha : T.act (nameOf T n) = some m) : varT T (nameOf T n) = (T, 0, 20) := by
  unfold varT
  rw [ok_at h hn, ha]
  rfl
theorem var_off (h : WF T) (hn : n < T.syms.length) (ha : T.act (nameOf T n) = none) : varT T (nameOf T n) = (activate T (nameOf T n) n, n, 0) := by
  unfold varT
  rw [ok_at h hn, ha, idx_nameOf h hn]
  rfl
theorem active_again (hn : n < T.syms.length) : activeT (activate T (nameOf T n) n) n = true := by
  rw [active_at (T := activate T (nameOf T n) n) hn]
  show (upd T.act (nameOf T n) n (nameOf T n)).isSome = true
  simp [upd]
end
end Go.Proofs.YtpoojimmponklaaDoor.SymScript
