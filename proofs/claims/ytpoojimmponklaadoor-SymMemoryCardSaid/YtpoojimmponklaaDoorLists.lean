/- A table of one's own and lists of one's own beside it, both growing. -/
import Derived.Test.YtpoojimmponklaaDoorBeside
import Derived.Lib.OwnKind
namespace Go.Proofs.YtpoojimmponklaaDoor.SymLists
open Go.RowKit Go.Maps Go.Proofs.YtpoojimmponklaaDoor.SymTab Go.Proofs.YtpoojimmponklaaDoor.SymHeap Go.Proofs.YtpoojimmponklaaDoor.SymApi Go.Proofs.YtpoojimmponklaaDoor.SymScript Go.Proofs.YtpoojimmponklaaDoor.SymReads Go.Proofs.YtpoojimmponklaaDoor.SymBeside
open Go.Proofs.YtpoojimmponklaaDoorW.PrintWords (Aside0 Drawn0 own_move)
set_option linter.unusedVariables false

structure RowOf where
  e : TypeId
  v : Value
  xs : List Value

def Lies (N : Nat) (F : Nat → Prop) (w : World) (rows : List RowOf) : Prop :=
  ∀ r ∈ rows, w.ownsRow N r.e 1 r.v r.xs.length r.xs ∧ ∀ k, r.v.ownBlock = some k → ¬ F k
/-- W: the world in which the law began. -/
def Besides (W w : World) (p g : Nat) (T : Tab) (rows : List RowOf) : Prop :=
  Below W.heap.size W w ∧ ∃ F, MineF W.heap.size F w w p g T ∧ Lies W.heap.size F w rows

section
variable {W w w' : World} {p g : Nat} {T : Tab} {rows : List RowOf}
theorem Besides.start {w0 : World} (h : Mine w0 w p g T) (h0 : 0 < w0.heap.size) : Besides w0 w p g T [] := ⟨h.2, _, MineF.start h h0, fun r hr => by simp at hr⟩
theorem Lies.table {N : Nat} {F : Nat → Prop} {g' : Nat} {T' : Tab} (h : Lies N F w rows) (hm : MineF N F w w' p g' T') : ∃ F', MineF N F' w' w' p g' T' ∧ Lies N F' w' rows := by
  refine ⟨_, hm.rebase (R := fun _ => False) (Turns.refl _ _) (fun k hk => hk.elim), fun r hr => ?_⟩
  obtain ⟨h1, h2⟩ := h r hr
  refine ⟨hm.row h1 h2, fun k hk hF => ?_⟩
  have := (h1.lt k hk).2
  rcases hF.1 with hF | hF
  · exact h2 k hk hF
  · omega
theorem Besides.table {F : Nat → Prop} {g' : Nat} {T' : Tab} (hB : Below W.heap.size W w) (h : Lies W.heap.size F w rows) (hm : MineF W.heap.size F w w' p g' T') : Besides W w' p g' T' rows :=
  ⟨hB.trans hm.below, h.table hm⟩
theorem Besides.wf (h : Besides W w p g T rows) : WF T := by
  obtain ⟨_, F, hm, _⟩ := h
  exact hm.wf
theorem Besides.more (h : Besides W w p g T rows) {g' : Nat} (hg : g ≤ g') : Besides W w p g' T rows := by
  obtain ⟨hB, F, hm, hr⟩ := h
  exact ⟨hB, F, hm.more hg, hr⟩
theorem Besides.past (h : Besides W w p g T rows) (hb : Below w.heap.size w w') : Besides W w' p g T rows := by
  obtain ⟨hB, F, hm, hr⟩ := h
  exact Besides.table hB hr (hm.past hb)
theorem Besides.alloc (h : Besides W w p g T rows) (o : Obj) : Besides W (w.alloc o) p g T rows := h.past ((Below.refl _ w).alloc (Nat.le_refl _) o)
theorem Besides.drawn (h : Besides W w p g T rows) (hd : Drawn0 w w') : Besides W w' p g T rows := by
  obtain ⟨n, rfl⟩ := hd
  exact h.past ⟨rfl, rfl, rfl, Nat.le_refl _, fun _ _ => rfl⟩
theorem Besides.pos (h : Besides W w p g T rows) : 0 < W.heap.size := by
  obtain ⟨_, F, hm, _⟩ := h
  exact hm.2.2.2.2
theorem Besides.blanks (h : Besides W w p g T rows) (hb : SymScan.Blanks W) : SymScan.Blanks w := hb.move (h.1.block 0 h.pos)
theorem Besides.swap {a b : RowOf} (h : Besides W w p g T (a :: b :: rows)) : Besides W w p g T (b :: a :: rows) := by
  obtain ⟨hB, F, hm, hr⟩ := h
  refine ⟨hB, F, hm, fun r hrr => hr r ?_⟩
  simp only [List.mem_cons] at hrr ⊢
  rcases hrr with h | h | h
  · exact .inr (.inl h)
  · exact .inl h
  · exact .inr (.inr h)
theorem Besides.tail {a : RowOf} (h : Besides W w p g T (a :: rows)) : Besides W w p g T rows := by
  obtain ⟨hB, F, hm, hr⟩ := h
  exact ⟨hB, F, hm, fun r hrr => hr r (List.mem_cons_of_mem _ hrr)⟩
theorem Besides.nil_ (h : Besides W w p g T rows) (e : TypeId) : Besides W w p g T (⟨e, .slice none 0 0, []⟩ :: rows) := by
  obtain ⟨hB, F, hm, hr⟩ := h
  refine ⟨hB, F, hm, fun r hrr => ?_⟩
  rcases List.mem_cons.1 hrr with rfl | hrr
  · exact ⟨World.ownsRow_nil _ _ _ _, fun k hk => by simp [Value.ownBlock] at hk⟩
  · exact hr r hrr
theorem Besides.lit (h : Besides W w p g T rows) (e : TypeId) (xs : List Value) (hx : xs.length ≤ maxLen) :
    Besides W (w.alloc (.cells xs.toArray e)) p g T (⟨e, .slice (some ⟨w.heap.size, 0, none⟩) xs.length xs.length, xs⟩ :: rows) := by
  obtain ⟨hB, F, hm, hr⟩ := h
  have hsz := hB.size
  refine ⟨hB.alloc hsz _, _, hm.rebase (R := fun _ => False) (Turns.alloc _ w (.cells xs.toArray e)) (fun k hk => hk.elim), fun r hrr => ?_⟩
  rcases List.mem_cons.1 hrr with rfl | hrr
  · refine ⟨⟨by simp, .inr ⟨w.heap.size, xs.length, xs.toArray, rfl, hsz, heap_alloc_new _ _, Nat.le_refl _, hx, by simp, by simp⟩⟩, fun k hk hF => ?_⟩
    simp only [Value.ownBlock, Option.some.injEq] at hk
    omega
  · obtain ⟨h1, h2⟩ := hr r hrr
    refine ⟨own_move h1 (fun k hk => Below.heap_alloc w _ k (h1.lt k hk).2), fun k hk hF => ?_⟩
    have := (h1.lt k hk).2
    rcases hF.1 with hF | hF
    · exact h2 k hk hF
    · omega
theorem Besides.own {r : RowOf} (h : Besides W w p g T rows) (hr : r ∈ rows) : w.ownsRow W.heap.size r.e 1 r.v r.xs.length r.xs := by
  obtain ⟨_, F, _, h2⟩ := h
  exact (h2 r hr).1
theorem Besides.appended {e : TypeId} {v v' u : Value} {xs : List Value} {n : Nat} (h : Besides W w p g T (⟨e, v, xs⟩ :: rows)) (hne : ∀ r ∈ rows, r.e ≠ e) (hn : xs.length = n)
    (hown : w'.ownsRow W.heap.size e 1 v' (n + 1) (xs ++ [u])) (hgrow : w.grownBy w' v.ownBlock) (hat : v'.ownBlock = v.ownBlock ∨ v'.ownBlock = some w.heap.size) : Besides W w' p g T (⟨e, v', xs ++ [u]⟩ :: rows) := by
  obtain ⟨hB, F, hm, hr⟩ := h
  obtain ⟨h1, h2⟩ := hr _ (List.mem_cons_self ..)
  have hsz := hB.size
  have ht : Turns (fun k => v.ownBlock = some k) w w' := Turns.of_grown hgrow (fun k hk => hk)
  refine ⟨hB.trans (ht.below hsz (fun k hk => (h1.lt k hk).1)), _, hm.rebase ht (fun k hk hlt => ⟨h2 k hk, hlt⟩), fun r hrr => ?_⟩
  rcases List.mem_cons.1 hrr with rfl | hrr
  · refine ⟨by simpa [hn] using hown, fun k hk hF => ?_⟩
    rcases hat with e | e
    · rw [show (RowOf.mk _ v' _).v.ownBlock = _ from e] at hk
      have := (h1.lt k hk).2
      rcases hF.1 with hF | hF
      · exact h2 k hk hF
      · omega
    · rw [show (RowOf.mk _ v' _).v.ownBlock = _ from e] at hk
      simp only [Option.some.injEq] at hk
      omega
  · obtain ⟨h3, h4⟩ := hr r (List.mem_cons_of_mem _ hrr)
    refine ⟨own_move h3 (fun k hk => ht.block k (h3.lt k hk).2 (fun hv => ?_)), fun k hk hF => ?_⟩
    · obtain ⟨c1, z1, e1⟩ := Go.Lib.ownsRow_kind h1 k hv
      obtain ⟨c2, z2, e2⟩ := Go.Lib.ownsRow_kind h3 k hk
      rw [e1] at e2
      simp only [Option.some.injEq, Obj.cells.injEq] at e2
      exact hne r hrr e2.2.1.symm
    · have := (h3.lt k hk).2
      rcases hF.1 with hF | hF
      · exact h4 k hk hF
      · omega

/-! ### the calls -/
theorem count_isB (h : Besides W w p g T rows) {n : Nat} (hn : T.syms.length = n) : Calls Tryd.prog 20 #[.pointer (some ⟨p, 0, none⟩)] w fun e w' => e = .returned (.int .i64 (n : Int)) ∧ Besides W w' p g T rows := by
  obtain ⟨hB, F, hm, hr⟩ := h
  exact (count_isF hm hn).mono fun e w' ⟨he, hd⟩ => ⟨he, Besides.table hB hr hd⟩
theorem depth_isB (h : Besides W w p g T rows) {n : Nat} (hn : T.scopes.length = n) : Calls Tryd.prog 16 #[.pointer (some ⟨p, 0, none⟩)] w fun e w' => e = .returned (.int .i64 (n : Int)) ∧ Besides W w' p g T rows := by
  obtain ⟨hB, F, hm, hr⟩ := h
  exact (depth_isF hm hn).mono fun e w' ⟨he, hd⟩ => ⟨he, Besides.table hB hr hd⟩
theorem name_isB (h : Besides W w p g T rows) {n : Int} {s : ByteArray} (hs : nameT T n = s) : Calls Tryd.prog 23 #[.pointer (some ⟨p, 0, none⟩), .int .i64 n] w fun e w' => e = .returned (.string s) ∧ Besides W w' p g T rows := by
  obtain ⟨hB, F, hm, hr⟩ := h
  exact (name_isF hm hs).mono fun e w' ⟨he, hd⟩ => ⟨he, Besides.table hB hr hd⟩
theorem isVar_isB (h : Besides W w p g T rows) {n : Int} {b : Bool} (hb : isVarT T n = b) : Calls Tryd.prog 24 #[.pointer (some ⟨p, 0, none⟩), .int .i64 n] w fun e w' => e = .returned (.bool b) ∧ Besides W w' p g T rows := by
  obtain ⟨hB, F, hm, hr⟩ := h
  exact (isVar_isF hm hb).mono fun e w' ⟨he, hd⟩ => ⟨he, Besides.table hB hr hd⟩
theorem active_isB (h : Besides W w p g T rows) {n : Int} {b : Bool} (hb : activeT T n = b) : Calls Tryd.prog 21 #[.pointer (some ⟨p, 0, none⟩), .int .i64 n] w fun e w' => e = .returned (.bool b) ∧ Besides W w' p g T rows := by
  obtain ⟨hB, F, hm, hr⟩ := h
  exact (active_isF hm hb).mono fun e w' ⟨he, hd⟩ => ⟨he, Besides.table hB hr hd⟩
theorem find_isB (h : Besides W w p g T rows) {s : ByteArray} (hs : s.size ≤ maxLen) {n : Nat} {b : Bool} (hb : findT T s = (n, b)) : Calls Tryd.prog 31 #[.pointer (some ⟨p, 0, none⟩), .string s] w fun e w' => e = .returned (.tuple #[.int .i64 (n : Int), .bool b]) ∧ Besides W w' p g T rows := by
  obtain ⟨hB, F, hm, hr⟩ := h
  exact (find_isF hm hs hb).mono fun e w' ⟨he, hd⟩ => ⟨he, Besides.table hB hr hd⟩
theorem const_isB (hb : SymScan.Blanks W) (h : Besides W w p g T rows) {s : ByteArray} (hs : s.size ≤ maxLen) (hg : g + 2 < maxLen) {T' : Tab} {n c : Nat} (hc : constT T s = (T', n, c)) : Calls Tryd.prog 18 #[.pointer (some ⟨p, 0, none⟩), .string s] w fun e w' => e = .returned (.tuple #[.int .i64 (n : Int), .int .i64 (c : Int)]) ∧ Besides W w' p (g + 2) T' rows := by
  have hb' := h.blanks hb
  obtain ⟨hB, F, hm, hr⟩ := h
  exact (const_isF hm hb' hs hg hc).mono fun e w' ⟨he, hd⟩ => ⟨he, Besides.table hB hr hd⟩
theorem var_isB (hb : SymScan.Blanks W) (h : Besides W w p g T rows) {s : ByteArray} (hs : s.size ≤ maxLen) (hg : g + 2 < maxLen) {T' : Tab} {n c : Nat} (hc : varT T s = (T', n, c)) : Calls Tryd.prog 22 #[.pointer (some ⟨p, 0, none⟩), .string s] w fun e w' => e = .returned (.tuple #[.int .i64 (n : Int), .int .i64 (c : Int)]) ∧ Besides W w' p (g + 2) T' rows := by
  have hb' := h.blanks hb
  obtain ⟨hB, F, hm, hr⟩ := h
  exact (var_isF hm hb' hs hg hc).mono fun e w' ⟨he, hd⟩ => ⟨he, Besides.table hB hr hd⟩
theorem open_isB (h : Besides W w p g T rows) {T' : Tab} {c : Nat} (hc : openS T = (T', c)) : Calls Tryd.prog 17 #[.pointer (some ⟨p, 0, none⟩)] w fun e w' => e = .returned (.int .i64 (c : Int)) ∧ Besides W w' p g T' rows := by
  obtain ⟨hB, F, hm, hr⟩ := h
  exact (open_isF hm hc).mono fun e w' ⟨he, hd⟩ => ⟨he, Besides.table hB hr hd⟩
theorem close_isB (h : Besides W w p g T rows) {T' : Tab} {c : Nat} (hc : closeS T = (T', c)) : Calls Tryd.prog 19 #[.pointer (some ⟨p, 0, none⟩)] w fun e w' => e = .returned (.int .i64 (c : Int)) ∧ Besides W w' p g T' rows := by
  obtain ⟨hB, F, hm, hr⟩ := h
  exact (close_isF hm hc).mono fun e w' ⟨he, hd⟩ => ⟨he, Besides.table hB hr hd⟩
theorem label_isB (h : Besides W w p g T rows) {s : ByteArray} (hs : s.size ≤ maxLen) (hg : g + 2 < maxLen) {T' : Tab} {c : Nat} (hc : labelT T s = (T', c)) : Calls Tryd.prog 25 #[.pointer (some ⟨p, 0, none⟩), .string s] w fun e w' => e = .returned (.int .i64 (c : Int)) ∧ Besides W w' p (g + 2) T' rows := by
  obtain ⟨hB, F, hm, hr⟩ := h
  exact (label_isF hm hs hg hc).mono fun e w' ⟨he, hd⟩ => ⟨he, Besides.table hB hr hd⟩
theorem does_isB (hb : SymScan.Blanks W) (h : Besides W w p g T rows) (x : OpRec) (hs : x.s.size ≤ maxLen) (hg : g + 2 < maxLen) : Calls Tryd.prog 14 #[.pointer (some ⟨p, 0, none⟩), .agg #[.int .i64 x.k, .string x.s, .int .i64 x.n]] w fun e w' => e = .returned (.tuple #[]) ∧ Besides W w' p (g + 2) (doT T x.k x.s) rows := by
  have hb' := h.blanks hb
  obtain ⟨hB, F, hm, hr⟩ := h
  exact (does_isF hm hb' x hs hg).mono fun e w' ⟨he, hd⟩ => ⟨he, Besides.table hB hr hd⟩
end
end Go.Proofs.YtpoojimmponklaaDoor.SymLists
