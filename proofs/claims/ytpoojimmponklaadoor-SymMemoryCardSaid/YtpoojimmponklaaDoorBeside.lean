/- A table beside lists of the caller's own. -/
import Derived.Test.YtpoojimmponklaaDoorScript
namespace Go.Proofs.YtpoojimmponklaaDoor.SymBeside
open Go.RowKit Go.Maps Go.Proofs.YtpoojimmponklaaDoor.SymTab Go.Proofs.YtpoojimmponklaaDoor.SymHeap Go.Proofs.YtpoojimmponklaaDoor.SymApi Go.Proofs.YtpoojimmponklaaDoor.SymScript
open Go.Proofs.YtpoojimmponklaaDoorW.PrintWords (Aside0 Drawn0 own_move)
set_option linter.unusedVariables false

/-- A table that lies in F and in what was made since w0; N: the size of memory when the law began. -/
def MineF (N : Nat) (F : Nat → Prop) (w0 w : World) (p g : Nat) (T : Tab) : Prop :=
  TabIs w p g T (fun k => F k ∨ w0.heap.size ≤ k) ∧ Turns (fun k => F k ∨ w0.heap.size ≤ k) w0 w ∧ (∀ k, F k → N ≤ k) ∧ N ≤ w0.heap.size ∧ 0 < N
theorem MineF.does {N : Nat} {F : Nat → Prop} {w0 w w' : World} {p g g' : Nat} {T T' : Tab} (h : MineF N F w0 w p g T) (hd : Does w w' p g' T' (fun k => F k ∨ w0.heap.size ≤ k)) : MineF N F w0 w' p g' T' := by
  obtain ⟨h1, h2, h3⟩ := h
  have hs := h2.size
  refine ⟨hd.1.mono (fun k hk => ?_), h2.trans hd.2 (fun k hk => .inl hk), h3⟩
  rcases hk with hk | hk
  · exact hk
  · right; omega
theorem MineF.drawn {N : Nat} {F : Nat → Prop} {w0 w w' : World} {p g : Nat} {T : Tab} (h : MineF N F w0 w p g T) (hd : Drawn0 w w') : MineF N F w0 w' p g T := by
  obtain ⟨n, rfl⟩ := hd
  obtain ⟨h1, h2, h3⟩ := h
  exact ⟨h1.move (fun _ _ => rfl), ⟨h2.os, h2.tape, h2.output, h2.size, h2.block⟩, h3⟩
theorem MineF.past {N : Nat} {F : Nat → Prop} {w0 w w' : World} {p g : Nat} {T : Tab} (h : MineF N F w0 w p g T) (hb : Below w.heap.size w w') : MineF N F w0 w' p g T := by
  obtain ⟨h1, h2, h3⟩ := h
  exact ⟨(h1.bound.move (fun k hk => hb.block k hk.2)).mono (fun k hk => hk.1), h2.trans (fp' := fun _ => False) ⟨hb.os, hb.tape, hb.output, hb.size, fun i hi _ => hb.block i hi⟩ (fun k hk => hk.elim), h3⟩
theorem MineF.alloc {N : Nat} {F : Nat → Prop} {w0 w : World} {p g : Nat} {T : Tab} (h : MineF N F w0 w p g T) (o : Obj) : MineF N F w0 (w.alloc o) p g T :=
  h.past ((Below.refl _ w).alloc (Nat.le_refl _) o)
theorem MineF.below {N : Nat} {F : Nat → Prop} {w0 w : World} {p g : Nat} {T : Tab} (h : MineF N F w0 w p g T) : Below N w0 w :=
  h.2.1.below h.2.2.2.1 (fun k hk => by rcases hk with hk | hk; exact h.2.2.1 k hk; have := h.2.2.2.1; omega)
theorem MineF.blanks {N : Nat} {F : Nat → Prop} {w0 w : World} {p g : Nat} {T : Tab} (h : MineF N F w0 w p g T) (hb : SymScan.Blanks w0) : SymScan.Blanks w :=
  hb.move (h.below.block 0 h.2.2.2.2)
theorem MineF.more {N : Nat} {F : Nat → Prop} {w0 w : World} {p g g' : Nat} {T : Tab} (h : MineF N F w0 w p g T) (hg : g ≤ g') : MineF N F w0 w p g' T := ⟨h.1.more hg, h.2⟩
theorem MineF.wf {N : Nat} {F : Nat → Prop} {w0 w : World} {p g : Nat} {T : Tab} (h : MineF N F w0 w p g T) : WF T := h.1.1
/-- A row of the caller's own stays. -/
theorem MineF.row {N : Nat} {F : Nat → Prop} {w0 w : World} {p g : Nat} {T : Tab} (h : MineF N F w0 w p g T) {base e size n : Nat} {v : Value} {xs : List Value} (hr : w0.ownsRow base e size v n xs) (hn : ∀ k, v.ownBlock = some k → ¬ F k) : w.ownsRow base e size v n xs :=
  own_move hr (fun k hk => h.2.1.block k (hr.lt k hk).2 (fun e => by rcases e with e | e; exact hn k hk e; have := (hr.lt k hk).2; omega))
/-- What has been made beside the table (nothing that was there has turned, but a row that is not the table's) lies out of its way. -/
theorem MineF.rebase {N : Nat} {F : Nat → Prop} {w0 w w1 : World} {p g : Nat} {T : Tab} (h : MineF N F w0 w p g T) {R : Nat → Prop} (ht : Turns R w w1) (hR : ∀ k, R k → k < w.heap.size → ¬ F k ∧ k < w0.heap.size) :
    MineF N (fun k => (F k ∨ w0.heap.size ≤ k) ∧ k < w.heap.size) w1 w1 p g T := by
  obtain ⟨h1, h2, h3, h4, h5⟩ := h
  refine ⟨(h1.bound.move (fun k hk => ht.block k hk.2 (fun e => ?_))).mono (fun k hk => .inl hk), Turns.refl _ _, fun k hk => ?_, Nat.le_trans h4 (Nat.le_trans h2.size ht.size), h5⟩
  · obtain ⟨a, b⟩ := hR k e hk.2
    rcases hk.1 with hk | hk
    · exact a hk
    · omega
  · rcases hk.1 with hk | hk
    · exact h3 k hk
    · omega
theorem MineF.start {w0 w : World} {p g : Nat} {T : Tab} (h : Mine w0 w p g T) (h0 : 0 < w0.heap.size) : MineF w0.heap.size (fun k => w0.heap.size ≤ k ∧ k < w.heap.size) w w p g T := by
  refine ⟨h.1.bound.mono (fun k hk => .inl hk), Turns.refl _ _, fun k hk => hk.1, h.2.size, h0⟩

/-! ### the calls, with what they answer told -/
section
variable {N : Nat} {F : Nat → Prop} {w0 w : World} {p g : Nat} {T : Tab}
theorem count_isF (h : MineF N F w0 w p g T) {n : Nat} (hn : T.syms.length = n) : Calls Tryd.prog 20 #[.pointer (some ⟨p, 0, none⟩)] w fun e w' => e = .returned (.int .i64 (n : Int)) ∧ MineF N F w0 w' p g T := by
  subst hn
  exact (SymReads.count_calls h.1).mono fun e w' ⟨he, hd⟩ => ⟨he, h.drawn hd⟩
theorem depth_isF (h : MineF N F w0 w p g T) {n : Nat} (hn : T.scopes.length = n) : Calls Tryd.prog 16 #[.pointer (some ⟨p, 0, none⟩)] w fun e w' => e = .returned (.int .i64 (n : Int)) ∧ MineF N F w0 w' p g T := by
  subst hn
  exact (SymReads.depth_calls h.1).mono fun e w' ⟨he, hd⟩ => ⟨he, h.drawn hd⟩
theorem name_isF (h : MineF N F w0 w p g T) {n : Int} {s : ByteArray} (hs : nameT T n = s) : Calls Tryd.prog 23 #[.pointer (some ⟨p, 0, none⟩), .int .i64 n] w fun e w' => e = .returned (.string s) ∧ MineF N F w0 w' p g T := by
  subst hs
  exact (SymReads.name_calls h.1 n).mono fun e w' ⟨he, hd⟩ => ⟨he, hd ▸ h⟩
theorem isVar_isF (h : MineF N F w0 w p g T) {n : Int} {b : Bool} (hb : isVarT T n = b) : Calls Tryd.prog 24 #[.pointer (some ⟨p, 0, none⟩), .int .i64 n] w fun e w' => e = .returned (.bool b) ∧ MineF N F w0 w' p g T := by
  subst hb
  exact (SymReads.isVar_calls h.1 n).mono fun e w' ⟨he, hd⟩ => ⟨he, h.drawn hd⟩
theorem active_isF (h : MineF N F w0 w p g T) {n : Int} {b : Bool} (hb : activeT T n = b) : Calls Tryd.prog 21 #[.pointer (some ⟨p, 0, none⟩), .int .i64 n] w fun e w' => e = .returned (.bool b) ∧ MineF N F w0 w' p g T := by
  subst hb
  exact (SymReads.active_calls h.1 n).mono fun e w' ⟨he, hd⟩ => ⟨he, h.drawn hd⟩
theorem find_isF (h : MineF N F w0 w p g T) {s : ByteArray} (hs : s.size ≤ maxLen) {n : Nat} {b : Bool} (hb : findT T s = (n, b)) : Calls Tryd.prog 31 #[.pointer (some ⟨p, 0, none⟩), .string s] w fun e w' => e = .returned (.tuple #[.int .i64 (n : Int), .bool b]) ∧ MineF N F w0 w' p g T := by
  refine (find_api h.1 s hs).mono fun e w' ⟨he, hd⟩ => ⟨?_, h.drawn hd⟩
  rw [he, hb]
theorem const_isF (h : MineF N F w0 w p g T) (hb : SymScan.Blanks w0) {s : ByteArray} (hs : s.size ≤ maxLen) (hg : g + 2 < maxLen) {T' : Tab} {n c : Nat} (hc : constT T s = (T', n, c)) : Calls Tryd.prog 18 #[.pointer (some ⟨p, 0, none⟩), .string s] w fun e w' => e = .returned (.tuple #[.int .i64 (n : Int), .int .i64 (c : Int)]) ∧ MineF N F w0 w' p (g + 2) T' := by
  refine (const_api (h.blanks hb) h.1 s hs hg).mono fun e w' ⟨he, hd⟩ => ?_
  rw [hc] at he hd
  exact ⟨he, h.does hd⟩
theorem var_isF (h : MineF N F w0 w p g T) (hb : SymScan.Blanks w0) {s : ByteArray} (hs : s.size ≤ maxLen) (hg : g + 2 < maxLen) {T' : Tab} {n c : Nat} (hc : varT T s = (T', n, c)) : Calls Tryd.prog 22 #[.pointer (some ⟨p, 0, none⟩), .string s] w fun e w' => e = .returned (.tuple #[.int .i64 (n : Int), .int .i64 (c : Int)]) ∧ MineF N F w0 w' p (g + 2) T' := by
  refine (var_api (h.blanks hb) h.1 s hs hg).mono fun e w' ⟨he, hd⟩ => ?_
  rw [hc] at he hd
  exact ⟨he, h.does hd⟩
theorem open_isF (h : MineF N F w0 w p g T) {T' : Tab} {c : Nat} (hc : openS T = (T', c)) : Calls Tryd.prog 17 #[.pointer (some ⟨p, 0, none⟩)] w fun e w' => e = .returned (.int .i64 (c : Int)) ∧ MineF N F w0 w' p g T' := by
  refine (open_api h.1).mono fun e w' ⟨he, hd⟩ => ?_
  rw [hc] at he hd
  exact ⟨he, h.does hd⟩
theorem close_isF (h : MineF N F w0 w p g T) {T' : Tab} {c : Nat} (hc : closeS T = (T', c)) : Calls Tryd.prog 19 #[.pointer (some ⟨p, 0, none⟩)] w fun e w' => e = .returned (.int .i64 (c : Int)) ∧ MineF N F w0 w' p g T' := by
  refine (close_api h.1).mono fun e w' ⟨he, hd⟩ => ?_
  rw [hc] at he hd
  exact ⟨he, h.does hd⟩
theorem label_isF (h : MineF N F w0 w p g T) {s : ByteArray} (hs : s.size ≤ maxLen) (hg : g + 2 < maxLen) {T' : Tab} {c : Nat} (hc : labelT T s = (T', c)) : Calls Tryd.prog 25 #[.pointer (some ⟨p, 0, none⟩), .string s] w fun e w' => e = .returned (.int .i64 (c : Int)) ∧ MineF N F w0 w' p (g + 2) T' := by
  refine (label_api h.1 s hs hg).mono fun e w' ⟨he, hd⟩ => ?_
  rw [hc] at he hd
  exact ⟨he, h.does hd⟩
theorem does_isF (h : MineF N F w0 w p g T) (hb : SymScan.Blanks w0) (x : OpRec) (hs : x.s.size ≤ maxLen) (hg : g + 2 < maxLen) : Calls Tryd.prog 14 #[.pointer (some ⟨p, 0, none⟩), .agg #[.int .i64 x.k, .string x.s, .int .i64 x.n]] w fun e w' => e = .returned (.tuple #[]) ∧ MineF N F w0 w' p (g + 2) (doT T x.k x.s) :=
  (does_calls (h.blanks hb) h.1 x.k x.s x.n hs hg).mono fun e w' ⟨he, hd⟩ => ⟨he, h.does hd⟩
end

end Go.Proofs.YtpoojimmponklaaDoor.SymBeside
