/- The calls on a table, as their callers see them. -/
import Derived.Test.YtpoojimmponklaaDoorKeep
import Derived.Test.YtpoojimmponklaaDoorNew
import Derived.Test.YtpoojimmponklaaDoorOpen
import Derived.Test.YtpoojimmponklaaDoorLabel
namespace Go.Proofs.YtpoojimmponklaaDoor.SymApi
set_option linter.unusedVariables false
open Go.RowKit Go.Maps Go.Proofs.YtpoojimmponklaaDoor.SymTab Go.Proofs.YtpoojimmponklaaDoor.SymHeap Go.Proofs.YtpoojimmponklaaDoor.SymReads Go.Proofs.YtpoojimmponklaaDoor.SymAdd Go.Proofs.YtpoojimmponklaaDoor.SymConst Go.Proofs.YtpoojimmponklaaDoor.SymScan
open Go.Proofs.YtpoojimmponklaaDoor.SymOpen Go.Proofs.YtpoojimmponklaaDoor.SymLabel Go.Proofs.YtpoojimmponklaaDoor.SymVar Go.Proofs.YtpoojimmponklaaDoor.SymClose Go.Proofs.YtpoojimmponklaaDoor.SymNew
open Go.Proofs.YtpoojimmponklaaDoorW.PrintWords (Aside0 Drawn0)

/-- A footprint, and all that is made from now on. -/
def More (fp : Nat → Prop) (n : Nat) : Nat → Prop := fun k => fp k ∨ n ≤ k
/-- What a call has made of a table. -/
def Does (w w' : World) (p g : Nat) (T : Tab) (fp : Nat → Prop) : Prop := TabIs w' p g T (More fp w.heap.size) ∧ Turns fp w w'

theorem does_of {w w' : World} {p g : Nat} {T : Tab} {q : Parts} {fp : Nat → Prop} (hw : WF T) (hf : ∀ k, q.has p k → fp k) (h : TabSteps w w' p g T q) : Does w w' p g T fp := by
  obtain ⟨q', a, b, c⟩ := h
  exact ⟨⟨hw, q', a, fun k hk => by rcases b k hk with h | h; exact .inl (hf k h); exact .inr h⟩, c.mono hf⟩

section
variable {w : World} {p g : Nat} {T : Tab} {fp : Nat → Prop}
theorem open_api (h : TabIs w p g T fp) : Calls Tryd.prog 17 #[.pointer (some ⟨p, 0, none⟩)] w fun e w' => e = .returned (.int .i64 ((openS T).2 : Int)) ∧ Does w w' p g (openS T).1 fp := by
  obtain ⟨hw, q, hq, hf⟩ := h
  exact (open_calls hq hw.deep).mono fun e w' ⟨he, hs⟩ => ⟨he, does_of (wf_open hw) hf hs⟩
theorem close_api (h : TabIs w p g T fp) : Calls Tryd.prog 19 #[.pointer (some ⟨p, 0, none⟩)] w fun e w' => e = .returned (.int .i64 ((closeS T).2 : Int)) ∧ Does w w' p g (closeS T).1 fp := by
  obtain ⟨hw, q, hq, hf⟩ := h
  exact (close_calls hw hq).mono fun e w' ⟨he, hs⟩ => ⟨he, does_of (wf_close hw) hf hs⟩
theorem const_api (hb : Blanks w) (h : TabIs w p g T fp) (s : ByteArray) (hs : s.size ≤ maxLen) (hg : g + 2 < maxLen) :
    Calls Tryd.prog 18 #[.pointer (some ⟨p, 0, none⟩), .string s] w fun e w' => e = .returned (.tuple #[.int .i64 ((constT T s).2.1 : Int), .int .i64 ((constT T s).2.2 : Int)]) ∧ Does w w' p (g + 2) (constT T s).1 fp := by
  obtain ⟨hw, q, hq, hf⟩ := h
  exact (const_calls hb hq s hs hg).mono fun e w' ⟨he, hs⟩ => ⟨he, does_of (wf_const hw s) hf hs⟩
theorem var_api (hb : Blanks w) (h : TabIs w p g T fp) (s : ByteArray) (hs : s.size ≤ maxLen) (hg : g + 2 < maxLen) :
    Calls Tryd.prog 22 #[.pointer (some ⟨p, 0, none⟩), .string s] w fun e w' => e = .returned (.tuple #[.int .i64 ((varT T s).2.1 : Int), .int .i64 ((varT T s).2.2 : Int)]) ∧ Does w w' p (g + 2) (varT T s).1 fp := by
  obtain ⟨hw, q, hq, hf⟩ := h
  exact (var_calls hb hw hq s hs hg).mono fun e w' ⟨he, hs⟩ => ⟨he, does_of (wf_var hw s) hf hs⟩
theorem label_api (h : TabIs w p g T fp) (s : ByteArray) (hs : s.size ≤ maxLen) (hg : g + 2 < maxLen) :
    Calls Tryd.prog 25 #[.pointer (some ⟨p, 0, none⟩), .string s] w fun e w' => e = .returned (.int .i64 ((labelT T s).2 : Int)) ∧ Does w w' p (g + 2) (labelT T s).1 fp := by
  obtain ⟨hw, q, hq, hf⟩ := h
  refine (label_calls hq s hs hw.labels (by omega)).mono fun e w' ⟨he, hs⟩ => ⟨he, ?_⟩
  obtain ⟨q', a, b, c⟩ := hs
  exact does_of (wf_label hw s) hf ⟨q', a.more (by omega), b, c⟩
theorem find_api (h : TabIs w p g T fp) (s : ByteArray) (hs : s.size ≤ maxLen) :
    Calls Tryd.prog 31 #[.pointer (some ⟨p, 0, none⟩), .string s] w fun e w' => e = .returned (.tuple #[.int .i64 ((findT T s).1 : Int), .bool (findT T s).2]) ∧ Drawn0 w w' := by
  refine (find_calls h s hs).mono fun e w' ⟨he, hw'⟩ => ⟨?_, hw' ▸ Drawn0.refl w⟩
  rw [he]
  unfold findT
  cases T.act s <;> rfl
theorem new_api : Calls Tryd.prog 33 #[] w fun e w' => ∃ p, e = .returned (.pointer (some ⟨p, 0, none⟩)) ∧ TabIs w' p 0 empty (fun k => w.heap.size ≤ k) ∧ Turns None w w' :=
  new_calls.mono fun _ _ ⟨p, q, he, hq, hf, ht⟩ => ⟨p, he, ⟨WF.empty, q, hq, hf⟩, ht⟩
end

/-- Draws turn nothing. -/
theorem tab_drawn {w w' : World} {p g : Nat} {T : Tab} {fp : Nat → Prop} (h : TabIs w p g T fp) (hd : Drawn0 w w') : TabIs w' p g T fp := by
  obtain ⟨n, rfl⟩ := hd
  exact h.move (fun _ _ => rfl)
theorem blanks_turns {w w' : World} {fp : Nat → Prop} (h : Blanks w) (ht : Turns fp w w') (hn : ¬ fp 0) : Blanks w' := h.move (ht.block 0 h.lt hn)
theorem blanks_drawn {w w' : World} (h : Blanks w) (hd : Drawn0 w w') : Blanks w' := by
  obtain ⟨n, rfl⟩ := hd
  exact h.move rfl

/-- does: one call of any kind. -/
def doT (T : Tab) (k : Int) (s : ByteArray) : Tab :=
  if k = 1 then (openS T).1 else if k = 2 then (closeS T).1 else if k = 3 then (constT T s).1 else if k = 4 then (varT T s).1 else if k = 10 then (labelT T s).1 else T

theorem tab_alloc {w : World} {p g : Nat} {T : Tab} {fp : Nat → Prop} (h : TabIs w p g T fp) (o : Obj) : TabIs (w.alloc o) p g T (fun k => fp k ∧ k < w.heap.size) :=
  h.bound.move (fun k hk => Below.heap_alloc w o k hk.2)
theorem does_alloc {w w' : World} {o : Obj} {p g : Nat} {T : Tab} {fp : Nat → Prop} (h : Does (w.alloc o) w' p g T (fun k => fp k ∧ k < w.heap.size)) : Does w w' p g T fp := by
  obtain ⟨h1, h2⟩ := h
  refine ⟨h1.mono (fun k hk => ?_), Turns.trans (Turns.alloc fp w o) h2 (fun k hk => .inl hk.1)⟩
  rcases hk with hk | hk
  · exact .inl hk.1
  · right; simp at hk; omega
theorem Does.more {w w' : World} {p g g' : Nat} {T : Tab} {fp : Nat → Prop} (h : Does w w' p g T fp) (hg : g ≤ g') : Does w w' p g' T fp := ⟨h.1.more hg, h.2⟩

set_option maxHeartbeats 1000000 in
theorem does_1 {w : World} {p g : Nat} {T : Tab} {fp : Nat → Prop} (hb : Blanks w) (h : TabIs w p g T fp) (s : ByteArray) (n : Int) (hs : s.size ≤ maxLen) (hg : g + 2 < maxLen) :
    Calls Tryd.prog 14 #[.pointer (some ⟨p, 0, none⟩), .agg #[.int .i64 1, .string s, .int .i64 n]] w fun e w' => e = .returned (.tuple #[]) ∧ Does w w' p (g + 2) (doT T 1 s) fp := by
  have Hb' := Lib.hid (hb.move (w' := w.alloc (Obj.cells #[Value.int IntKind.i64 1, Value.string s, Value.int IntKind.i64 n] 28)) (Below.heap_alloc w _ 0 hb.lt))
  have H := Lib.hid (tab_alloc h (Obj.cells #[Value.int IntKind.i64 1, Value.string s, Value.int IntKind.i64 n] 28))
  clear hb h
  go_enter Tryd.func14, Tryd.ntmps14
  go_wp2_with (go_at_call 17; refine (open_api H.out ).mono ?_; rintro e w' ⟨rfl, hd⟩; have Hd := Lib.hid hd; clear hd)
  go_end0
  exact ⟨rfl, (does_alloc Hd.out).more (by omega)⟩

set_option maxHeartbeats 1000000 in
theorem does_2 {w : World} {p g : Nat} {T : Tab} {fp : Nat → Prop} (hb : Blanks w) (h : TabIs w p g T fp) (s : ByteArray) (n : Int) (hs : s.size ≤ maxLen) (hg : g + 2 < maxLen) :
    Calls Tryd.prog 14 #[.pointer (some ⟨p, 0, none⟩), .agg #[.int .i64 2, .string s, .int .i64 n]] w fun e w' => e = .returned (.tuple #[]) ∧ Does w w' p (g + 2) (doT T 2 s) fp := by
  have Hb' := Lib.hid (hb.move (w' := w.alloc (Obj.cells #[Value.int IntKind.i64 2, Value.string s, Value.int IntKind.i64 n] 28)) (Below.heap_alloc w _ 0 hb.lt))
  have H := Lib.hid (tab_alloc h (Obj.cells #[Value.int IntKind.i64 2, Value.string s, Value.int IntKind.i64 n] 28))
  clear hb h
  go_enter Tryd.func14, Tryd.ntmps14
  go_wp2_with (go_at_call 19; refine (close_api H.out ).mono ?_; rintro e w' ⟨rfl, hd⟩; have Hd := Lib.hid hd; clear hd)
  go_end0
  exact ⟨rfl, (does_alloc Hd.out).more (by omega)⟩

set_option maxHeartbeats 1000000 in
theorem does_3 {w : World} {p g : Nat} {T : Tab} {fp : Nat → Prop} (hb : Blanks w) (h : TabIs w p g T fp) (s : ByteArray) (n : Int) (hs : s.size ≤ maxLen) (hg : g + 2 < maxLen) :
    Calls Tryd.prog 14 #[.pointer (some ⟨p, 0, none⟩), .agg #[.int .i64 3, .string s, .int .i64 n]] w fun e w' => e = .returned (.tuple #[]) ∧ Does w w' p (g + 2) (doT T 3 s) fp := by
  have Hb' := Lib.hid (hb.move (w' := w.alloc (Obj.cells #[Value.int IntKind.i64 3, Value.string s, Value.int IntKind.i64 n] 28)) (Below.heap_alloc w _ 0 hb.lt))
  have H := Lib.hid (tab_alloc h (Obj.cells #[Value.int IntKind.i64 3, Value.string s, Value.int IntKind.i64 n] 28))
  clear hb h
  go_enter Tryd.func14, Tryd.ntmps14
  go_wp2_with (go_at_call 18; refine (const_api Hb'.out H.out s hs hg).mono ?_; rintro e w' ⟨rfl, hd⟩; have Hd := Lib.hid hd; clear hd)
  go_end0
  exact ⟨rfl, does_alloc Hd.out⟩

set_option maxHeartbeats 1000000 in
theorem does_4 {w : World} {p g : Nat} {T : Tab} {fp : Nat → Prop} (hb : Blanks w) (h : TabIs w p g T fp) (s : ByteArray) (n : Int) (hs : s.size ≤ maxLen) (hg : g + 2 < maxLen) :
    Calls Tryd.prog 14 #[.pointer (some ⟨p, 0, none⟩), .agg #[.int .i64 4, .string s, .int .i64 n]] w fun e w' => e = .returned (.tuple #[]) ∧ Does w w' p (g + 2) (doT T 4 s) fp := by
  have Hb' := Lib.hid (hb.move (w' := w.alloc (Obj.cells #[Value.int IntKind.i64 4, Value.string s, Value.int IntKind.i64 n] 28)) (Below.heap_alloc w _ 0 hb.lt))
  have H := Lib.hid (tab_alloc h (Obj.cells #[Value.int IntKind.i64 4, Value.string s, Value.int IntKind.i64 n] 28))
  clear hb h
  go_enter Tryd.func14, Tryd.ntmps14
  go_wp2_with (go_at_call 22; refine (var_api Hb'.out H.out s hs hg).mono ?_; rintro e w' ⟨rfl, hd⟩; have Hd := Lib.hid hd; clear hd)
  go_end0
  exact ⟨rfl, does_alloc Hd.out⟩

set_option maxHeartbeats 1000000 in
theorem does_10 {w : World} {p g : Nat} {T : Tab} {fp : Nat → Prop} (hb : Blanks w) (h : TabIs w p g T fp) (s : ByteArray) (n : Int) (hs : s.size ≤ maxLen) (hg : g + 2 < maxLen) :
    Calls Tryd.prog 14 #[.pointer (some ⟨p, 0, none⟩), .agg #[.int .i64 10, .string s, .int .i64 n]] w fun e w' => e = .returned (.tuple #[]) ∧ Does w w' p (g + 2) (doT T 10 s) fp := by
  have Hb' := Lib.hid (hb.move (w' := w.alloc (Obj.cells #[Value.int IntKind.i64 10, Value.string s, Value.int IntKind.i64 n] 28)) (Below.heap_alloc w _ 0 hb.lt))
  have H := Lib.hid (tab_alloc h (Obj.cells #[Value.int IntKind.i64 10, Value.string s, Value.int IntKind.i64 n] 28))
  clear hb h
  go_enter Tryd.func14, Tryd.ntmps14
  go_wp2_with (go_at_call 25; refine (label_api H.out s hs hg).mono ?_; rintro e w' ⟨rfl, hd⟩; have Hd := Lib.hid hd; clear hd)
  go_end0
  exact ⟨rfl, does_alloc Hd.out⟩

set_option maxHeartbeats 1000000 in
theorem does_none {w : World} {p g : Nat} {T : Tab} {fp : Nat → Prop} (h : TabIs w p g T fp) (k : Int) (s : ByteArray) (n : Int) (h1 : k ≠ 1) (h2 : k ≠ 2) (h3 : k ≠ 3) (h4 : k ≠ 4) (h5 : k ≠ 10) :
    Calls Tryd.prog 14 #[.pointer (some ⟨p, 0, none⟩), .agg #[.int .i64 k, .string s, .int .i64 n]] w fun e w' => e = .returned (.tuple #[]) ∧ Does w w' p (g + 2) T fp := by
  have H := Lib.hid (tab_alloc h (Obj.cells #[Value.int IntKind.i64 k, Value.string s, Value.int IntKind.i64 n] 28))
  have b1 : (k == 1) = false := beq_eq_false_iff_ne.2 h1
  have b2 : (k == 2) = false := beq_eq_false_iff_ne.2 h2
  have b3 : (k == 3) = false := beq_eq_false_iff_ne.2 h3
  have b4 : (k == 4) = false := beq_eq_false_iff_ne.2 h4
  have b5 : (k == 10) = false := beq_eq_false_iff_ne.2 h5
  clear h h1 h2 h3 h4 h5
  go_enter Tryd.func14, Tryd.ntmps14
  go_wp2_with fail
  go_end0
  refine ⟨rfl, does_alloc ⟨H.out.mono (fun _ hk => .inl hk) |>.more (by omega), Turns.refl _ _⟩⟩

theorem does_calls {w : World} {p g : Nat} {T : Tab} {fp : Nat → Prop} (hb : Blanks w) (h : TabIs w p g T fp) (k : Int) (s : ByteArray) (n : Int) (hs : s.size ≤ maxLen) (hg : g + 2 < maxLen) :
    Calls Tryd.prog 14 #[.pointer (some ⟨p, 0, none⟩), .agg #[.int .i64 k, .string s, .int .i64 n]] w fun e w' => e = .returned (.tuple #[]) ∧ Does w w' p (g + 2) (doT T k s) fp := by
  by_cases h1 : k = 1
  · subst h1; exact does_1 hb h s n hs hg
  by_cases h2 : k = 2
  · subst h2; exact does_2 hb h s n hs hg
  by_cases h3 : k = 3
  · subst h3; exact does_3 hb h s n hs hg
  by_cases h4 : k = 4
  · subst h4; exact does_4 hb h s n hs hg
  by_cases h5 : k = 10
  · subst h5; exact does_10 hb h s n hs hg
  have : doT T k s = T := by unfold doT; rw [if_neg h1, if_neg h2, if_neg h3, if_neg h4, if_neg h5]
  rw [this]
  exact does_none h k s n h1 h2 h3 h4 h5
end Go.Proofs.YtpoojimmponklaaDoor.SymApi
