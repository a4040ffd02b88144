/- WordsRef, WordsTab, WordsPrint: in one text. -/
import Derived.Test.YtpoojimmponklaaDoorRefAll
import Derived.Test.YtpoojimmponklaaDoorKeepsAll
import Derived.Test.YtpoojimmponklaaDoorWordsPure
namespace Go.Proofs.YtpoojimmponklaaDoor.WordsRef
open Go.Proofs.YtpoojimmponklaaDoor.SymHeap hiding num
open Go.RowKit Go.Maps Go.Proofs.YtpoojimmponklaaDoor.SymTab Go.Proofs.YtpoojimmponklaaDoor.SymReads Go.Proofs.YtpoojimmponklaaDoor.SymApi Go.Proofs.YtpoojimmponklaaDoor.SymRef Go.Proofs.YtpoojimmponklaaDoor.SymRefDoes Go.Proofs.YtpoojimmponklaaDoor.SymRefMore Go.Proofs.YtpoojimmponklaaDoor.SymRefVar Go.Proofs.YtpoojimmponklaaDoor.SymPair Go.Proofs.YtpoojimmponklaaDoor.ReadW Go.Proofs.YtpoojimmponklaaDoor.KeepsFuns
open Go.Proofs.YtpoojimmponklaaDoorW.PrintWords
open Go.Proofs.YtpoojimmponklaaDoorW.PrintLast
open Go.Proofs.YtpoojimmponklaaDoor.KeepsLib (num)
set_option linter.unusedVariables false
set_option linter.unusedSimpArgs false
section
variable {w : World} {p g : Nat} {T : Tab} {R : Ref} {q : RParts}
end
end Go.Proofs.YtpoojimmponklaaDoor.WordsRef

namespace Go.Proofs.YtpoojimmponklaaDoor.WordsTab
open Go.Proofs.YtpoojimmponklaaDoor.SymHeap hiding num
open Go.RowKit Go.Maps Go.Proofs.YtpoojimmponklaaDoor.SymTab Go.Proofs.YtpoojimmponklaaDoor.SymReads Go.Proofs.YtpoojimmponklaaDoor.SymApi Go.Proofs.YtpoojimmponklaaDoor.SymSep Go.Proofs.YtpoojimmponklaaDoor.SymRef Go.Proofs.YtpoojimmponklaaDoor.SymRefDoes Go.Proofs.YtpoojimmponklaaDoor.SymRefMore Go.Proofs.YtpoojimmponklaaDoor.SymRefVar Go.Proofs.YtpoojimmponklaaDoor.SymRefLabel Go.Proofs.YtpoojimmponklaaDoor.SymPair Go.Proofs.YtpoojimmponklaaDoor.Handed Go.Proofs.YtpoojimmponklaaDoor.KeepsMore
open Go.Proofs.YtpoojimmponklaaDoorW.PrintWords
open Go.Proofs.YtpoojimmponklaaDoorW.PrintLast
open Go.Proofs.YtpoojimmponklaaDoor.KeepsLib (num)
set_option linter.unusedVariables false
set_option linter.unusedSimpArgs false

section
variable {W w : World} {rs : List Res} {p g r gr : Nat} {T : Tab} {s : ByteArray}
theorem s_const' (hb : SymScan.Blanks W) (h : SymSep.Sep W w (tabR p g T :: rs)) (hs : s.size ≤ maxLen) (hg : g + 2 < maxLen) :
    Calls Tryd.prog 18 #[.pointer (some ⟨p, 0, none⟩), .string s] w fun e w' => e = .returned (.tuple #[.int .i64 ((constT T s).2.1 : Int), .int .i64 ((constT T s).2.2 : Int)]) ∧ SymSep.Sep W w' (tabR p (g + 2) (constT T s).1 :: rs) :=
  h.calls fun F1 h1 => const_api (Handed.s_blanks h hb) h1 s hs hg
theorem s_var (hb : SymScan.Blanks W) (h : SymSep.Sep W w (tabR p g T :: rs)) (hs : s.size ≤ maxLen) (hg : g + 2 < maxLen) :
    Calls Tryd.prog 22 #[.pointer (some ⟨p, 0, none⟩), .string s] w fun e w' => e = .returned (.tuple #[.int .i64 ((varT T s).2.1 : Int), .int .i64 ((varT T s).2.2 : Int)]) ∧ SymSep.Sep W w' (tabR p (g + 2) (varT T s).1 :: rs) :=
  h.calls fun F1 h1 => var_api (Handed.s_blanks h hb) h1 s hs hg
theorem s_open (h : SymSep.Sep W w (tabR p g T :: rs)) :
    Calls Tryd.prog 17 #[.pointer (some ⟨p, 0, none⟩)] w fun e w' => e = .returned (.int .i64 ((openS T).2 : Int)) ∧ SymSep.Sep W w' (tabR p g (openS T).1 :: rs) :=
  h.calls fun F1 h1 => open_api h1
theorem s_close (h : SymSep.Sep W w (tabR p g T :: rs)) :
    Calls Tryd.prog 19 #[.pointer (some ⟨p, 0, none⟩)] w fun e w' => e = .returned (.int .i64 ((closeS T).2 : Int)) ∧ SymSep.Sep W w' (tabR p g (closeS T).1 :: rs) :=
  h.calls fun F1 h1 => close_api h1
theorem mir_empty : Mir empty ⟨[], [], []⟩ := by
  refine ⟨rfl, rfl, rel_empty, ?_⟩
  exact WF.empty
end

structure DeclRec where
  k : Int
  s : ByteArray
/-- Declarations lie in w. -/
structure Decls (w : World) (A : Option Addr) (l : List DeclRec) : Prop where
  some_ : 0 < l.length → ∃ a, A = some a
  at_ : ∀ a i x, A = some a → l[i]? = some x → w.cell? (a.add (i * 2)) = some (.int .i64 x.k) ∧ w.cell? ⟨(a.add (i * 2)).block, (a.add (i * 2)).off + 1, none⟩ = some (.string x.s) ∧ x.s.size ≤ maxLen
theorem Decls.below {w w' : World} {A : Option Addr} {l : List DeclRec} (h : Decls w A l) (hb : Below w.heap.size w w') : Decls w' A l := by
  refine ⟨h.some_, fun a i x ha hx => ?_⟩
  obtain ⟨h1, h2, h3⟩ := h.at_ a i x ha hx
  exact ⟨(hb.cell (World.block_lt_of_cell? w _ h1)).trans h1, (hb.cell (World.block_lt_of_cell? w _ h2)).trans h2, h3⟩

end Go.Proofs.YtpoojimmponklaaDoor.WordsTab

namespace Go.Proofs.YtpoojimmponklaaDoor.WordsPrint
open Go.Proofs.YtpoojimmponklaaDoor.SymHeap hiding num
open Go.RowKit Go.Maps Go.Proofs.YtpoojimmponklaaDoor.SymTab Go.Proofs.YtpoojimmponklaaDoor.SymReads Go.Proofs.YtpoojimmponklaaDoor.SymApi Go.Proofs.YtpoojimmponklaaDoor.SymRef Go.Proofs.YtpoojimmponklaaDoor.SymRefDoes Go.Proofs.YtpoojimmponklaaDoor.SymRefMore Go.Proofs.YtpoojimmponklaaDoor.SymRefVar Go.Proofs.YtpoojimmponklaaDoor.SymPair Go.Proofs.YtpoojimmponklaaDoor.KeepsFuns Go.Proofs.YtpoojimmponklaaDoor.KeepsLast Go.Proofs.YtpoojimmponklaaDoor.WordsPure Go.Proofs.YtpoojimmponklaaDoor.PExprWords
open Go.Proofs.YtpoojimmponklaaDoorW.PrintWords
open Go.Proofs.YtpoojimmponklaaDoorW.PrintLast
open Go.Proofs.YtpoojimmponklaaDoor.KeepsLib (num)
set_option linter.unusedVariables false
set_option linter.unusedSimpArgs false

theorem isEmpty_eq (s : ByteArray) : s.toList.isEmpty = decide (s = ByteArray.empty) := by
  rw [← str_eqb s ByteArray.empty, show ByteArray.empty.toList = [] by simp [ByteArray.toList, ByteArray.toList.loop]]
  cases s.toList <;> rfl
end Go.Proofs.YtpoojimmponklaaDoor.WordsPrint
