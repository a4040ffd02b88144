/- ExprWords walked. -/
import Derived.Test.YtpoojimmponklaaDoorWordsOut
import Derived.Test.YtpoojimmponklaaDoorWordsAll
import Derived.Test.YtpoojimmponklaaDoorKeepsAll
namespace Go.Proofs.YtpoojimmponklaaDoor.WordsLaw
open Go.Proofs.YtpoojimmponklaaDoor.SymHeap hiding num
open Go.RowKit Go.Maps Go.Proofs.YtpoojimmponklaaDoor.SymTab Go.Proofs.YtpoojimmponklaaDoor.SymReads Go.Proofs.YtpoojimmponklaaDoor.SymApi Go.Proofs.YtpoojimmponklaaDoor.SymSep Go.Proofs.YtpoojimmponklaaDoor.SymRef Go.Proofs.YtpoojimmponklaaDoor.SymRefMore Go.Proofs.YtpoojimmponklaaDoor.KeepsPure Go.Proofs.YtpoojimmponklaaDoor.KeepsFuns Go.Proofs.YtpoojimmponklaaDoor.KeepsLast Go.Proofs.YtpoojimmponklaaDoor.ReadW Go.Proofs.YtpoojimmponklaaDoor.KeepsMore Go.Proofs.YtpoojimmponklaaDoor.KeepsLaw Go.Proofs.YtpoojimmponklaaDoor.WordsRef Go.Proofs.YtpoojimmponklaaDoor.WordsTab Go.Proofs.YtpoojimmponklaaDoor.WordsPrint Go.Proofs.YtpoojimmponklaaDoor.WordsOut Go.Proofs.YtpoojimmponklaaDoor.PExprKeeps
open Go.Proofs.YtpoojimmponklaaDoor.WordsPure (textTo Fits)
open Go.Proofs.YtpoojimmponklaaDoorW.PrintWords
open Go.Proofs.YtpoojimmponklaaDoorW.PrintLast
open Go.Proofs.YtpoojimmponklaaDoor.KeepsLib (num)
set_option linter.unusedVariables false
set_option linter.unusedSimpArgs false

/-- The first of a row of strings. -/
theorem row_front {w : World} {b : Nat} {A : Option Addr} {c : Nat} {ws more : List ByteArray} (h : w.ownsRow b 9 1 (.slice A (ws.length + more.length) c) (ws.length + more.length) ((ws ++ more).map Value.string)) (hl : ws.length ≤ 4194304) : Kd.C Kd.string w A ws.length ws := by
  refine ⟨rfl, by omega, fun h0 => ?_⟩
  obtain ⟨g, cap, e, _, hcell, _⟩ := row_some h (by omega)
  simp only [Value.slice.injEq] at e
  refine ⟨⟨g, 0, none⟩, e.1, fun j p hj => ⟨[.string p], rfl, rfl, fun i u hu => ?_⟩⟩
  have hi0 : i = 0 := by
    have := (List.getElem?_eq_some_iff.1 hu).1
    simpa using this
  subst hi0
  have hu' : u = .string p := by simpa using hu.symm
  subst hu'
  have hjl := (List.getElem?_eq_some_iff.1 hj).1
  rw [Addr.add_lit, show 0 + (j * Kd.string.sz + 0) = j from by show 0 + (j * 1 + 0) = j; omega]
  exact hcell j _ (by rw [List.map_append, List.getElem?_append_left (by simpa using hjl)]; simp [hj])

theorem s_fresh {W w w' : World} {rs : List Res} {e size : Nat} {v : Value} {n : Nat} {xs : List Value} (h : SymSep.Sep W w rs) (hb : Below w.heap.size w w') (ho : w'.ownsRow w.heap.size e size v n xs) : SymSep.Sep W w' (rowR e size v n xs :: rs) :=
  h.fresh (f := fun k => w.heap.size ≤ k) ⟨hb.os, hb.tape, hb.output, hb.size, fun k hk _ => hb.block k hk⟩ ⟨Handed.owns_zero ho, fun k hk => (ho.lt k hk).1⟩ (fun _ hk => hk)
end Go.Proofs.YtpoojimmponklaaDoor.WordsLaw
