/- Maps keyed by pairs. -/
import Derived.Test.YtkonloadedbpkaaMaps
import Derived.Lib.SmallJoins
import Derived.ChangeSame
import Derived.ShutString
namespace Go.Proofs.Ytkonloadedbpkaa.FMaps
open Go.RowKit Go.Maps Go.Proofs.Ytkonloadedbpkaa.Sep Go.ChangeShapes Go.WideShapes Go.Joins
set_option linter.unusedVariables false
set_option maxRecDepth 100000

abbrev noEnc : TypeId × Value → Unit := fun _ => ()
theorem trodI (w : World) {n : Int} (h : (Lit.int .i64 n).wf = true) : ∃ k, DataW.trod noEnc Try.prog w 0 (fun _ => false) true k 3 [.int .i64 n] = some (.lit (.int .i64 n), []) := ⟨1, trod_int_mk 0 Try.underlying3 h⟩
theorem trodS (w : World) {s : ByteArray} (h : s.size ≤ maxLen) : ∃ k, DataW.trod noEnc Try.prog w 0 (fun _ => false) true k 9 [.string s] = some (.lit (.string s.data.toList), []) := by
  obtain ⟨k, hk⟩ := Go.ChangeMaps.shut_string (enc := noEnc) (w := w) (base := 0) (sp := fun _ => false) (held := true) Try.underlying9 h
  exact ⟨k, by simpa [Value.cells] using hk⟩
theorem formed87 {c0 c1 : Value} : (Value.agg #[c0, c1]).formed Try.prog 87 = true := by
  have : Try.prog.cellsOf 87 = 2 := by kernel_rfl
  simp [Value.formed, Try.underlying87, this]
theorem formed89 {c0 c1 : Value} : (Value.agg #[c0, c1]).formed Try.prog 89 = true := by
  have : Try.prog.cellsOf 89 = 2 := by kernel_rfl
  simp [Value.formed, Try.underlying89, this]
theorem reads87 {a b : Int} (ha : (Lit.int .i64 a).wf = true) (hb : (Lit.int .i64 b).wf = true) : ∃ l, keyOf Try.prog 87 (.agg #[.int .i64 a, .int .i64 b]) = some l :=
  ⟨_, (keyOf_asKey deep87 wide87 formed87 (shut_agg2 (w := default) Try.underlying87 (by kernel_rfl) (by kernel_rfl) (trodI default ha) (trodI default hb))).1⟩
theorem reads89 {s : ByteArray} {b : Int} (hs : s.size ≤ maxLen) (hb : (Lit.int .i64 b).wf = true) : ∃ l, keyOf Try.prog 89 (.agg #[.string s, .int .i64 b]) = some l :=
  ⟨_, (keyOf_asKey deep89 wide89 formed89 (shut_agg2 (w := default) Try.underlying89 (by kernel_rfl) (by kernel_rfl) (trodS default hs) (trodI default hb))).1⟩
/-- Maps keyed by a number and a number. -/
noncomputable def mL : MK (Nat × Nat) where
  T := 84
  K := 87
  ht := Try.underlying84
  law := Keyed.of_law law87
  enc x := .agg #[.int .i64 x.1, .int .i64 x.2]
  ok x := x.1 ≤ 4611686018427387904 ∧ x.2 ≤ 4611686018427387904
  reads x hx := reads87 (wf_small hx.1) (wf_small hx.2)
  inj a b h := by
    obtain ⟨a1, a2⟩ := a
    obtain ⟨b1, b2⟩ := b
    simp only [Value.agg.injEq, Array.mk.injEq, List.cons.injEq, Value.int.injEq, true_and, and_true] at h
    simp only [Prod.mk.injEq]
    omega
/-- Maps keyed by a label and a number. -/
noncomputable def mQ : MK (ByteArray × Nat) where
  T := 85
  K := 89
  ht := Try.underlying85
  law := Keyed.of_law law89
  enc x := .agg #[.string x.1, .int .i64 x.2]
  ok x := x.1.size ≤ maxLen ∧ x.2 ≤ 4611686018427387904
  reads x hx := reads89 hx.1 (wf_small hx.2)
  inj a b h := by
    obtain ⟨a1, a2⟩ := a
    obtain ⟨b1, b2⟩ := b
    simp only [Value.agg.injEq, Array.mk.injEq, List.cons.injEq, Value.int.injEq, Value.string.injEq, true_and, and_true] at h
    simp only [Prod.mk.injEq]
    exact ⟨h.1, by omega⟩
end Go.Proofs.Ytkonloadedbpkaa.FMaps
