/- What comes in: the table of blanks, and a script of calls. -/
import Derived.Test.YtpoojimmponklaaDoorTabAll
import Derived.Test.YtpoojimmponklaaDoorCards
import Derived.Test.YtpoojimmponklaaDoorTie
import Derived.ProofKit
import Derived.OpenShut
import Derived.ShutString
import Derived.ChangeOld
import Derived.Carry
import Derived.SizedLaws
import Derived.Deep.DeepHandedRow
import Derived.Deep.Slices
import Derived.Deep.Fields
import Derived.ChangeSame
import Derived.Lib.LaidTab
namespace Go.Proofs.YtpoojimmponklaaDoor.SymIn
open Go.ChangeShapes Go.WideShapes Go.ChangeAt Go.RowKit Go.Deep
open Go.Proofs.YtpoojimmponklaaDoor.SymScript Go.Proofs.YtpoojimmponklaaDoor.SymScan
set_option linter.unusedVariables false

theorem own : ownKnob Tryd.prog.godebug = none := by kernel_rfl
theorem laidOut : laidOutB Tryd.prog = true := by kernel_rfl
theorem gBlanks : Tryd.prog.globalNamed "lemma/scan.blanks" = some 0 := by kernel_rfl
theorem gType : (Tryd.prog.globals[0]?).map (·.type) = some 119 := by kernel_rfl
theorem cells119 : Tryd.prog.cellsOf 119 = 33 := by kernel_rfl
theorem cells4 : Tryd.prog.cellsOf 4 = 1 := by kernel_rfl

/-- An array of truths that can be read: each of its cells holds a truth. -/
theorem cells_of_bools {H : Type} {enc : TypeId × Value → H} {P : Program} {w : World} {base : Nat} {sp : Nat → Bool} {held : Bool} {fuel : Nat} {t e : TypeId} {n : Nat} {cs : List Value} {x : DataW H × List MemPlace}
    (ht : P.underlying t = some (.array n e)) (he : P.underlying e = some .bool) (hce : P.cellsOf e = 1) (hct : P.cellsOf t = n)
    (h : DataW.trod enc P w base sp held fuel t cs = some x) : ∀ i, i < n → ∃ b, cs[i]? = some (.bool b) := by
  cases fuel with
  | zero => simp [DataW.trod] at h
  | succ fuel =>
    simp only [DataW.trod, ht, hce, hct, Nat.mul_one] at h
    split at h
    · rename_i hl
      obtain ⟨xs, hm, hx⟩ := Option.map_eq_some_iff.1 h
      intro i hi
      obtain ⟨b, hb, hf⟩ := Lib.mapM_at hm i i (by simp [hi])
      obtain ⟨z, hc, _⟩ := DataW.trod_bool he hf
      refine ⟨z, ?_⟩
      have := congrArg (·[0]?) hc
      simpa [List.getElem?_take, List.getElem?_drop] using this
    · cases h

theorem blanks_of {W : World} {d : DataW Unit} (h : laidMet Tryd.prog [("lemma/scan.blanks", d)] W) : Blanks W := by
  obtain ⟨ps, ⟨g', t', cs, fuel, p, q, hg', ht', hvar, hd, _, _⟩, _⟩ := h
  obtain rfl := Option.some.inj (gBlanks.symm.trans hg')
  obtain rfl := Option.some.inj (gType.symm.trans ht')
  intro i hi
  obtain ⟨b, hb⟩ := cells_of_bools Tryd.underlying119 Tryd.underlying4 cells4 cells119 hd i hi
  refine ⟨b, ?_⟩
  rw [World.var?_cell gBlanks hvar i]
  simpa using hb

/-- An argument that is a slice of structs of one-cell fields. -/
theorem open_slice_fields {H : Type} {enc : TypeId × Value → H} {P : Program} {w : World} {base : Nat} {spare : Nat → Bool} {held : Bool} {t e : TypeId} {fs : Array Field} {fuel : Nat} {cs : List Value} {x : DataW H × List MemPlace} (ht : P.underlying t = some (.slice e)) (he : P.underlying e = some (.struct fs))
    (hone : oneCellFields P fs = true) (hC : P.cellsOf e = fs.size) (h : DataW.trod enc P w base spare held fuel t cs = some x) :
    (cs = [.slice none 0 0] ∧ x = (.nil, [])) ∨
    ∃ (a : Addr) (len cap m : Nat) (D : Nat → DataW H) (Pl : Nat → List MemPlace), cs = [.slice (some a) len cap] ∧ base ≤ a.block ∧ len ≤ cap ∧ cap ≤ maxLen ∧ m = (if spare a.block then cap else len) ∧
      x = (.slice ((List.range len).map D) ((List.range (m - len)).map fun j => D (len + j)), MemPlace.row a (m * fs.size) ++ (List.range m).flatMap Pl) ∧
      ∀ i, i < m → ∃ (ys : List (DataW H × List MemPlace)) (n : Nat), D i = .agg (ys.map (·.1)) ∧ Pl i = ys.flatMap (·.2) ∧ ys.length = fs.size ∧
        ∀ (j : Nat) (f : Field), fs[j]? = some f → ∃ (v : Value) (y : DataW H × List MemPlace), w.cell? (a.add (i * fs.size + j)) = some v ∧ ys[j]? = some y ∧ DataW.trod enc P w base spare held n f.type [v] = some y := by
  rcases open_slice ht h with h0 | ⟨a, len, cap, m, n, D, Pl, hcs, hb, hl, hm, hmm, hx, hi⟩
  · exact .inl h0
  · refine .inr ⟨a, len, cap, m, D, Pl, hcs, hb, hl, hm, hmm, by rw [hC] at hx; exact hx, fun i him => ?_⟩
    obtain ⟨cs', hc, ht'⟩ := hi i him
    rw [hC] at hc
    obtain ⟨ys, n', hn', hy, hlen, hyl, hf⟩ := DataW.trod_struct he ht'
    obtain ⟨_, hcl, hat⟩ := World.cells?_some hc
    simp only [Prod.mk.injEq] at hy
    refine ⟨ys, n', hy.1, hy.2, hyl, fun j f hj => ?_⟩
    obtain ⟨ho, hk⟩ := hone_of hone j f hj
    have hjl : j < fs.size := (Array.getElem?_eq_some_iff.1 hj).1
    have hcell := hat j hjl
    have hv : cs'[j]? = some (cs'[j]'(by omega)) := List.getElem?_eq_getElem (by omega)
    have h1 := hf j f hj
    rw [ho, hk] at h1
    have hone' : (cs'.drop j).take 1 = [cs'[j]'(by omega)] := by
      rw [List.drop_eq_getElem_cons (by omega)]
      rfl
    rw [hone'] at h1
    have hys : ys[j]? = some (ys[j]'(by omega)) := List.getElem?_eq_getElem (by omega)
    refine ⟨_, _, ?_, hys, h1.trans hys⟩
    rw [← Go.Deep.add_add, hcell, hv]

theorem add_one (a : Addr) (n j : Nat) (hj : 0 < j) : a.add (n + j) = ⟨(a.add n).block, (a.add n).off + j, none⟩ := by
  unfold Addr.add
  split
  · omega
  · split
    · rename_i h
      subst h
      simp
    · simp; omega

/-- A script that came in. -/
theorem script_in {H : Type} {enc : TypeId × Value → H} {W : World} {base : Nat} {spare : Nat → Bool} {held : Bool} {a : Option Addr} {len cap : Nat} {d : DataW H} {ps : List MemPlace} {ts : List TypeId} {ds : List (DataW H)} {j : Nat}
    (hsz : (DataW.weightsEach Tryd.prog ts ds).all (· ≤ reachBytes) = true) (ht : ts[j]? = some 22) (hd : ds[j]? = some d)
    (h : DataW.Trod enc Tryd.prog W base spare held 22 (.slice a len cap) d ps) : ∃ l : List OpRec, l.length = len ∧ Script W a l ∧ l.length ≤ 4398046511104 := by
  obtain ⟨fuel, hf⟩ := h
  rcases open_slice_fields Tryd.underlying22 Tryd.underlying28 (by kernel_rfl) (by kernel_rfl) hf with ⟨hcs, _⟩ | ⟨x, l, c, m, D, Pl, hcs, _, hl, hm, hmm, hx, hi⟩
  · simp [Value.cells] at hcs
    obtain ⟨rfl, rfl, rfl⟩ := hcs
    exact ⟨[], rfl, ⟨fun h => by simp at h, fun a i x ha hx => by simp at hx⟩, by simp⟩
  · simp [Value.cells] at hcs
    obtain ⟨rfl, rfl, rfl⟩ := hcs
    obtain ⟨hx, _⟩ := Prod.mk.inj hx
    subst hx
    have hlm : len ≤ m := by
      rw [hmm]
      split
      · exact hl
      · exact Nat.le_refl _
    have z := sized_slice hsz ht hd Tryd.underlying22
    have hb : Tryd.prog.bytesOf 28 = 32 := by kernel_rfl
    rw [hb] at z
    simp only [List.length_map, List.length_range] at z
    have hlen : len * 32 ≤ 140737488351232 := Nat.le_trans (Nat.mul_le_mul_right _ (by omega)) z
    have each : ∀ i, i < m → ∃ r : OpRec, W.cell? (x.add (i * 3)) = some (.int .i64 r.k) ∧ W.cell? ⟨(x.add (i * 3)).block, (x.add (i * 3)).off + 1, none⟩ = some (.string r.s) ∧ W.cell? ⟨(x.add (i * 3)).block, (x.add (i * 3)).off + 2, none⟩ = some (.int .i64 r.n) ∧ r.s.size ≤ maxLen := by
      intro i hlt
      obtain ⟨ys, n, _, _, _, hf⟩ := hi i hlt
      obtain ⟨v0, y0, hc0, _, ht0⟩ := hf 0 _ rfl
      obtain ⟨v1, y1, hc1, _, ht1⟩ := hf 1 _ rfl
      obtain ⟨v2, y2, hc2, _, ht2⟩ := hf 2 _ rfl
      obtain ⟨k, e0, _⟩ := DataW.trod_int Tryd.underlying3 ht0
      obtain ⟨s, e1, _, hs⟩ := DataW.trod_string Tryd.underlying9 ht1
      obtain ⟨k2, e2, _⟩ := DataW.trod_int Tryd.underlying3 ht2
      simp only [List.cons.injEq, and_true] at e0 e1 e2
      subst e0 e1 e2
      refine ⟨⟨k, s, k2⟩, hc0, ?_, ?_, hs⟩
      · rw [← add_one x (i * 3) 1 (by omega)]
        exact hc1
      · rw [← add_one x (i * 3) 2 (by omega)]
        exact hc2
    have pick : ∀ n, n ≤ len → ∃ l : List OpRec, l.length = n ∧ ∀ i r, l[i]? = some r → W.cell? (x.add (i * 3)) = some (.int .i64 r.k) ∧ W.cell? ⟨(x.add (i * 3)).block, (x.add (i * 3)).off + 1, none⟩ = some (.string r.s) ∧ W.cell? ⟨(x.add (i * 3)).block, (x.add (i * 3)).off + 2, none⟩ = some (.int .i64 r.n) ∧ r.s.size ≤ maxLen := by
      intro n
      induction n with
      | zero => intro _; exact ⟨[], rfl, fun i r h => by simp at h⟩
      | succ n ih =>
        intro hn
        obtain ⟨l, hl, hall⟩ := ih (by omega)
        obtain ⟨r, hr⟩ := each n (by omega)
        refine ⟨l ++ [r], by simp [hl], fun i q hq => ?_⟩
        by_cases hin : i < n
        · rw [List.getElem?_append_left (by omega)] at hq
          exact hall i q hq
        · have hi' : i = n := by
            have := (List.getElem?_eq_some_iff.1 hq).1
            simp at this
            omega
          subst hi'
          have : q = r := by
            rw [← hl] at hq
            simpa using hq.symm
          subst this
          exact hr
    obtain ⟨l, hl2, hall⟩ := pick len (Nat.le_refl _)
    refine ⟨l, hl2, ⟨fun _ => ⟨x, rfl⟩, fun a i r ha hr => ?_⟩, by omega⟩
    cases ha
    exact hall i r hr

/-- A world for a witness: the settled one, the table of blanks holding what its initialiser lays. -/
noncomputable def laidWorld (os : Os) : World :=
  { World.holding Tryd.prog os ⟨#[], #[], []⟩ with heap := (World.holding Tryd.prog os ⟨#[], #[], []⟩).heap.modify 0 fun
      | .cells _ t frozen => .cells #[.bool false, .bool false, .bool false, .bool false, .bool false, .bool false, .bool false, .bool false, .bool false, .bool true, .bool true, .bool false, .bool true, .bool true, .bool false, .bool false, .bool false, .bool false, .bool false, .bool false, .bool false, .bool false, .bool false, .bool false, .bool false, .bool false, .bool false, .bool false, .bool false, .bool false, .bool false, .bool false, .bool true] t frozen
      | o => o }
end Go.Proofs.YtpoojimmponklaaDoor.SymIn
