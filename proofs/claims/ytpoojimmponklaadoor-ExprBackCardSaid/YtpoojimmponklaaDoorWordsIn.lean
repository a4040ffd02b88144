/- What comes in: declarations, words, numbers; the tables that are laid. -/
import Derived.Test.YtpoojimmponklaaDoorWordsAll
import Derived.Test.YtpoojimmponklaaDoorWordsPure
import Derived.Test.YtpoojimmponklaaDoorIn
import Derived.Test.YtpoojimmponklaaDoorBulk
import Derived.SliceStrings
import Derived.Lib.ItoaMem
namespace Go.Proofs.YtpoojimmponklaaDoor.WordsIn
open Go.ChangeShapes Go.WideShapes Go.ChangeAt Go.RowKit Go.Deep
open Go.Proofs.YtpoojimmponklaaDoor.SymIn Go.Proofs.YtpoojimmponklaaDoor.SymScan Go.Proofs.YtpoojimmponklaaDoor.WordsTab Go.Proofs.YtpoojimmponklaaDoor.WordsPure
open Go.Proofs.YtpoojimmponklaaDoorW.PrintWords
set_option linter.unusedVariables false

/-- What a slice of numbers that came in reads as, and how long it may be. -/
theorem ints_open {H : Type} {enc : TypeId × Value → H} {W : World} {base : Nat} {spare : Nat → Bool} {held : Bool} {fuel : Nat} {cs : List Value} {x : DataW H × List MemPlace}
    (hf : DataW.trod enc Tryd.prog W base spare held fuel 57 cs = some x) : ∃ (a : Option Addr) (zs : List Int) (cap : Nat), cs = [.slice a zs.length cap] ∧ zs.length ≤ cap ∧ Kd.C (Kd.int .i64) W a zs.length zs ∧ zs.length ≤ Rows.uptoBulk x.1 ∧ Fits zs := by
  rcases open_ints Tryd.underlying57 Tryd.underlying3 (by kernel_rfl) hf with ⟨hcs, _⟩ | ⟨ad, len, cap, zs, hcs, _, hl, hm, hz, hx, hcell, hwz⟩
  · exact ⟨none, [], 0, hcs, Nat.le_refl _, Kd.C_nil _ _, by simp, fun n hn => by simp at hn⟩
  · subst hx
    have hz' : len ≤ zs.length := by
      rw [hz]
      split
      · exact hl
      · exact Nat.le_refl _
    have hlen : (zs.take len).length = len := by rw [List.length_take]; omega
    refine ⟨some ad, zs.take len, cap, by rw [hlen]; exact hcs, by omega, ?_, ?_, fun n hn => ?_⟩
    · refine ⟨rfl, by rw [hlen]; unfold maxLen at hm; omega, fun _ => ⟨ad, rfl, fun j p hj => ⟨[.int .i64 p], rfl, rfl, fun i u hu => ?_⟩⟩⟩
      have hi : i = 0 := by
        have := (List.getElem?_eq_some_iff.1 hu).1
        simpa using this
      subst hi
      have hu' : u = .int .i64 p := by simpa using hu.symm
      subst hu'
      have hj' := (List.getElem?_eq_some_iff.1 hj).1
      rw [List.length_take] at hj'
      have hc := hcell j (by omega)
      rw [List.getElem?_take] at hj
      split at hj
      · have : zs.getD j 0 = p := by rw [List.getD_eq_getElem?_getD, hj]; rfl
        rw [this] at hc
        rw [show j * (Kd.int .i64).sz + 0 = j from by show j * 1 + 0 = j; omega]
        exact hc
      · cases hj
    · have h1 := bulks.slice_le (H := H) (lits .i64 (zs.take len)) (lits .i64 (zs.drop len))
      have h2 : (lits (H := H) .i64 (zs.take len)).length = (zs.take len).length := by simp [lits]
      show _ ≤ Rows.uptoBulk (DataW.slice _ _)
      omega
    · have := hwz n (List.mem_of_mem_take hn)
      simp only [Lit.wf, Bool.and_eq_true, decide_eq_true_eq] at this
      exact this
theorem ints_in {H : Type} {enc : TypeId × Value → H} {W : World} {base : Nat} {spare : Nat → Bool} {held : Bool} {a : Option Addr} {len cap : Nat} {d : DataW H} {ps : List MemPlace}
    (h : DataW.Trod enc Tryd.prog W base spare held 57 (.slice a len cap) d ps) : ∃ zs : List Int, zs.length = len ∧ len ≤ cap ∧ Kd.C (Kd.int .i64) W a zs.length zs ∧ zs.length ≤ Rows.uptoBulk d ∧ Fits zs := by
  obtain ⟨fuel, hf⟩ := h
  obtain ⟨a', zs, c', hcs, hc, hC, hb, hfit⟩ := ints_open hf
  simp [Value.cells] at hcs
  obtain ⟨rfl, rfl, rfl⟩ := hcs
  exact ⟨zs, rfl, hc, hC, hb, hfit⟩
theorem strs_in {H : Type} {enc : TypeId × Value → H} {W : World} {base : Nat} {spare : Nat → Bool} {held : Bool} {a : Option Addr} {len cap : Nat} {d : DataW H} {ps : List MemPlace}
    (h : DataW.Trod enc Tryd.prog W base spare held 38 (.slice a len cap) d ps) : ∃ ss : List ByteArray, ss.length = len ∧ len ≤ cap ∧ (a = none → ss.length = 0 ∧ cap = 0) ∧ Kd.C Kd.string W a ss.length ss ∧ ss.length ≤ Rows.uptoBulk d ∧ ∀ s ∈ ss, s.size ≤ maxLen := by
  obtain ⟨fuel, hf⟩ := h
  rcases open_strings Tryd.underlying38 Tryd.underlying9 (by kernel_rfl) hf with ⟨hcs, _⟩ | ⟨ad, l, c, ss, hcs, _, hl, hm, hz, hx, hcell, hwz⟩
  · simp [Value.cells] at hcs
    obtain ⟨rfl, rfl, rfl⟩ := hcs
    exact ⟨[], rfl, Nat.le_refl _, fun _ => ⟨rfl, rfl⟩, ⟨rfl, by simp, fun h => absurd h (by simp)⟩, by simp, fun s hs => by simp at hs⟩
  · simp [Value.cells] at hcs
    obtain ⟨rfl, rfl, rfl⟩ := hcs
    obtain ⟨hx, _⟩ := Prod.mk.inj hx
    have hz' : len ≤ ss.length := by
      rw [hz]
      split
      · exact hl
      · exact Nat.le_refl _
    have hlen : (ss.take len).length = len := by rw [List.length_take]; omega
    subst hx
    refine ⟨ss.take len, hlen, hl, (fun h => by cases h), ⟨rfl, by rw [hlen]; unfold maxLen at hm; omega, fun _ => ⟨ad, rfl, fun j p hj => ⟨[.string p], rfl, rfl, fun i u hu => ?_⟩⟩⟩, ?_, fun s hs => hwz s (List.mem_of_mem_take hs)⟩
    · have hi : i = 0 := by
        have := (List.getElem?_eq_some_iff.1 hu).1
        simpa using this
      subst hi
      have hu' : u = .string p := by simpa using hu.symm
      subst hu'
      have hj' := (List.getElem?_eq_some_iff.1 hj).1
      rw [hlen] at hj'
      have hc := hcell j (by omega)
      rw [List.getElem?_take, if_pos hj'] at hj
      have : ss.getD j ByteArray.empty = p := by rw [List.getD_eq_getElem?_getD, hj]; rfl
      rw [this] at hc
      rw [show j * Kd.string.sz + 0 = j from by show j * 1 + 0 = j; omega]
      exact hc
    · have h1 := bulks.slice_le (H := H) (strs (ss.take len)) (strs (ss.drop len))
      have h2 : (strs (H := H) (ss.take len)).length = (ss.take len).length := by simp [strs]
      omega
theorem decls_in {H : Type} {enc : TypeId × Value → H} {W : World} {base : Nat} {spare : Nat → Bool} {held : Bool} {a : Option Addr} {len cap : Nat} {d : DataW H} {ps : List MemPlace}
    (h : DataW.Trod enc Tryd.prog W base spare held 73 (.slice a len cap) d ps) : ∃ l : List DeclRec, l.length = len ∧ Decls W a l ∧ l.length ≤ Rows.uptoBulk d := by
  obtain ⟨fuel, hf⟩ := h
  rcases open_slice_fields Tryd.underlying73 Tryd.underlying81 (by kernel_rfl) (by kernel_rfl) hf with ⟨hcs, _⟩ | ⟨x, l, c, m, D, Pl, hcs, _, hl, hm, hmm, hx, hi⟩
  · simp [Value.cells] at hcs
    obtain ⟨rfl, rfl, rfl⟩ := hcs
    exact ⟨[], rfl, ⟨fun h => by simp at h, fun a i x ha hx => by simp at hx⟩, by simp⟩
  · simp [Value.cells] at hcs
    obtain ⟨rfl, rfl, rfl⟩ := hcs
    obtain ⟨hx, _⟩ := Prod.mk.inj hx
    subst hx
    have hlm : len ≤ m := by
      rw [hmm]
      split
      · exact hl
      · exact Nat.le_refl _
    have hsl := bulks.slice_le ((List.range len).map D) ((List.range (m - len)).map fun j => D (len + j))
    simp only [List.length_map, List.length_range] at hsl
    have each : ∀ i, i < m → ∃ r : DeclRec, W.cell? (x.add (i * 2)) = some (.int .i64 r.k) ∧ W.cell? ⟨(x.add (i * 2)).block, (x.add (i * 2)).off + 1, none⟩ = some (.string r.s) ∧ r.s.size ≤ maxLen := by
      intro i hlt
      obtain ⟨ys, n, _, _, _, hf⟩ := hi i hlt
      obtain ⟨v0, y0, hc0, _, ht0⟩ := hf 0 _ rfl
      obtain ⟨v1, y1, hc1, _, ht1⟩ := hf 1 _ rfl
      obtain ⟨k, e0, _⟩ := DataW.trod_int Tryd.underlying3 ht0
      obtain ⟨s, e1, _, hs⟩ := DataW.trod_string Tryd.underlying9 ht1
      simp only [List.cons.injEq, and_true] at e0 e1
      subst e0 e1
      refine ⟨⟨k, s⟩, hc0, ?_, hs⟩
      rw [← add_one x (i * 2) 1 (by omega)]
      exact hc1
    have pick : ∀ n, n ≤ len → ∃ l : List DeclRec, l.length = n ∧ ∀ i r, l[i]? = some r → W.cell? (x.add (i * 2)) = some (.int .i64 r.k) ∧ W.cell? ⟨(x.add (i * 2)).block, (x.add (i * 2)).off + 1, none⟩ = some (.string r.s) ∧ r.s.size ≤ maxLen := by
      intro n
      induction n with
      | zero => intro _; exact ⟨[], rfl, fun i r h => by simp at h⟩
      | succ n ih =>
        intro hn
        obtain ⟨l, hl, hall⟩ := ih (by omega)
        obtain ⟨r, hr⟩ := each n (by omega)
        refine ⟨l ++ [r], by simp [hl], fun i q hq => ?_⟩
        by_cases hin : i < n
        · rw [List.getElem?_append_left (by omega)] at hq
          exact hall i q hq
        · have hi' : i = n := by
            have := (List.getElem?_eq_some_iff.1 hq).1
            simp at this
            omega
          subst hi'
          have : q = r := by
            rw [← hl] at hq
            simpa using hq.symm
          subst this
          exact hr
    obtain ⟨l, hl2, hall⟩ := pick len (Nat.le_refl _)
    refine ⟨l, hl2, ⟨fun _ => ⟨x, rfl⟩, fun a i r ha hr => ?_⟩, by omega⟩
    cases ha
    exact hall i r hr
theorem laid_tail {P : Program} {w : World} {x : String × DataW Unit} {r : List (String × DataW Unit)} (h : laidMet P (x :: r) w) : laidMet P r w := by
  obtain ⟨n, d⟩ := x
  obtain ⟨ps, ⟨g, t, cs, fuel, p, q, _, _, _, _, hv, rfl⟩, hn, hc⟩ := h
  exact ⟨q, hv, (List.nodup_append.1 hn).2.1, fun b off hm => hc b off (List.mem_append_right _ hm)⟩
theorem gPow : Tryd.prog.globalNamed "internal/strconv.uint64pow10" = some 1 := by kernel_rfl
theorem gPowType : (Tryd.prog.globals[1]?).map (·.type) = some 133 := by kernel_rfl
theorem pows_of {W : World} {rest : List (String × DataW Unit)} (h : laidMet Tryd.prog (("internal/strconv.uint64pow10", Lib.tabData .u64 Lib.pow10Tab) :: rest) W) : Lib.TabIs Tryd.prog W "internal/strconv.uint64pow10" .u64 Lib.pow10Tab :=
  Lib.tabIs_of_head gPow gPowType Tryd.underlying133 Tryd.underlying96 (by kernel_rfl) (by kernel_rfl) h
/-- A world for a witness: the tables hold what their initialisers lay. -/
def layAt (os : Os) (i : Nat) (cs : Array Value) (h : Array Obj) : Array Obj := h.modify i fun
  | .cells _ t frozen => .cells cs t frozen
  | o => o
def blankCells : Array Value := #[.bool false, .bool false, .bool false, .bool false, .bool false, .bool false, .bool false, .bool false, .bool false, .bool true, .bool true, .bool false, .bool true, .bool true, .bool false, .bool false, .bool false, .bool false, .bool false, .bool false, .bool false, .bool false, .bool false, .bool false, .bool false, .bool false, .bool false, .bool false, .bool false, .bool false, .bool false, .bool false, .bool true]
def cellsOfData : DataW Unit → Array Value
  | .agg l => (l.map fun | .lit (.int k z) => Value.int k z | .lit (.bool b) => .bool b | _ => .int .i64 0).toArray
  | _ => #[]
noncomputable def laidWorld4 (os : Os) : World :=
  { World.holding Tryd.prog os ⟨#[], #[], []⟩ with heap := layAt os 4 (cellsOfData Rows.laid_math_bits_deBruijn64tab) (layAt os 3 (cellsOfData Rows.laid_math_bits_deBruijn32tab) (layAt os 1 (cellsOfData Rows.laid_internal_strconv_uint64pow10) (layAt os 0 blankCells (World.holding Tryd.prog os ⟨#[], #[], []⟩).heap))) }
end Go.Proofs.YtpoojimmponklaaDoor.WordsIn
