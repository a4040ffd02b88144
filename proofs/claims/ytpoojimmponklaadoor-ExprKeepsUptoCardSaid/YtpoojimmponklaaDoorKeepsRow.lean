/- Lists that Join, Vars, Places and Read answer are the caller's own (ExprKeeps answers true, its arguments as they were, where they hold at most 1048576 values together; the table scan.blanks as the program's text lays it). -/
import Derived.Test.YtpoojimmponklaaDoorKeepsAll
import Derived.Test.YtpoojimmponklaaDoorIn
import Derived.Test.YtpoojimmponklaaDoorBulk
namespace Go.Proofs.YtpoojimmponklaaDoor.exprKeeps
open Go.ChangeShapes Go.WideShapes Go.ChangeAt Go.RowKit
open Go.Proofs.YtpoojimmponklaaDoor.SymIn Go.Proofs.YtpoojimmponklaaDoor.SymScan
open Go.Proofs.YtpoojimmponklaaDoorW.PrintWords
set_option linter.unusedVariables false

/-- What a slice of numbers that came in reads as, and how long it may be. -/
theorem ints_open {H : Type} {enc : TypeId × Value → H} {W : World} {base : Nat} {spare : Nat → Bool} {held : Bool} {fuel : Nat} {cs : List Value} {x : DataW H × List MemPlace}
    (hf : DataW.trod enc Tryd.prog W base spare held fuel 57 cs = some x) : ∃ (a : Option Addr) (zs : List Int) (cap : Nat), cs = [.slice a zs.length cap] ∧ zs.length ≤ cap ∧ Kd.C (Kd.int .i64) W a zs.length zs ∧ zs.length ≤ Rows.uptoBulk x.1 := by
  rcases open_ints Tryd.underlying57 Tryd.underlying3 (by kernel_rfl) hf with ⟨hcs, _⟩ | ⟨ad, len, cap, zs, hcs, _, hl, hm, hz, hx, hcell, hwz⟩
  · exact ⟨none, [], 0, hcs, Nat.le_refl _, Kd.C_nil _ _, by simp⟩
  · subst hx
    have hz' : len ≤ zs.length := by
      rw [hz]
      split
      · exact hl
      · exact Nat.le_refl _
    have hlen : (zs.take len).length = len := by rw [List.length_take]; omega
    refine ⟨some ad, zs.take len, cap, by rw [hlen]; exact hcs, by omega, ?_, ?_⟩
    · refine ⟨rfl, by rw [hlen]; unfold maxLen at hm; omega, fun _ => ⟨ad, rfl, fun j p hj => ⟨[.int .i64 p], rfl, rfl, fun i u hu => ?_⟩⟩⟩
      have hi : i = 0 := by
        have := (List.getElem?_eq_some_iff.1 hu).1
        simpa using this
      subst hi
      have hu' : u = .int .i64 p := by simpa using hu.symm
      subst hu'
      have hj' := (List.getElem?_eq_some_iff.1 hj).1
      rw [List.length_take] at hj'
      have hc := hcell j (by omega)
      rw [List.getElem?_take] at hj
      split at hj
      · have : zs.getD j 0 = p := by rw [List.getD_eq_getElem?_getD, hj]; rfl
        rw [this] at hc
        rw [show j * (Kd.int .i64).sz + 0 = j from by show j * 1 + 0 = j; omega]
        exact hc
      · cases hj
    · have h1 := bulks.slice_le (H := H) (lits .i64 (zs.take len)) (lits .i64 (zs.drop len))
      have h2 : (lits (H := H) .i64 (zs.take len)).length = (zs.take len).length := by simp [lits]
      show _ ≤ Rows.uptoBulk (DataW.slice _ _)
      omega
theorem ints_in {H : Type} {enc : TypeId × Value → H} {W : World} {base : Nat} {spare : Nat → Bool} {held : Bool} {a : Option Addr} {len cap : Nat} {d : DataW H} {ps : List MemPlace}
    (h : DataW.Trod enc Tryd.prog W base spare held 57 (.slice a len cap) d ps) : ∃ zs : List Int, zs.length = len ∧ len ≤ cap ∧ Kd.C (Kd.int .i64) W a zs.length zs ∧ zs.length ≤ Rows.uptoBulk d := by
  obtain ⟨fuel, hf⟩ := h
  obtain ⟨a', zs, c', hcs, hc, hC, hb⟩ := ints_open hf
  simp [Value.cells] at hcs
  obtain ⟨rfl, rfl, rfl⟩ := hcs
  exact ⟨zs, rfl, hc, hC, hb⟩
/-- What a slice of such slices reads as. -/
theorem lists_in {H : Type} {enc : TypeId × Value → H} {W : World} {base : Nat} {spare : Nat → Bool} {held : Bool} {a : Option Addr} {len cap : Nat} {d : DataW H} {ps : List MemPlace}
    (h : DataW.Trod enc Tryd.prog W base spare held 56 (.slice a len cap) d ps) : ∃ zs : List (List Int), zs.length = len ∧ len ≤ cap ∧ Kd.C (Kd.slice 3 (Kd.int .i64)) W a zs.length zs ∧ zs.length ≤ Rows.uptoBulk d ∧ ∀ z ∈ zs, z.length ≤ Rows.uptoBulk d := by
  obtain ⟨fuel, hf⟩ := h
  rcases Go.Deep.open_slice Tryd.underlying56 hf with ⟨hcs, _⟩ | ⟨ad, l, c, m, n, D, Pl, hcs, _, hl, hm, hmm, hx, hi⟩
  · simp [Value.cells] at hcs
    obtain ⟨rfl, rfl, rfl⟩ := hcs
    exact ⟨[], rfl, Nat.le_refl _, ⟨rfl, by simp, fun h => absurd h (by simp)⟩, by simp, fun z hz => by simp at hz⟩
  · simp [Value.cells] at hcs
    obtain ⟨rfl, rfl, rfl⟩ := hcs
    obtain ⟨hx, _⟩ := Prod.mk.inj hx
    have hlm : len ≤ m := by
      rw [hmm]
      split
      · exact hl
      · exact Nat.le_refl _
    have each : ∀ i : Nat, ∃ zs : List Int, i < m → ∃ (b : Option Addr) (c : Nat), W.cell? (ad.add i) = some (.slice b zs.length c) ∧ zs.length ≤ c ∧ Kd.C (Kd.int .i64) W b zs.length zs ∧ zs.length ≤ Rows.uptoBulk (D i) := by
      intro i
      by_cases him : i < m
      · obtain ⟨cs', hc, ht⟩ := hi i him
        rw [show Tryd.prog.cellsOf 57 = 1 by kernel_rfl, Nat.mul_one] at hc
        obtain ⟨b, zs, c, rfl, hcc, hC, hb⟩ := ints_open ht
        obtain ⟨_, _, hat⟩ := World.cells?_some hc
        refine ⟨zs, fun _ => ⟨b, c, ?_, hcc, hC, hb⟩⟩
        have := hat 0 (by omega)
        rw [Go.Deep.add_add] at this
        simpa using this
      · exact ⟨[], fun h => absurd h him⟩
    obtain ⟨f, hf'⟩ := Classical.axiomOfChoice each
    have hlen : ((List.range len).map f).length = len := by simp
    subst hx
    have hp : ∀ i, i < len → Rows.uptoBulk (D i) ≤ Rows.uptoBulkAll ((List.range len).map D) := fun i hil => bulks.part_le (List.mem_map.2 ⟨i, List.mem_range.2 hil, rfl⟩)
    have hse := bulks.slice_elems ((List.range len).map D) ((List.range (m - len)).map fun j => D (len + j))
    have hsl := bulks.slice_le ((List.range len).map D) ((List.range (m - len)).map fun j => D (len + j))
    refine ⟨(List.range len).map f, hlen, hl, ⟨rfl, by rw [hlen]; unfold maxLen at hm; omega, fun _ => ⟨ad, rfl, fun j p hj => ?_⟩⟩, ?_, fun z hz => ?_⟩
    · have hj' := (List.getElem?_eq_some_iff.1 hj).1
      rw [hlen] at hj'
      have hp' : p = f j := by
        have := hj
        simp [hj'] at this
        exact this.symm
      subst hp'
      obtain ⟨b, c', h1, h2, h3, _⟩ := hf' j (by omega)
      refine ⟨[.slice b (f j).length c'], rfl, ⟨b, c', rfl, h2, h3⟩, fun i u hu => ?_⟩
      have hi0 : i = 0 := by
        have := (List.getElem?_eq_some_iff.1 hu).1
        simpa using this
      subst hi0
      have hu' : u = .slice b (f j).length c' := by simpa using hu.symm
      subst hu'
      rw [show j * (Kd.slice 3 (Kd.int .i64)).sz + 0 = j from by show j * 1 + 0 = j; omega]
      exact h1
    · rw [hlen]
      simp only [List.length_map, List.length_range] at hsl
      omega
    · obtain ⟨i, hil, rfl⟩ := List.mem_map.1 hz
      have hil' := List.mem_range.1 hil
      obtain ⟨_, _, _, _, _, hb⟩ := hf' i (by omega)
      have := hp i hil'
      omega

set_option maxRecDepth 100000 in
theorem contract (H : Type) (enc : TypeId × Value → H) (W : World) (base : Nat) (args : Array Value) (ds gs : List (DataW H)) (before : List MemPlace)
    (hval : ∀ (j : Nat) t v, Tryd.f10.params[j]? = some t → args[j]? = some v → Value.okWide Tryd.prog W .any base t v)
    (hW : DataW.Whole enc Tryd.prog Tryd.f10.params.toList Rows.exprKeepsSpec.vars false W args.toList ds gs before) (hk : Rows.uptoSmall H (ds ++ gs) = true)
    (hL : laidMetH Tryd.prog Rows.exprKeepsUptoRow.laid W) :
    Calls Tryd.prog 10 args W fun e W' => ∃ v, e = .returned v ∧ Rows.exprKeepsSpec.post enc Tryd.prog Tryd.f10 false true false false W args v W' := by
  have hb : Blanks W := blanks_of hL
  have hW' := hW
  obtain ⟨p, q, hA0, hV, rfl, hfz, hnd⟩ := hW
  have hA : DataW.TrodAll enc Tryd.prog W 0 (fun _ => true) true Tryd.f10.params.toList args.toList ds p := hA0
  rw [Tryd.params10] at hA hval
  obtain ⟨v0, vs0, d0, ds0, p0, q0, hargs, rfl, rfl, h0, r0⟩ := trodAll_cons hA
  obtain ⟨v1, vs1, d1, ds1, p1, q1, rfl, rfl, rfl, h1, r1⟩ := trodAll_cons r0
  obtain ⟨rfl, rfl, rfl⟩ := trodAll_nil r1
  obtain rfl : args = #[v0, v1] := by cases args; simp_all
  obtain ⟨rfl, rfl⟩ := trodVars_none hV
  obtain ⟨a0, len0, cap0, rfl⟩ := okWide_slice Tryd.underlying56 (hval 0 56 v0 rfl rfl)
  obtain ⟨a1, len1, cap1, rfl⟩ := okWide_slice Tryd.underlying57 (hval 1 57 v1 rfl rfl)
  have k0 := h0
  have k1 := h1
  have lt0 : ∀ x ∈ p0, x.block < W.heap.size := by obtain ⟨m, hm⟩ := k0; exact DataW.trod_lt m _ _ _ hm
  have lt1 : ∀ x ∈ p1, x.block < W.heap.size := by obtain ⟨m, hm⟩ := k1; exact DataW.trod_lt m _ _ _ hm
  obtain ⟨z0, rfl, hc0, hC0, hb0, he0⟩ := lists_in h0
  obtain ⟨z1, rfl, hc1, hC1, hb1⟩ := ints_in h1
  have hbd := bulks.bound hk
  simp only [List.append_nil] at hbd
  have hm0 := bulks.part_le (H := H) (d := d0) (l := [d0, d1]) (by simp)
  have hm1 := bulks.part_le (H := H) (d := d1) (l := [d0, d1]) (by simp)
  clear hA0
  refine (KeepsLaw.walk hb a0 cap0 z0 a1 cap1 z1 hC0 hC1 (by omega) (fun x hx => by have := he0 x hx; omega) (by omega)).mono fun e W' ⟨he, bel⟩ => ?_
  subst he
  exact ⟨_, rfl, _, _, _, [], _, [], hW', trodAll_mk1 (shut_bool Tryd.underlying4 _), (trodAll_cons_mk (Below.trod laidOut (by kernel_rfl) (of_decide_eq_true (by kernel_rfl)) k0 bel lt0) (trodAll_cons_mk (Below.trod laidOut (by kernel_rfl) (of_decide_eq_true (by kernel_rfl)) k1 bel lt1) trodAll_mk0)), rfl, bel.frame _, fun h => by cases h⟩

theorem laid_met (os : Os) : laidMet Tryd.prog Rows.exprKeepsUptoRow.laid ((laidWorld os).forCall (fun _ _ => 0) ⟨#[], #[.slice none 0 0, .slice none 0 0], []⟩).memory :=
  laidMet_of_run' 8 (by kernel_rfl) (by kernel_rfl)
theorem reads (os : Os) {H : Type} (enc : TypeId × Value → H) : ∃ places, DataW.whole enc Tryd.prog ((laidWorld os).forCall (fun _ _ => 0) ⟨#[], #[.slice none 0 0, .slice none 0 0], []⟩).memory Tryd.f10.params.toList Rows.exprKeepsSpec.vars false #[Value.slice none 0 0, .slice none 0 0].toList 8 = some ([.nil, .nil], [], places) :=
  ⟨[], by kernel_rfl⟩

set_option maxRecDepth 100000 in
theorem lifted (os : Os) (started : os.Started) (H : Type) (enc : TypeId × Value → H) (F : Stop.Interp) :
    ReturnsInHanded {} Tryd.checked os 10 .any ((Rows.OpenSpec.upto Rows.exprKeepsSpec).preRow enc Tryd.prog Tryd.f10 Rows.exprKeepsUptoRow.domain false Rows.exprKeepsUptoRow.laid) (((Rows.OpenSpec.upto Rows.exprKeepsSpec).at F).post enc Tryd.prog Tryd.f10 false true false false) := by
  obtain ⟨places, hx⟩ := reads os enc
  refine returnsInHanded_of_row (C := Tryd.checked) (s := Rows.OpenSpec.upto Rows.exprKeepsSpec) own started (by kernel_rfl) Tryd.func10
    (witness_row_at (enc := enc) (C := Tryd.checked) false (laidWorld os) #[.slice none 0 0, .slice none 0 0] rfl (by kernel_rfl) (by kernel_rfl) (by kernel_rfl)
      (OpenSpec.preRow_of_cond 8 hx (by kernel_rfl) (fun k hk => by cases hk; kernel_rfl) (by kernel_rfl) (laid_met os))) ?_
  intro W base args ds gs before hval hW _ hk _ hL _ _
  exact contract H enc W base args ds gs before hval hW (hk _ rfl) hL

theorem said : Rows.ExprKeepsUptoSaid :=
  OpenClaim.holds_of_cond 10 Tryd.f10 rfl rfl rfl rfl rfl rfl rfl ⟨rfl, rfl, rfl, rfl, rfl⟩ rfl rfl rfl rfl rfl (by kernel_rfl) Tryd.func10 (by kernel_rfl)
    (of_decide_eq_true (by kernel_rfl)) (by unfold Func.isWrapper; first | (rw [if_pos (by decide +kernel)]; kernel_rfl) | (rw [if_neg (by decide +kernel)]; exact ⟨rfl, rfl⟩))
    (fun os started H enc _ F => by rw [OpenClaim.pre_eq_preRow]; exact lifted os started H enc F)

/-- No parameter wants a stand-in; the program's own looks are off: what the card asks. -/
theorem plain (f : FuncId) (fn : Func) (hf : Tryd.pinned.checked.prog.funcNamed "lemma/lemmalaw03.ExprKeeps" = some f) (hfn : Tryd.pinned.checked.prog.funcs[f]? = some fn) :
    false = Tryd.pinned.checked.prog.looks [] ∧ ∀ (j : Nat) t, fn.params[j]? = some t → Tryd.pinned.checked.prog.wantsStandIn t = false := by
  obtain rfl : f = 10 := Option.some.inj ((show Tryd.prog.funcNamed "lemma/lemmalaw03.ExprKeeps" = some 10 by kernel_rfl).symm.trans hf) |>.symm
  obtain rfl : fn = Tryd.f10 := (Option.some.inj (Tryd.func10.symm.trans hfn)).symm
  refine ⟨by kernel_rfl, fun j t ht => ?_⟩
  rw [Tryd.params10] at ht
  have hall : ∀ t ∈ #[56, 57], Tryd.prog.wantsStandIn t = false := by
    intro t ht
    simp only [List.mem_toArray, List.mem_cons, List.not_mem_nil, or_false] at ht
    rcases ht with rfl | rfl <;> kernel_rfl
  exact hall t (Array.mem_of_getElem? ht)

theorem card : Rows.ExprKeepsUptoCardSaid :=
  Claim7.holds_tied_plain_at .later [] _ _ _ _ said (fun _ h => by cases h) (by kernel_rfl) (fun _ h => by cases h) exprKeepsUpto_row_tie rfl ⟨rfl, rfl⟩ (by kernel_rfl) rfl plain (by kernel_rfl)
#print axioms card
end Go.Proofs.YtpoojimmponklaaDoor.exprKeeps
