/- KindsAll. -/
import Derived.Test.YtkonloadedbpkaaZ1
import Derived.Test.YtkonloadedbpkaaZ3
import Derived.Test.YtkonloadedbpkaaZ0
import Derived.Test.YtkonloadedbpkaaWMore
namespace Go.Proofs.Ytkonloadedbpkaa.KindsP
open Go.Proofs.Ytkonloadedbpkaa.FoldPure Go.Proofs.Ytkonloadedbpkaa.Gather
set_option linter.unusedVariables false

/-- A tree: its label, its kids' numbers; a path likewise. -/
abbrev Kt := ByteArray × List Nat
abbrev TEdge := Nat × ByteArray × Int
def placeT (T : List Kt) (c : Kt) : List Kt × Nat := match ix T c with | some n => (T, n) | none => (T ++ [c], T.length)
def kidsK (ns : List Nat) (x : Nd) : List Nat := x.2.map (fun k => ns.getD k 0)
def kStep (st : List Kt × List Nat) (i : Nat) (x : Nd) : List Kt × List Nat := ((placeT st.1 (x.1, kidsK st.2 x)).1, st.2.set i (placeT st.1 (x.1, kidsK st.2 x)).2)
def kTo (l : List Nd) (T0 : List Kt) : Nat → List Kt × List Nat
  | 0 => (T0, List.replicate l.length 0)
  | i + 1 => match l[i]? with
    | some x => kStep (kTo l T0 i) i x
    | none => kTo l T0 i
theorem kTo_succ {l : List Nd} {T0 : List Kt} {i : Nat} (h : i < l.length) : kTo l T0 (i + 1) = kStep (kTo l T0 i) i l[i] := by
  rw [kTo, List.getElem?_eq_getElem h]
theorem kTo_len (l : List Nd) (T0 : List Kt) : ∀ i, (kTo l T0 i).2.length = l.length := by
  intro i
  induction i with
  | zero => simp [kTo]
  | succ i ih =>
    unfold kTo
    split
    · show ((kTo l T0 i).2.set i _).length = _
      rw [List.length_set, ih]
    · exact ih
theorem placeT_some {T : List Kt} {c : Kt} {n : Nat} (h : ix T c = some n) : placeT T c = (T, n) := by unfold placeT; rw [h]
theorem placeT_none {T : List Kt} {c : Kt} (h : ix T c = none) : placeT T c = (T ++ [c], T.length) := by unfold placeT; rw [h]

/-! ### paths -/
structure Pths (PL : List Kt) : Prop where
  apart : PL.Nodup
  ahead : ∀ s p k, (s, p ++ [k]) ∈ PL → (s, p) ∈ PL
theorem pths_nil : Pths [] := ⟨List.nodup_nil, fun s p k h => by simp at h⟩
def nextF (PL : List Kt) (e : TEdge) : Option Nat :=
  if e.1 = 0 then (if e.2.2 = -1 then (ix PL (e.2.1, [])).map (· + 1) else none)
  else if e.2.1 = ByteArray.empty ∧ 0 ≤ e.2.2 then (match PL[e.1 - 1]? with | some p => (ix PL (p.1, p.2 ++ [e.2.2.toNat])).map (· + 1) | none => none) else none
def endsF (PL T : List Kt) (a : Nat) : Option Nat := if a = 0 then none else match PL[a - 1]? with | some p => ix T p | none => none
theorem nextF_nil : nextF [] = fun _ => none := by
  funext e
  unfold nextF
  split
  · split <;> rfl
  · split
    · simp
    · rfl
theorem endsF_nil (PL : List Kt) : endsF PL [] = fun _ => none := by
  funext a
  unfold endsF
  split
  · rfl
  · split <;> rfl
theorem next_root {PL : List Kt} (h : Pths PL) {s : ByteArray} (hn : nextF PL (0, s, -1) = none) : (s, []) ∉ PL ∧ Pths (PL ++ [(s, [])]) ∧ ∀ e, nextF (PL ++ [(s, [])]) e = if e = (0, s, -1) then some (PL.length + 1) else nextF PL e := by
  have hnew : (s, ([] : List Nat)) ∉ PL := by
    unfold nextF at hn
    simp only [if_true] at hn
    exact ix_none.1 (Option.map_eq_none_iff.1 hn)
  refine ⟨hnew, ⟨nodup_snoc h.apart hnew, fun t p k hm => ?_⟩, fun e => ?_⟩
  · rcases List.mem_append.1 hm with hm | hm
    · exact List.mem_append_left _ (h.ahead t p k hm)
    · simp at hm
  · obtain ⟨a, t, j⟩ := e
    unfold nextF
    simp only [Prod.mk.injEq]
    by_cases ha : a = 0
    · subst ha
      simp only [if_true, true_and]
      by_cases hj : j = -1
      · subst hj
        simp only [if_true, and_true]
        rw [ix_snoc hnew]
        by_cases e : t = s
        · subst e; simp
        · simp [e]
      · simp [hj]
    · simp only [if_neg ha, if_neg (show ¬ (a = 0 ∧ t = s ∧ j = -1) from fun h => ha h.1)]
      by_cases hc : t = ByteArray.empty ∧ 0 ≤ j
      · simp only [if_pos hc]
        by_cases hb : a - 1 < PL.length
        · rw [List.getElem?_append_left hb, List.getElem?_eq_getElem hb]
          simp only
          rw [ix_snoc hnew, if_neg (by simp)]
        · rw [show PL[a - 1]? = none from List.getElem?_eq_none (by omega)]
          by_cases e : a - 1 = PL.length
          · rw [e, List.getElem?_append_right (by omega)]
            simp only [Nat.sub_self, List.getElem?_cons_zero]
            rw [ix_snoc hnew, if_neg (by simp), ix_none.2 (fun hm => hnew (h.ahead _ _ _ hm))]
            rfl
          · rw [List.getElem?_eq_none (by simp; omega)]
      · simp only [if_neg hc]
theorem next_kid {PL : List Kt} (h : Pths PL) {a k : Nat} {p : Kt} (ha : PL[a]? = some p) (hn : nextF PL (a + 1, ByteArray.empty, (k : Int)) = none) :
    (p.1, p.2 ++ [k]) ∉ PL ∧ Pths (PL ++ [(p.1, p.2 ++ [k])]) ∧ ∀ e, nextF (PL ++ [(p.1, p.2 ++ [k])]) e = if e = (a + 1, ByteArray.empty, (k : Int)) then some (PL.length + 1) else nextF PL e := by
  have hnew : (p.1, p.2 ++ [k]) ∉ PL := by
    unfold nextF at hn
    simp only [Nat.add_eq_zero_iff, Nat.one_ne_zero, and_false, if_false, Nat.add_sub_cancel, ha] at hn
    rw [if_pos ⟨trivial, by omega⟩, Int.toNat_natCast] at hn
    exact ix_none.1 (Option.map_eq_none_iff.1 hn)
  have hal : a < PL.length := (List.getElem?_eq_some_iff.1 ha).1
  refine ⟨hnew, ⟨nodup_snoc h.apart hnew, fun t q j hm => ?_⟩, fun e => ?_⟩
  · rcases List.mem_append.1 hm with hm | hm
    · exact List.mem_append_left _ (h.ahead t q j hm)
    · simp only [List.mem_singleton, Prod.mk.injEq] at hm
      obtain ⟨rfl, h2⟩ := hm
      obtain ⟨rfl, _⟩ := snoc_inj h2
      exact List.mem_append_left _ (List.mem_of_getElem? ha)
  · obtain ⟨b, t, j⟩ := e
    unfold nextF
    simp only [Prod.mk.injEq]
    by_cases hb0 : b = 0
    · subst hb0
      simp only [if_true]
      rw [if_neg (show ¬ (0 = a + 1 ∧ t = ByteArray.empty ∧ j = (k : Int)) from fun h => by omega)]
      by_cases hj : j = -1
      · subst hj
        simp only [if_true]
        rw [ix_snoc hnew, if_neg (by simp)]
      · simp [hj]
    · simp only [if_neg hb0]
      by_cases hc : t = ByteArray.empty ∧ 0 ≤ j
      · simp only [if_pos hc]
        obtain ⟨m, rfl⟩ : ∃ m : Nat, j = (m : Int) := ⟨j.toNat, by omega⟩
        simp only [Int.toNat_natCast]
        by_cases hb : b - 1 < PL.length
        · rw [List.getElem?_append_left hb]
          have hq : PL[b - 1]? = some PL[b - 1] := List.getElem?_eq_getElem hb
          rw [hq]
          simp only
          rw [ix_snoc hnew]
          by_cases e : (PL[b - 1].1, PL[b - 1].2 ++ [m]) = (p.1, p.2 ++ [k])
          · simp only [Prod.mk.injEq] at e
            obtain ⟨e1, e2⟩ := e
            obtain ⟨e3, e4⟩ := snoc_inj e2
            have hpb : PL[b - 1] = p := Prod.ext e1 e3
            have hba : b - 1 = a := by
              have h1 := ix_nodup h.apart hq
              have h2 := ix_nodup h.apart ha
              rw [hpb, h2] at h1
              exact (Option.some.inj h1).symm
            rw [if_pos (by rw [hpb, e4]), if_pos ⟨by omega, hc.1, by omega⟩]
            rfl
          · rw [if_neg e, if_neg]
            rintro ⟨rfl, _, e3⟩
            simp only [Nat.add_sub_cancel] at hq e
            rw [ha] at hq
            have e5 := Option.some.inj hq
            rw [← e5] at e
            exact e (by rw [show m = k by omega])
        · rw [if_neg (by rintro ⟨rfl, _⟩; omega), show PL[b - 1]? = none from List.getElem?_eq_none (by omega)]
          by_cases e : b - 1 = PL.length
          · rw [e, List.getElem?_append_right (by omega)]
            simp only [Nat.sub_self, List.getElem?_cons_zero]
            rw [ix_snoc hnew, if_neg, ix_none.2 (fun hm => hnew (h.ahead _ _ _ hm))]
            · rfl
            · intro e
              simp only [Prod.mk.injEq, true_and] at e
              have := congrArg List.length e
              simp at this
          · rw [List.getElem?_eq_none (by simp; omega)]
      · simp only [if_neg hc]
        rw [if_neg]
        rintro ⟨_, h2, h3⟩
        exact hc ⟨h2, by omega⟩
theorem ends_path {PL T : List Kt} {c : Kt} (hT : ∀ x ∈ T, x ∈ PL) (hc : c ∉ PL) : endsF (PL ++ [c]) T = endsF PL T := by
  funext a
  unfold endsF
  by_cases h0 : a = 0
  · simp [h0]
  · simp only [if_neg h0]
    by_cases hb : a - 1 < PL.length
    · rw [List.getElem?_append_left hb]
    · rw [show PL[a - 1]? = none from List.getElem?_eq_none (by omega)]
      by_cases e : a - 1 = PL.length
      · rw [e, List.getElem?_append_right (by omega)]
        simp only [Nat.sub_self, List.getElem?_cons_zero]
        exact ix_none.2 fun hm => hc (hT _ hm)
      · rw [List.getElem?_eq_none (by simp; omega)]
theorem ends_new {PL T : List Kt} (hP : PL.Nodup) {a : Nat} {c : Kt} (ha : PL[a]? = some c) (hn : ix T c = none) (x : Nat) : endsF PL (T ++ [c]) x = if x = a + 1 then some T.length else endsF PL T x := by
  unfold endsF
  by_cases h0 : x = 0
  · subst h0
    rw [if_pos rfl, if_pos rfl, if_neg (by omega)]
  · simp only [if_neg h0]
    cases hq : PL[x - 1]? with
    | none =>
      rw [if_neg]
      rintro rfl
      rw [Nat.add_sub_cancel, ha] at hq
      cases hq
    | some q =>
      simp only
      rw [ix_snoc (ix_none.1 hn)]
      by_cases e : q = c
      · subst e
        have h1 := ix_nodup hP hq
        have h2 := ix_nodup hP ha
        rw [h1] at h2
        rw [if_pos rfl, if_pos (by have := Option.some.inj h2; omega)]
      · rw [if_neg e, if_neg]
        rintro rfl
        rw [Nat.add_sub_cancel, ha] at hq
        exact e (Option.some.inj hq).symm
theorem ends_at {PL T : List Kt} {a : Nat} {c : Kt} (ha : PL[a]? = some c) : endsF PL T (a + 1) = ix T c := by
  unfold endsF
  rw [if_neg (by omega), Nat.add_sub_cancel, ha]
theorem next_at {PL : List Kt} {a k : Nat} {p : Kt} (ha : PL[a]? = some p) : nextF PL (a + 1, ByteArray.empty, (k : Int)) = (ix PL (p.1, p.2 ++ [k])).map (· + 1) := by
  unfold nextF
  simp only [Nat.add_eq_zero_iff, Nat.one_ne_zero, and_false, if_false, Nat.add_sub_cancel, ha, Int.toNat_natCast]
  rw [if_pos ⟨trivial, by omega⟩]
theorem next_at0 (PL : List Kt) (s : ByteArray) : nextF PL (0, s, -1) = (ix PL (s, [])).map (· + 1) := by
  unfold nextF
  simp

/-! ### what holds while trees are numbered -/
structure KI (l : List Nd) (T0 : List Kt) (P0 i : Nat) (PL : List Kt) : Prop where
  pths : Pths PL
  sub : ∀ c ∈ (kTo l T0 i).1, c ∈ PL
  few : PL.length ≤ P0 + i + edges l i
  less : (kTo l T0 i).1.length ≤ T0.length + i
  nums : ∀ n ∈ (kTo l T0 i).2, n < (kTo l T0 i).1.length ∨ n = 0
/-- In the midst of a node's kids. -/
structure KIn (s : ByteArray) (ns : List Nat) (T : List Kt) (E a j : Nat) (PL : List Kt) : Prop where
  pths : Pths PL
  sub : ∀ c ∈ T, c ∈ PL
  here : PL[a]? = some (s, ns.take j)
  few : PL.length ≤ E + 1 + j
theorem kin_lt {s : ByteArray} {ns : List Nat} {T : List Kt} {E a j : Nat} {PL : List Kt} (h : KIn s ns T E a j PL) : a < PL.length := (List.getElem?_eq_some_iff.1 h.here).1
/-- Behind the first edge. -/
theorem kin_root {s : ByteArray} {ns : List Nat} {T : List Kt} {E : Nat} {PL : List Kt} (hp : Pths PL) (hs : ∀ c ∈ T, c ∈ PL) (hf : PL.length ≤ E) : match nextF PL (0, s, -1) with
    | some v => ∃ a, v = a + 1 ∧ KIn s ns T E a 0 PL
    | none => KIn s ns T E PL.length 0 (PL ++ [(s, [])]) ∧ (fun t => if t = (0, s, -1) then some (PL.length + 1) else nextF PL t) = nextF (PL ++ [(s, [])]) ∧ endsF PL T = endsF (PL ++ [(s, [])]) T := by
  cases hn : nextF PL (0, s, -1) with
  | some v =>
    rw [next_at0] at hn
    obtain ⟨a, ha, rfl⟩ := Option.map_eq_some_iff.1 hn
    exact ⟨a, rfl, hp, hs, by rw [List.take_zero]; exact ix_some ha, by omega⟩
  | none =>
    obtain ⟨h1, h2, h3⟩ := next_root hp hn
    exact ⟨⟨h2, fun c hc => List.mem_append_left _ (hs c hc), by rw [List.take_zero]; simp, by simp; omega⟩, (funext h3).symm, (ends_path hs h1).symm⟩
/-- Behind a kid's edge. -/
theorem kin_kid {s : ByteArray} {ns : List Nat} {T : List Kt} {E a j : Nat} {PL : List Kt} (h : KIn s ns T E a j PL) (hj : j < ns.length) : match nextF PL (a + 1, ByteArray.empty, (ns[j] : Int)) with
    | some v => ∃ b, v = b + 1 ∧ KIn s ns T E b (j + 1) PL
    | none => KIn s ns T E PL.length (j + 1) (PL ++ [(s, ns.take (j + 1))]) ∧ (fun t => if t = (a + 1, ByteArray.empty, (ns[j] : Int)) then some (PL.length + 1) else nextF PL t) = nextF (PL ++ [(s, ns.take (j + 1))]) ∧ endsF PL T = endsF (PL ++ [(s, ns.take (j + 1))]) T := by
  have ht := List.take_succ_eq_append_getElem hj
  cases hn : nextF PL (a + 1, ByteArray.empty, (ns[j] : Int)) with
  | some v =>
    rw [next_at h.here] at hn
    obtain ⟨b, hb, rfl⟩ := Option.map_eq_some_iff.1 hn
    exact ⟨b, rfl, h.pths, h.sub, by rw [ht]; exact ix_some hb, by have := h.few; omega⟩
  | none =>
    obtain ⟨h1, h2, h3⟩ := next_kid h.pths h.here hn
    rw [ht]
    exact ⟨⟨h2, fun c hc => List.mem_append_left _ (h.sub c hc), by rw [ht]; simp, by simp; have := h.few; omega⟩, (funext h3).symm, (ends_path h.sub h1).symm⟩
theorem ki_start {l : List Nd} {T0 PL : List Kt} (hp : Pths PL) (hs : ∀ c ∈ T0, c ∈ PL) : KI l T0 PL.length 0 PL :=
  ⟨hp, hs, by omega, Nat.le_refl _, fun n hn => .inr (List.eq_of_mem_replicate hn)⟩
theorem ki_old {l : List Nd} {T0 : List Kt} {P0 i a n : Nat} {PL PL' : List Kt} {ns : List Nat} (h : KI l T0 P0 i PL) (hi : i < l.length) (hns : ns = kidsK (kTo l T0 i).2 l[i]) (hin : KIn l[i].1 ns (kTo l T0 i).1 (P0 + i + edges l i) a ns.length PL') (hk : ix (kTo l T0 i).1 (l[i].1, ns) = some n) :
    KI l T0 P0 (i + 1) PL' ∧ kTo l T0 (i + 1) = ((kTo l T0 i).1, (kTo l T0 i).2.set i n) ∧ n < (kTo l T0 i).1.length := by
  have hn : n < (kTo l T0 i).1.length := (List.getElem?_eq_some_iff.1 (ix_some hk)).1
  have e : kTo l T0 (i + 1) = ((kTo l T0 i).1, (kTo l T0 i).2.set i n) := by
    rw [kTo_succ hi]
    unfold kStep
    rw [← hns, placeT_some hk]
  have hl : ns.length = l[i].2.length := by rw [hns]; simp [kidsK]
  refine ⟨⟨hin.pths, by rw [e]; exact hin.sub, by have := hin.few; have := edges_succ hi; omega, by rw [e]; have := h.less; simp only; omega, fun m hm => ?_⟩, e, hn⟩
  rw [e] at hm ⊢
  rcases List.mem_or_eq_of_mem_set hm with hm | rfl
  · exact h.nums m hm
  · exact .inl hn
theorem ki_new {l : List Nd} {T0 : List Kt} {P0 i a : Nat} {PL PL' : List Kt} {ns : List Nat} (h : KI l T0 P0 i PL) (hi : i < l.length) (hns : ns = kidsK (kTo l T0 i).2 l[i]) (hin : KIn l[i].1 ns (kTo l T0 i).1 (P0 + i + edges l i) a ns.length PL') (hk : ix (kTo l T0 i).1 (l[i].1, ns) = none) :
    KI l T0 P0 (i + 1) PL' ∧ kTo l T0 (i + 1) = ((kTo l T0 i).1 ++ [(l[i].1, ns)], (kTo l T0 i).2.set i (kTo l T0 i).1.length) ∧
      (fun x => if x = a + 1 then some (kTo l T0 i).1.length else endsF PL' (kTo l T0 i).1 x) = endsF PL' ((kTo l T0 i).1 ++ [(l[i].1, ns)]) := by
  have e : kTo l T0 (i + 1) = ((kTo l T0 i).1 ++ [(l[i].1, ns)], (kTo l T0 i).2.set i (kTo l T0 i).1.length) := by
    rw [kTo_succ hi]
    unfold kStep
    rw [← hns, placeT_none hk]
  have hl : ns.length = l[i].2.length := by rw [hns]; simp [kidsK]
  have hh := hin.here
  rw [List.take_length] at hh
  refine ⟨⟨hin.pths, ?_, by have := hin.few; have := edges_succ hi; omega, by rw [e]; have := h.less; simp; omega, fun m hm => ?_⟩, e, (funext fun x => ends_new hin.pths.apart hh hk x).symm⟩
  · rw [e]
    intro c hc
    rcases List.mem_append.1 hc with hc | hc
    · exact hin.sub c hc
    · simp only [List.mem_singleton] at hc
      subst hc
      exact List.mem_of_getElem? hh
  · rw [e] at hm ⊢
    simp only [List.length_append, List.length_singleton]
    rcases List.mem_or_eq_of_mem_set hm with hm | rfl
    · rcases h.nums m hm with h | h
      · exact .inl (by omega)
      · exact .inr h
    · exact .inl (by omega)
end Go.Proofs.Ytkonloadedbpkaa.KindsP

namespace Go.Proofs.Ytkonloadedbpkaa.KindsW
open Go.RowKit Go.Maps Go.Proofs.Ytkonloadedbpkaa.Sep Go.Proofs.Ytkonloadedbpkaa.FMaps Go.Proofs.Ytkonloadedbpkaa.FoldPure Go.Proofs.Ytkonloadedbpkaa.FoldMem Go.Proofs.Ytkonloadedbpkaa.Gather Go.Proofs.Ytkonloadedbpkaa.KindsP Go.Proofs.Ytkonloadedbpkaa.NodesMem
open Go.ChangeShapes Go.WideShapes Go.Joins
open Go.Proofs.YtkonloadedbpkaaW.PrintWords
set_option linter.unusedVariables false
set_option linter.unusedSimpArgs false
set_option maxRecDepth 100000

theorem row102 : (102 : TypeId) < Try.prog.types.size := of_decide_eq_true (by kernel_rfl)
theorem wide102 : (match Try.prog.underlying 102 with | some (.array _ _) | some (.struct _) => true | _ => false) = true := by rw [Try.underlying102]
theorem deep102 : Try.prog.keyTypeAt (Try.prog.types.size + 1) 102 = true := by kernel_rfl
set_option maxRecDepth 100000 in
theorem law102 : Go.WideMaps.KeyLaw Try.prog 102 := deep_law_laid laidOut (m := 2) (by omega) row102 (by kernel_rfl) wide102
theorem formed102 {c0 c1 c2 : Value} : (Value.agg #[c0, c1, c2]).formed Try.prog 102 = true := by
  have : Try.prog.cellsOf 102 = 3 := by kernel_rfl
  simp [Value.formed, Try.underlying102, this]
theorem reads102 {a b : Int} {s : ByteArray} (ha : (Lit.int .i64 a).wf = true) (hs : s.size ≤ maxLen) (hb : (Lit.int .i64 b).wf = true) : ∃ l, keyOf Try.prog 102 (.agg #[.int .i64 a, .string s, .int .i64 b]) = some l :=
  ⟨_, (keyOf_asKey deep102 wide102 formed102 (shut_agg3 (w := default) Try.underlying102 (by kernel_rfl) (by kernel_rfl) (trodI default ha) (trodS default hs) (trodI default hb))).1⟩
/-- Maps keyed by edges. -/
noncomputable def mE : MK TEdge where
  T := 97
  K := 102
  ht := Try.underlying97
  law := Keyed.of_law law102
  enc x := .agg #[.int .i64 x.1, .string x.2.1, .int .i64 x.2.2]
  ok x := x.1 ≤ 4611686018427387904 ∧ x.2.1.size ≤ maxLen ∧ -1 ≤ x.2.2 ∧ x.2.2 ≤ 4611686018427387904
  reads x hx := reads102 (wf_small hx.1) hx.2.1 (WalkArith.wf_i64 (by omega))
  inj a b h := by
    obtain ⟨a1, a2, a3⟩ := a
    obtain ⟨b1, b2, b3⟩ := b
    simp only [Value.agg.injEq, Array.mk.injEq, List.cons.injEq, Value.int.injEq, Value.string.injEq, true_and, and_true] at h
    simp only [Prod.mk.injEq]
    exact ⟨by omega, h.2.1, h.2.2⟩
set_option maxHeartbeats 4000000 in
set_option maxRecDepth 100000 in
theorem walk_old {W w : World} {rs : List Res} {g bn be P gP Tn a v : Nat} {s : ByteArray} {t : Int} {f : TEdge → Option Nat} (hM : Sep W w (boxR g 99 #[.map (some bn), .map (some be), nat P, nat Tn] :: mapR mE bn gP P f :: rs))
    (he : mE.ok (a, s, t)) (hf : f (a, s, t) = some v) :
    Calls Try.prog 56 #[.pointer (some ⟨g, 0, none⟩), .agg #[.int .i64 a, .string s, .int .i64 t]] w fun e w' => e = .returned (nat v) ∧ Sep W w' (boxR g 99 #[.map (some bn), .map (some be), nat P, nat Tn] :: mapR mE bn gP P f :: rs) := by
  have M := Aside0.mk (box_fresh hM 102 #[.int .i64 (a : Int), .string s, .int .i64 t])
  clear hM
  have c0 := (box_cell (M.out.pull 1 (by simp)) (j := 0) rfl).1
  have e0 := (box_cell M.out (j := 0) rfl).1
  have e1 := (box_cell M.out (j := 1) rfl).1
  have e2 := (box_cell M.out (j := 2) rfl).1
  have hlook := fun n => (map_at ((M.out.drawn (w' := (w.alloc (.cells #[.int .i64 (a : Int), .string s, .int .i64 t] 102)).drewN n) ⟨n, rfl⟩).pull 2 (by simp))).look (m := mE) (s := (a, s, t)) he
  rw [hf] at hlook
  replace hlook : ∀ n, (Instr.lookup 97 (.map (some bn)) (.agg #[.int .i64 (a : Int), .string s, .int .i64 t]) true).run Try.prog ((w.alloc (.cells #[.int .i64 (a : Int), .string s, .int .i64 t] 102)).drewN n) = .ok (.tuple #[.int .i64 (v : Int), .bool true]) ((w.alloc (.cells #[.int .i64 (a : Int), .string s, .int .i64 t] 102)).drewN n) := hlook
  have HE := Aside0.mk he
  clear he
  go_enter Try.func56, Try.ntmps56
  go_wp2_with fail
  go_quiet (fail)
  clear hlook
  have M2 := M.out.drawn (w' := (w.alloc (.cells #[.int .i64 (a : Int), .string s, .int .i64 t] 102)).drewN nq) ⟨nq, rfl⟩
  generalize (w.alloc (.cells #[.int .i64 (a : Int), .string s, .int .i64 t] 102)).drewN nq = w2 at M2 ⊢
  clear M c0 e0 e1 e2
  have M := Aside0.mk M2
  clear M2
  have c0 := (box_cell (M.out.pull 1 (by simp)) (j := 0) rfl).1
  have e0 := (box_cell M.out (j := 0) rfl).1
  have e1 := (box_cell M.out (j := 1) rfl).1
  have e2 := (box_cell M.out (j := 2) rfl).1
  have hlook := fun n => (map_at ((M.out.drawn (w' := w2.drewN n) ⟨n, rfl⟩).pull 2 (by simp))).look1 (m := mE) (s := (a, s, t)) HE.out
  rw [hf] at hlook
  replace hlook : ∀ n, (Instr.lookup 97 (.map (some bn)) (.agg #[.int .i64 (a : Int), .string s, .int .i64 t]) false).run Try.prog (w2.drewN n) = .ok (.int .i64 (v : Int)) (w2.drewN n) := hlook
  go_wp2_with fail
  go_quiet (fail)
  go_wp2_with fail
  go_ret
  exact ⟨rfl, (M.out.drawn ⟨_, rfl⟩).tail⟩
set_option maxHeartbeats 4000000 in
theorem walk_new {W w : World} {rs : List Res} {g bn be P gP Tn a : Nat} {s : ByteArray} {t : Int} {f : TEdge → Option Nat} (hM : Sep W w (boxR g 99 #[.map (some bn), .map (some be), nat P, nat Tn] :: mapR mE bn gP P f :: rs))
    (he : mE.ok (a, s, t)) (hf : f (a, s, t) = none) (hP : P ≤ 1099511627776) (hg : gP ≤ 1099511627776) :
    Calls Try.prog 56 #[.pointer (some ⟨g, 0, none⟩), .agg #[.int .i64 a, .string s, .int .i64 t]] w fun e w' => e = .returned (nat (P + 1)) ∧ Sep W w' (boxR g 99 #[.map (some bn), .map (some be), nat (P + 1), nat Tn] :: mapR mE bn (gP + 1) (P + 1) (upd f (a, s, t) (P + 1)) :: rs) := by
  have M := Aside0.mk (box_fresh hM 102 #[.int .i64 (a : Int), .string s, .int .i64 t])
  clear hM
  have c0 := (box_cell (M.out.pull 1 (by simp)) (j := 0) rfl).1
  have e0 := (box_cell M.out (j := 0) rfl).1
  have e1 := (box_cell M.out (j := 1) rfl).1
  have e2 := (box_cell M.out (j := 2) rfl).1
  have hlook := fun n => (map_at ((M.out.drawn (w' := (w.alloc (.cells #[.int .i64 (a : Int), .string s, .int .i64 t] 102)).drewN n) ⟨n, rfl⟩).pull 2 (by simp))).look (m := mE) (s := (a, s, t)) he
  rw [hf] at hlook
  replace hlook : ∀ n, (Instr.lookup 97 (.map (some bn)) (.agg #[.int .i64 (a : Int), .string s, .int .i64 t]) true).run Try.prog ((w.alloc (.cells #[.int .i64 (a : Int), .string s, .int .i64 t] 102)).drewN n) = .ok (.tuple #[.int .i64 0, .bool false]) ((w.alloc (.cells #[.int .i64 (a : Int), .string s, .int .i64 t] 102)).drewN n) := hlook
  have HE := Aside0.mk he
  have HF := Aside0.mk hf
  clear he hf
  go_enter Try.func56, Try.ntmps56
  go_wp2_with fail
  go_quiet (fail)
  clear hlook
  have M2 := M.out.drawn (w' := (w.alloc (.cells #[.int .i64 (a : Int), .string s, .int .i64 t] 102)).drewN nq) ⟨nq, rfl⟩
  generalize (w.alloc (.cells #[.int .i64 (a : Int), .string s, .int .i64 t] 102)).drewN nq = w2 at M2 ⊢
  clear M c0 e0 e1 e2
  have M := Aside0.mk M2
  clear M2
  obtain ⟨c2, cf2⟩ : w2.cell? ⟨g, 2, none⟩ = some (.int .i64 (P : Int)) ∧ _ := box_cell (M.out.pull 1 (by simp)) (j := 2) rfl
  go_wp2_with fail
  have hm3 := at_ M.out 1 (by simp) (fun rs h => box_set h 2 (nat (P + 1)))
  replace hm3 : Sep W (w2.setCell ⟨g, 2, none⟩ (.int .i64 ((P : Int) + 1))) (boxR w.heap.size 102 #[.int .i64 (a : Int), .string s, .int .i64 t] :: boxR g 99 #[.map (some bn), .map (some be), nat (P + 1), nat Tn] :: mapR mE bn gP P f :: rs) := by
    rw [show (Value.int .i64 ((P : Int) + 1)) = nat (P + 1) from by unfold nat; go_num]
    exact hm3
  generalize w2.setCell ⟨g, 2, none⟩ (.int .i64 ((P : Int) + 1)) = w3 at hm3 ⊢
  clear M c2 cf2
  have M := Aside0.mk hm3
  clear hm3
  have c0 := (box_cell (M.out.pull 1 (by simp)) (j := 0) rfl).1
  have c2 : w3.cell? ⟨g, 2, none⟩ = some (.int .i64 ((P + 1 : Nat) : Int)) := (box_cell (M.out.pull 1 (by simp)) (j := 2) rfl).1
  have e0 := (box_cell M.out (j := 0) rfl).1
  have e1 := (box_cell M.out (j := 1) rfl).1
  have e2 := (box_cell M.out (j := 2) rfl).1
  go_still_tail 9, (by kernel_rfl)
  change wpList _ _ _ _ _ w3.drew
  have M3 := M.out.drawn (w' := w3.drew) ⟨1, rfl⟩
  refine wp_store (m := mE) (s := (a, s, t)) (v := P + 1) rfl _ _ _ rfl rfl rfl rfl (map_at (M3.pull 2 (by simp))) HE.out HF.out (by unfold maxLen; omega) (by omega) ?_
  intro w4 hm4 hg4
  have hM4 := at_ M3 2 (by simp) (fun rs h => map_turn h hm4 hg4)
  clear M M3 hm4 hg4 c0 c2 e0 e1 e2
  have M := Aside0.mk hM4
  clear hM4
  have c0 := (box_cell (M.out.pull 1 (by simp)) (j := 0) rfl).1
  have e0 := (box_cell M.out (j := 0) rfl).1
  have e1 := (box_cell M.out (j := 1) rfl).1
  have e2 := (box_cell M.out (j := 2) rfl).1
  have hlook := fun n => (map_at ((M.out.drawn (w' := w4.drewN n) ⟨n, rfl⟩).pull 2 (by simp))).look1 (m := mE) (s := (a, s, t)) HE.out
  replace hlook : ∀ n, (Instr.lookup 97 (.map (some bn)) (.agg #[.int .i64 (a : Int), .string s, .int .i64 t]) false).run Try.prog (w4.drewN n) = .ok (.int .i64 ((P + 1 : Nat) : Int)) (w4.drewN n) := by
    intro n
    have h := hlook n
    rw [show upd f (a, s, t) (P + 1) (a, s, t) = some (P + 1) from by unfold upd; rw [if_pos rfl]] at h
    exact h
  go_wp2_with fail
  go_quiet (fail)
  go_wp2_with fail
  go_ret
  exact ⟨rfl, (M.out.drawn ⟨_, rfl⟩).tail⟩
theorem sink3 {W w : World} {x a b c : Res} {rs : List Res} (h : Sep W w (x :: a :: b :: c :: rs)) : Sep W w (a :: b :: c :: x :: rs) :=
  h.perm ((List.perm_middle (l₁ := [a, b, c]) (l₂ := rs)).symm)
def KAt (s : ByteArray) (ns : List Nat) (T : List Kt) (E v j : Nat) (PL : List Kt) : Prop := ∃ a, v = a + 1 ∧ KIn s ns T E a j PL
theorem kat_le {s : ByteArray} {ns : List Nat} {T : List Kt} {E v j : Nat} {PL : List Kt} (h : KAt s ns T E v j PL) : 0 < v ∧ v ≤ PL.length ∧ PL.length ≤ E + 1 + j := by
  obtain ⟨a, rfl, h⟩ := h
  have := kin_lt h
  have := h.few
  omega
/-- The first edge of a node, followed. -/
theorem walk_root {W w : World} {rs : List Res} {g bn be gP gE E : Nat} {s : ByteArray} {ns : List Nat} {PL T : List Kt} (hM : Sep W w (boxR g 99 #[.map (some bn), .map (some be), nat PL.length, nat T.length] :: mapR mE bn gP PL.length (nextF PL) :: mapR mI be gE T.length (endsF PL T) :: rs))
    (hs : s.size ≤ maxLen) (hp : Pths PL) (hsub : ∀ c ∈ T, c ∈ PL) (hf : PL.length ≤ E) (hE : E ≤ 1073741824) (hg : gP ≤ PL.length) :
    Calls Try.prog 56 #[.pointer (some ⟨g, 0, none⟩), .agg #[.int .i64 0, .string s, .int .i64 (-1)]] w fun e w' => ∃ (v gP' : Nat) (PL' : List Kt), e = .returned (nat v) ∧ KAt s ns T E v 0 PL' ∧ gP' ≤ PL'.length ∧
      Sep W w' (boxR g 99 #[.map (some bn), .map (some be), nat PL'.length, nat T.length] :: mapR mE bn gP' PL'.length (nextF PL') :: mapR mI be gE T.length (endsF PL' T) :: rs) := by
  have h := kin_root (ns := ns) hp hsub hf (s := s)
  have hok : mE.ok (0, s, -1) := ⟨by omega, hs, by simp, by simp⟩
  cases hn : nextF PL (0, s, -1) with
  | some v =>
    rw [hn] at h
    obtain ⟨a, rfl, hk⟩ := h
    refine (walk_old (a := 0) hM hok hn).mono ?_
    rintro e w' ⟨rfl, hm⟩
    exact ⟨a + 1, gP, PL, rfl, ⟨a, rfl, hk⟩, hg, hm⟩
  | none =>
    rw [hn] at h
    obtain ⟨hk, e1, e2⟩ := h
    refine (walk_new (a := 0) hM hok hn (by omega) (by omega)).mono ?_
    rintro e w' ⟨rfl, hm⟩
    refine ⟨PL.length + 1, gP + 1, PL ++ [(s, [])], rfl, ⟨_, rfl, hk⟩, by simp; omega, ?_⟩
    rw [← e1, ← e2, List.length_append, List.length_singleton]
    exact hm
/-- A kid's edge, followed. -/
theorem walk_kid {W w : World} {rs : List Res} {g bn be gP gE E v j : Nat} {s : ByteArray} {ns : List Nat} {PL T : List Kt} (hM : Sep W w (boxR g 99 #[.map (some bn), .map (some be), nat PL.length, nat T.length] :: mapR mE bn gP PL.length (nextF PL) :: mapR mI be gE T.length (endsF PL T) :: rs))
    (hk : KAt s ns T E v j PL) (hj : j < ns.length) (hE : E + 1 + ns.length ≤ 1073741824) (hns : ns[j] ≤ 1073741824) (hg : gP ≤ PL.length) :
    Calls Try.prog 56 #[.pointer (some ⟨g, 0, none⟩), .agg #[.int .i64 (v : Int), .string .empty, .int .i64 (ns[j] : Int)]] w fun e w' => ∃ (b gP' : Nat) (PL' : List Kt), e = .returned (nat b) ∧ KAt s ns T E b (j + 1) PL' ∧ gP' ≤ PL'.length ∧
      Sep W w' (boxR g 99 #[.map (some bn), .map (some be), nat PL'.length, nat T.length] :: mapR mE bn gP' PL'.length (nextF PL') :: mapR mI be gE T.length (endsF PL' T) :: rs) := by
  obtain ⟨a, rfl, hk⟩ := hk
  have h := kin_kid hk hj
  have hlt := kin_lt hk
  have hfew := hk.few
  have hok : mE.ok (a + 1, ByteArray.empty, (ns[j] : Int)) := ⟨by show a + 1 ≤ _; omega, by show ByteArray.empty.size ≤ _; decide, by show -1 ≤ (ns[j] : Int); omega, by show (ns[j] : Int) ≤ _; omega⟩
  cases hn : nextF PL (a + 1, ByteArray.empty, (ns[j] : Int)) with
  | some v =>
    rw [hn] at h
    obtain ⟨b, rfl, hk2⟩ := h
    refine (walk_old (a := a + 1) hM hok hn).mono ?_
    rintro e w' ⟨rfl, hm⟩
    exact ⟨b + 1, gP, PL, rfl, ⟨b, rfl, hk2⟩, hg, hm⟩
  | none =>
    rw [hn] at h
    obtain ⟨hk2, e1, e2⟩ := h
    refine (walk_new (a := a + 1) hM hok hn (by omega) (by omega)).mono ?_
    rintro e w' ⟨rfl, hm⟩
    refine ⟨PL.length + 1, gP + 1, PL ++ [(s, ns.take (j + 1))], rfl, ⟨_, rfl, hk2⟩, by simp; omega, ?_⟩
    rw [← e1, ← e2, List.length_append, List.length_singleton]
    exact hm
theorem build102a (s : ByteArray) (w : World) : (Instr.build 102 #[(0, .int .i64 0), (1, .string s), (2, .int .i64 (-1))]).run Try.prog w = .ok (.agg #[.int .i64 0, .string s, .int .i64 (-1)]) w := by kernel_rfl
theorem build102b (a k : Int) (w : World) : (Instr.build 102 #[(0, .int .i64 a), (2, .int .i64 k)]).run Try.prog w = .ok (.agg #[.int .i64 a, .string .empty, .int .i64 k]) w := by kernel_rfl
set_option maxHeartbeats 8000000 in
theorem of_calls {W w : World} {rs : List Res} {A : Option Addr} {c g bn be gP gE : Nat} {l : List Nd} {PL T : List Kt} {C : World → Prop}
    (hM : Sep W w (boxR g 99 #[.map (some bn), .map (some be), nat PL.length, nat T.length] :: mapR mE bn gP PL.length (nextF PL) :: mapR mI be gE T.length (endsF PL T) :: readR W C :: rs)) (hCC : ∀ w', C w' → NodesC A l w')
    (h0 : 0 < l.length) (hl : l.length ≤ 4194304) (hv : Valid l) (he : (l.map (·.2.length)).sum ≤ 4194304) (hlab : ∀ x ∈ l, x.1.size ≤ maxLen) (hp : Pths PL) (hsub : ∀ c ∈ T, c ∈ PL) (hPL : PL.length ≤ 16777216) (hgP : gP ≤ PL.length) (hgE : gE ≤ T.length) (hT : T.length ≤ 16777216) :
    Calls Try.prog 49 #[.pointer (some ⟨g, 0, none⟩), .slice A l.length c] w fun e w' => ∃ (b gP' gE' : Nat) (PL' : List Kt), e = .returned (.slice (some ⟨b, 0, none⟩) l.length l.length) ∧ Pths PL' ∧ (∀ c ∈ (kTo l T l.length).1, c ∈ PL') ∧ PL'.length ≤ PL.length + l.length + (l.map (·.2.length)).sum ∧ (kTo l T l.length).1.length ≤ T.length + l.length ∧ gP' ≤ PL'.length ∧ gE' ≤ (kTo l T l.length).1.length ∧
      Sep W w' (boxR g 99 #[.map (some bn), .map (some be), nat PL'.length, nat (kTo l T l.length).1.length] :: mapR mE bn gP' PL'.length (nextF PL') :: mapR mI be gE' (kTo l T l.length).1.length (endsF PL' (kTo l T l.length).1) :: rowR 3 1 (.slice (some ⟨b, 0, none⟩) l.length l.length) l.length ((kTo l T l.length).2.map nat) :: readR W C :: rs) := by
  have M := Aside0.mk hM
  have HV := Aside0.mk hv
  have HLab := Aside0.mk hlab
  have HE := Aside0.mk he
  have HP := Aside0.mk (ki_start (l := l) hp hsub)
  have HCC := Aside0.mk hCC
  clear hM hv hlab he hp hsub hCC
  have hba := build102a
  have hbb := build102b
  go_enter Try.func49, Try.ntmps49
  go_wp2_with (at_make; refine wp_make M.out rfl _ _ 25 3 rfl Try.underlying25 info3 rfl rfl rfl (by omega) (by omega) ?_; intro w1 hm1; clear M; have M := Aside0.mk hm1; clear hm1)
  go_loopw [18] (fun v18 wr => ∃ (i gP' gE' : Nat) (PL' : List Kt), i ≤ l.length ∧ v18 = .int .i64 i ∧ gP' ≤ PL'.length ∧ gE' ≤ (kTo l T i).1.length ∧ Aside0 (KI l T PL.length i PL') ∧
    Aside0 (Sep W wr (boxR g 99 #[.map (some bn), .map (some be), nat PL'.length, nat (kTo l T i).1.length] :: mapR mE bn gP' PL'.length (nextF PL') :: mapR mI be gE' (kTo l T i).1.length (endsF PL' (kTo l T i).1) :: rowR 3 1 (.slice (some ⟨w.heap.size, 0, none⟩) l.length l.length) l.length ((kTo l T i).2.map nat) :: readR W C :: rs))) (fun v18 _ => l.length - (intOf v18).toNat)
  case atStart => exact ⟨0, gP, gE, PL, by omega, rfl, hgP, hgE, HP, ⟨by rw [show ((kTo l T 0).2.map nat) = List.replicate l.length (.int .i64 0) by simp [kTo, nat]]; exact sink3 M.out⟩⟩
  case round =>
    clear M HP
    obtain ⟨i, gP', gE', PL', hi, rfl, hgP', hgE', HI, M⟩ := hrel
    by_cases hlt : i < l.length
    · obtain ⟨ad, Ak, ck, rfl, x0, x1, hck, hCk⟩ := node_at (HCC.out _ (read_at (M.out.pull 4 (by simp)))) hlt
      obtain ⟨wo, rfl⟩ : ∃ wo : World, wo = wr := ⟨_, rfl⟩
      obtain ⟨ns, hns⟩ : ∃ ns, ns = kidsK (kTo l T i).2 l[i] := ⟨_, rfl⟩
      have hnsl : ns.length = l[i].2.length := by rw [hns]; simp [kidsK]
      have hn1 : ns.length ≤ l[i].2.length := by omega
      have hn2 : l[i].2.length ≤ ns.length := by omega
      clear hnsl
      have HNs := Aside0.mk hns
      clear hns
      have hfew := HI.out.few
      have hEd := edges_le HE.out i
      have hnle : ns.length ≤ 4194304 := by have := kids_le HE.out hlt; omega
      have hlabi := HLab.out l[i] (List.getElem_mem hlt)
      have hless := HI.out.less
      replace M := Aside0.mk (sink3 (box_fresh (at_ M.out 4 (by simp) (fun _ h => read_cell h _ (fun w' hc => nodes_cell hlt (HCC.out w' hc)) x1)) 27 #[.string l[i].1, .slice Ak l[i].2.length ck]))
      go_wp2_with fail
      refine (walk_root (ns := ns) (E := PL.length + i + edges l i) M.out hlabi HI.out.pths HI.out.sub hfew (by omega) hgP').mono ?_
      rintro e w5 ⟨v, gP5, PL5, rfl, hk5, hg5, hm5⟩
      clear M x0 x1 hgP'
      have M := Aside0.mk hm5
      have HK := Aside0.mk hk5
      clear hm5 hk5
      obtain ⟨x1, _⟩ : w5.cell? ⟨wo.heap.size, 1, none⟩ = some (.slice Ak l[i].2.length ck) ∧ _ := box_cell (M.out.pull 3 (by simp)) (j := 1) rfl
      go_wp2_with fail
      go_loopw [8, 31] (fun v8 v31 wq => ∃ (j v gP5 : Nat) (PL5 : List Kt), j ≤ ns.length ∧ v31 = .int .i64 j ∧ v8 = .int .i64 v ∧ gP5 ≤ PL5.length ∧ Aside0 (KAt l[i].1 ns (kTo l T i).1 (PL.length + i + edges l i) v j PL5) ∧
        Aside0 (Sep W wq (boxR g 99 #[.map (some bn), .map (some be), nat PL5.length, nat (kTo l T i).1.length] :: mapR mE bn gP5 PL5.length (nextF PL5) :: mapR mI be gE' (kTo l T i).1.length (endsF PL5 (kTo l T i).1) :: boxR wo.heap.size 27 #[.string l[i].1, .slice Ak l[i].2.length ck] :: rowR 3 1 (.slice (some ⟨w.heap.size, 0, none⟩) l.length l.length) l.length ((kTo l T i).2.map nat) ::
          readR W (fun w' => C w' ∧ w'.cell? ⟨(ad.add (i * 2)).block, (ad.add (i * 2)).off + 1, none⟩ = some (.slice Ak l[i].2.length ck)) :: rs))) (fun _ v31 _ => ns.length - (intOf v31).toNat)
      case atStart => exact ⟨0, v, gP5, PL5, by omega, rfl, rfl, hg5, HK, M⟩
      case round =>
        clear M HK x1 hg5
        obtain ⟨j, v, gP5, PL5, hj, rfl, rfl, hg5, HK, M⟩ := hrel
        obtain ⟨hv0, hv1, hv2⟩ := kat_le HK.out
        by_cases hjl : j < ns.length
        · have hjl' : j < l[i].2.length := by omega
          obtain ⟨hNC, hNx⟩ := read_at (M.out.pull 5 (by simp))
          obtain ⟨ak, rfl, hk0⟩ := kid_at (kids_of (HCC.out _ hNC) hlt hNx) rfl hjl'
          have hki := HV.out i l[i] (List.getElem?_eq_getElem hlt) _ (List.getElem_mem hjl')
          have hnsj : ns[j] = (kTo l T i).2.getD l[i].2[j] 0 := by
            have := HNs.out
            subst this
            simp [kidsK]
          have hkl : l[i].2[j] < (kTo l T i).2.length := by rw [kTo_len]; omega
          have c51 := row_cell (M.out.pull 4 (by simp)) (j := l[i].2[j]) (u := nat ns[j]) (by rw [List.getElem?_map, List.getElem?_eq_getElem hkl, hnsj, List.getD_eq_getElem?_getD, List.getElem?_eq_getElem hkl]; rfl)
          have hnb : ns[j] ≤ 33554432 := by
            have h1 : ns[j] ∈ (kTo l T i).2 := by
              rw [hnsj, List.getD_eq_getElem?_getD, List.getElem?_eq_getElem hkl]
              exact List.getElem_mem hkl
            rcases HI.out.nums _ h1 with h | h <;> omega
          replace c51 : wr.cell? ⟨w.heap.size, l[i].2[j], none⟩ = some (.int .i64 (ns[j] : Int)) := c51
          generalize l[i].2[j] = k at hk0 hki c51 hkl
          clear hnsj hNC hNx
          go_wp2_with fail
          refine (walk_kid M.out HK.out hjl (by omega) (by omega) hg5).mono ?_
          rintro e w6 ⟨b, gP6, PL6, rfl, hk6, hg6, hm6⟩
          clear M HK hg5
          have M := Aside0.mk hm6
          have HK := Aside0.mk hk6
          clear hm6 hk6 hk0 c51
          go_wp2_with fail
          go_roundw
          case rel => exact ⟨j + 1, b, gP6, PL6, by omega, by go_num, rfl, hg6, HK, M⟩
          case measure => simp [intOf]; omega
        · have hje : j = ns.length := by omega
          subst hje
          obtain ⟨c1, _⟩ : wr.cell? ⟨g, 1, none⟩ = some (.map (some be)) ∧ _ := box_cell M.out (j := 1) rfl
          have hfewE := edges_le HE.out (i + 1)
          have hends : endsF PL5 (kTo l T i).1 v = ix (kTo l T i).1 (l[i].1, ns) := by
            obtain ⟨a, rfl, hk⟩ := HK.out
            have := hk.here
            rw [List.take_length] at this
            exact ends_at this
          have hrow := row_cell (M.out.pull 4 (by simp)) (List.getElem?_eq_getElem (by rw [List.length_map, kTo_len]; exact hlt))
          have hnf := row_free (M.out.pull 4 (by simp)) h0 i
          have c9 : ∃ u, wr.cell? ⟨w.heap.size, i, none⟩ = some u := ⟨_, hrow⟩
          clear hrow
          obtain ⟨u9, c9⟩ := c9
          have hlook := (map_at (M.out.pull 2 (by simp))).look (m := mI) (s := v) (by show v ≤ _; omega)
          have hlook1 := (map_at (M.out.pull 2 (by simp))).look1 (m := mI) (s := v) (by show v ≤ _; omega)
          cases hfp : ix (kTo l T i).1 (l[i].1, ns) with
          | some n =>
            rw [hends, hfp] at hlook hlook1
            replace hlook : (Instr.lookup 82 (.map (some be)) (.int .i64 (v : Int)) true).run Try.prog wr = .ok (.tuple #[.int .i64 (n : Int), .bool true]) wr := hlook
            replace hlook1 : (Instr.lookup 82 (.map (some be)) (.int .i64 (v : Int)) false).run Try.prog wr = .ok (.int .i64 (n : Int)) wr := hlook1
            obtain ⟨a, ha, hk⟩ := HK.out
            obtain ⟨g1, g2, g3⟩ := ki_old HI.out hlt HNs.out hk hfp
            have G1 := Aside0.mk g1
            have G2 := Aside0.mk g2
            clear hends hfp ha hk g1 g2
            go_wp2_with fail
            have hm := at_ M.out 4 (by simp) (fun rs h => Sep.stored h (j := i) (u := nat n) hlt rfl)
            have hm2 := (at_ hm 5 (by simp) (fun rs h => read_weak (C' := C) h (fun w' hc => hc.1))).pull 3 (by simp)
            have hm3 := hm2.tail
            go_roundw
            case rel => exact ⟨i + 1, gP5, gE', PL5, by omega, by go_num, hg5, by rw [G2.out]; exact hgE', G1, ⟨by rw [G2.out, map_set]; exact hm3⟩⟩
            case measure => simp [intOf]; omega
          | none =>
            rw [hends, hfp] at hlook
            replace hlook : (Instr.lookup 82 (.map (some be)) (.int .i64 (v : Int)) true).run Try.prog wr = .ok (.tuple #[.int .i64 0, .bool false]) wr := hlook
            have Hends := Aside0.mk (hends.trans hfp)
            obtain ⟨a, ha, hk⟩ := HK.out
            obtain ⟨g1, g2, g3⟩ := ki_new HI.out hlt HNs.out hk hfp
            have G1 := Aside0.mk g1
            have G2 := Aside0.mk g2
            have G3 := Aside0.mk g3
            have HA := Aside0.mk ha
            clear hends hfp ha hk g1 g2 g3 hlook1
            go_wp2_with fail
            obtain ⟨c3, _⟩ : wr.cell? ⟨g, 3, none⟩ = some (.int .i64 (((kTo l T i).1.length : Nat) : Int)) ∧ _ := box_cell M.out (j := 3) rfl
            go_still_tail 9, (by kernel_rfl)
            change wpList _ _ _ _ _ wr.drew
            have M3 := M.out.drawn (w' := wr.drew) ⟨1, rfl⟩
            refine wp_store (m := mI) (s := v) (v := (kTo l T i).1.length) rfl _ _ _ rfl rfl rfl rfl (map_at (M3.pull 2 (by simp))) (by show v ≤ _; omega) Hends.out (by unfold maxLen; omega) (by omega) ?_
            intro w4 hm4 hg4
            have hM4 := at_ M3 2 (by simp) (fun rs h => map_turn h hm4 hg4)
            clear M M3 hm4 hg4 hlook c1 c3 c9 hnf u9
            have M := Aside0.mk hM4
            clear hM4
            obtain ⟨c3, cf3⟩ : w4.cell? ⟨g, 3, none⟩ = some (.int .i64 (((kTo l T i).1.length : Nat) : Int)) ∧ _ := box_cell M.out (j := 3) rfl
            have hm5 := box_set M.out 3 (nat ((kTo l T i).1.length + 1))
            have e5 : w4.setCell ⟨g, 3, none⟩ (nat ((kTo l T i).1.length + 1)) = w4.setCell ⟨g, 3, none⟩ (.int .i64 (((kTo l T i).1.length : Int) + 1)) := by
              rw [show (Value.int .i64 (((kTo l T i).1.length : Int) + 1)) = nat ((kTo l T i).1.length + 1) from by unfold nat; go_num]
            rw [e5] at hm5
            clear e5 M
            have M := Aside0.mk hm5
            clear hm5
            have hlook1 := (map_at (M.out.pull 2 (by simp))).look1 (m := mI) (s := v) (by show v ≤ _; omega)
            rw [show upd (endsF PL5 (kTo l T i).1) v (kTo l T i).1.length v = some (kTo l T i).1.length from by unfold upd; rw [if_pos rfl]] at hlook1
            generalize hw5 : w4.setCell ⟨g, 3, none⟩ (.int .i64 (((kTo l T i).1.length : Int) + 1)) = w5 at M hlook1
            replace hlook1 : (Instr.lookup 82 (.map (some be)) (.int .i64 (v : Int)) false).run Try.prog w5 = .ok (.int .i64 (((kTo l T i).1.length : Nat) : Int)) w5 := hlook1
            obtain ⟨c1, _⟩ : w5.cell? ⟨g, 1, none⟩ = some (.map (some be)) ∧ _ := box_cell M.out (j := 1) rfl
            have hrow := row_cell (M.out.pull 4 (by simp)) (List.getElem?_eq_getElem (by rw [List.length_map, kTo_len]; exact hlt))
            have hnf := row_free (M.out.pull 4 (by simp)) h0 i
            have c9 : ∃ u, w5.cell? ⟨w.heap.size, i, none⟩ = some u := ⟨_, hrow⟩
            clear hrow
            obtain ⟨u9, c9⟩ := c9
            go_wp2_with fail
            have hm := at_ M.out 4 (by simp) (fun rs h => Sep.stored h (j := i) (u := nat (kTo l T i).1.length) hlt rfl)
            have hm2 := (at_ hm 5 (by simp) (fun rs h => read_weak (C' := C) h (fun w' hc => hc.1))).pull 3 (by simp)
            have hm3 := hm2.tail
            go_roundw
            case rel => exact ⟨i + 1, gP5, gE' + 1, PL5, by omega, by go_num, hg5, by rw [G2.out]; simp; omega, G1, ⟨by rw [G2.out, map_set, ← G3.out, ← HA.out, List.length_append, List.length_singleton]; exact hm3⟩⟩
            case measure => simp [intOf]; omega
    · have hie : i = l.length := by omega
      subst hie
      go_wp2_with fail
      go_ret
      have h := HI.out.few
      have hed : edges l l.length = (l.map (·.2.length)).sum := by unfold edges; rw [List.take_length]
      exact ⟨w.heap.size, gP', gE', PL', rfl, HI.out.pths, HI.out.sub, by omega, HI.out.less, hgP', hgE', M.out⟩
end Go.Proofs.Ytkonloadedbpkaa.KindsW

namespace Go.Proofs.Ytkonloadedbpkaa.KindsS
open Go.Proofs.Ytkonloadedbpkaa.FoldPure Go.Proofs.Ytkonloadedbpkaa.Gather Go.Proofs.Ytkonloadedbpkaa.KindsP
set_option linter.unusedVariables false

def StrictT (T : List Kt) : Prop := ∀ (n : Nat) (c : Kt), T[n]? = some c → ∀ m ∈ c.2, m < n
theorem strict_nil : StrictT [] := fun n c h => by simp at h
/-- What holds when i nodes have been numbered. -/
structure KS (l : List Nd) (T0 : List Kt) (i : Nat) (T : List Kt) (ns : List Nat) : Prop where
  strict : StrictT T
  apart : T.Nodup
  more : ∃ t, T = T0 ++ t
  len : ns.length = l.length
  at_ : ∀ j (hj : j < l.length), j < i → T[ns.getD j 0]? = some (l[j].1, kidsK ns l[j])
theorem kidsK_set {l : List Nd} (hv : Valid l) {i j n : Nat} (hj : j < l.length) (hji : j ≤ i) (ns : List Nat) : kidsK (ns.set i n) l[j] = kidsK ns l[j] := by
  unfold kidsK
  refine List.map_congr_left fun k hk => ?_
  have := hv j l[j] (List.getElem?_eq_getElem hj) k hk
  rw [List.getD_eq_getElem?_getD, List.getElem?_set_ne (by omega), ← List.getD_eq_getElem?_getD]
theorem ks_step {l : List Nd} {T0 T : List Kt} {ns : List Nat} {i : Nat} (hv : Valid l) (h : KS l T0 i T ns) (hi : i < l.length) : KS l T0 (i + 1) (kStep (T, ns) i l[i]).1 (kStep (T, ns) i l[i]).2 := by
  unfold kStep
  simp only
  have hset : ∀ n, (ns.set i n).getD i 0 = n := fun n => by rw [List.getD_eq_getElem?_getD, List.getElem?_set_self (by rw [h.len]; exact hi)]; rfl
  have hne : ∀ n j, j ≠ i → (ns.set i n).getD j 0 = ns.getD j 0 := fun n j hj => by rw [List.getD_eq_getElem?_getD, List.getElem?_set_ne (by omega), ← List.getD_eq_getElem?_getD]
  cases hk : ix T (l[i].1, kidsK ns l[i]) with
  | some n =>
    rw [placeT_some hk]
    refine ⟨h.strict, h.apart, h.more, by rw [List.length_set]; exact h.len, fun j hj hji => ?_⟩
    rw [kidsK_set hv hj (by omega)]
    by_cases e : j = i
    · subst e
      rw [hset]
      exact ix_some hk
    · rw [hne _ _ e]
      exact h.at_ j hj (by omega)
  | none =>
    rw [placeT_none hk]
    have hnew := ix_none.1 hk
    refine ⟨fun n c hn m hm => ?_, nodup_snoc h.apart hnew, ?_, by rw [List.length_set]; exact h.len, fun j hj hji => ?_⟩
    · rcases Nat.lt_or_ge n T.length with hlt | hge
      · rw [List.getElem?_append_left hlt] at hn
        exact h.strict n c hn m hm
      · rw [List.getElem?_append_right hge] at hn
        obtain ⟨h0, h1⟩ := List.getElem?_eq_some_iff.1 hn
        simp only [List.length_singleton] at h0
        have hn0 : n - T.length = 0 := by omega
        simp only [hn0, List.getElem_cons_zero] at h1
        subst h1
        obtain ⟨k, hkm, rfl⟩ := List.mem_map.1 hm
        have hki := hv i l[i] (List.getElem?_eq_getElem hi) k hkm
        have := (List.getElem?_eq_some_iff.1 (h.at_ k (by omega) hki)).1
        show _ < n
        omega
    · obtain ⟨t, ht⟩ := h.more
      exact ⟨t ++ [(l[i].1, kidsK ns l[i])], by rw [ht, List.append_assoc]⟩
    · rw [kidsK_set hv hj (by omega)]
      by_cases e : j = i
      · subst e
        rw [hset, List.getElem?_append_right (Nat.le_refl _)]
        simp
      · rw [hne _ _ e]
        have := h.at_ j hj (by omega)
        rw [List.getElem?_append_left (List.getElem?_eq_some_iff.1 this).1]
        exact this
theorem ks_all {l : List Nd} (hv : Valid l) {T0 : List Kt} (hs : StrictT T0) (ha : T0.Nodup) : ∀ i, i ≤ l.length → KS l T0 i (kTo l T0 i).1 (kTo l T0 i).2 := by
  intro i
  induction i with
  | zero => exact fun _ => ⟨hs, ha, ⟨[], by simp [kTo]⟩, by simp [kTo], fun j hj h => by omega⟩
  | succ i ih =>
    intro hi
    rw [kTo_succ (by omega)]
    exact ks_step hv (ih (by omega)) (by omega)
/-- The numbers of a list's nodes, the table having been empty. -/
def kN (l : List Nd) : List Nat := (kTo l [] l.length).2
def kT (l : List Nd) : List Kt := (kTo l [] l.length).1
theorem ks_of {l : List Nd} (hv : Valid l) : KS l [] l.length (kT l) (kN l) := ks_all hv strict_nil List.nodup_nil l.length (Nat.le_refl _)
theorem kN_strict {l : List Nd} (hv : Valid l) {i : Nat} (hi : i < l.length) : ∀ k ∈ l[i].2, (kN l).getD k 0 < (kN l).getD i 0 := by
  intro k hk
  have h := ks_of hv
  exact h.strict _ _ (h.at_ i hi hi) _ (List.mem_map_of_mem hk)
/-- Two nodes have one number just where their labels and their kids' numbers are the same. -/
theorem kN_eq {l : List Nd} (hv : Valid l) {i j : Nat} (hi : i < l.length) (hj : j < l.length) : (kN l).getD i 0 = (kN l).getD j 0 ↔ l[i].1 = l[j].1 ∧ kidsK (kN l) l[i] = kidsK (kN l) l[j] := by
  have h := ks_of hv
  have h1 := h.at_ i hi hi
  have h2 := h.at_ j hj hj
  constructor
  · intro e
    rw [e, h2] at h1
    have := Option.some.inj h1
    simp only [Prod.mk.injEq] at this
    exact ⟨this.1.symm, this.2.symm⟩
  · rintro ⟨e1, e2⟩
    rw [e1, e2] at h1
    have a := ix_nodup h.apart h1
    have b := ix_nodup h.apart h2
    rw [a] at b
    exact Option.some.inj b
end Go.Proofs.Ytkonloadedbpkaa.KindsS

namespace Go.Proofs.Ytkonloadedbpkaa.TreeW
open Go.RowKit Go.Maps Go.Proofs.Ytkonloadedbpkaa.Sep Go.Proofs.Ytkonloadedbpkaa.FMaps Go.Proofs.Ytkonloadedbpkaa.FoldPure Go.Proofs.Ytkonloadedbpkaa.FoldMem Go.Proofs.Ytkonloadedbpkaa.Gather Go.Proofs.Ytkonloadedbpkaa.KindsP Go.Proofs.Ytkonloadedbpkaa.NodesMem Go.Proofs.Ytkonloadedbpkaa.KindsW
open Go.Proofs.YtkonloadedbpkaaW.PrintWords
open Go.Proofs.YtkonloadedbpkaaW.PrintMore
attribute [local go_sem] max2_int min2_int
set_option linter.unusedVariables false
set_option linter.unusedSimpArgs false
set_option maxRecDepth 100000

set_option maxHeartbeats 4000000 in
theorem none_calls {W w : World} {rs : List Res} {A : Option Addr} {c : Nat} {l : List Nd} {C : World → Prop} (hM : Sep W w (readR W C :: rs)) (hCC : ∀ w', C w' → NodesC A l w') (h0 : 0 < l.length) (hl : l.length ≤ 4194304) (hv : Valid l) (he : (l.map (·.2.length)).sum ≤ 4194304) :
    Calls Try.prog 46 #[.slice A l.length c] w fun e w' => e = .returned (.bool false) ∧ Sep W w' (readR W C :: rs) := by
  have M := Aside0.mk hM
  have HV := Aside0.mk hv
  have HE := Aside0.mk he
  have HCC := Aside0.mk hCC
  clear hM hv he hCC
  go_enter Try.func46, Try.ntmps46
  go_wp2
  go_loopw [9] (fun v9 wr => ∃ (i : Nat), i ≤ l.length ∧ v9 = .int .i64 i ∧ Aside0 (Sep W wr (readR W C :: rs))) (fun v9 _ => l.length - (intOf v9).toNat)
  case atStart => exact ⟨0, by omega, rfl, M⟩
  case round =>
    clear M
    obtain ⟨i, hi, rfl, M⟩ := hrel
    by_cases hlt : i < l.length
    · obtain ⟨ad, Ak, ck, rfl, x0, x1, hck, hCk⟩ := node_at (HCC.out _ (read_at M.out)) hlt
      obtain ⟨wo, rfl⟩ : ∃ wo : World, wo = wr := ⟨_, rfl⟩
      have hnle := kids_le HE.out hlt
      replace M := Aside0.mk (box_fresh (at_ M.out 0 (by simp) (fun _ h => read_cell h _ (fun w' hc => nodes_cell hlt (HCC.out w' hc)) x1)) 27 #[.string l[i].1, .slice Ak l[i].2.length ck])
      go_wp2_with fail
      go_loopw [17] (fun v17 wq => ∃ (j : Nat), j ≤ l[i].2.length ∧ v17 = .int .i64 j ∧ Aside0 (Sep W wq (boxR wo.heap.size 27 #[.string l[i].1, .slice Ak l[i].2.length ck] :: readR W (fun w' => C w' ∧ w'.cell? ⟨(ad.add (i * 2)).block, (ad.add (i * 2)).off + 1, none⟩ = some (.slice Ak l[i].2.length ck)) :: rs))) (fun v17 _ => l[i].2.length - (intOf v17).toNat)
      case atStart => exact ⟨0, by omega, rfl, M⟩
      case round =>
        clear M x0 x1
        obtain ⟨j, hj, rfl, M⟩ := hrel
        by_cases hjl : j < l[i].2.length
        · obtain ⟨hNC, hNx⟩ := read_at (M.out.pull 1 (by simp))
          obtain ⟨ak, rfl, hk0⟩ := kid_at (kids_of (HCC.out _ hNC) hlt hNx) rfl hjl
          have hki := HV.out i l[i] (List.getElem?_eq_getElem hlt) _ (List.getElem_mem hjl)
          generalize l[i].2[j] = k at hk0 hki
          replace hk0 : wr.cell? (ak.add j) = some (.int .i64 (k : Int)) := hk0
          have b1 : decide ((k : Int) < 0) = false := decide_eq_false (by omega)
          have b2 : decide ((k : Int) ≥ (i : Int)) = false := decide_eq_false (by omega)
          have b3 : decide ((i : Int) ≤ (k : Int)) = false := decide_eq_false (by omega)
          have b4 : decide (i ≤ k) = false := decide_eq_false (by omega)
          have g1 : ¬ (k : Int) < 0 := by omega
          have g2 : ¬ (i : Int) ≤ (k : Int) := by omega
          go_wp2_with fail
          go_roundw
          case rel => exact ⟨j + 1, by omega, by go_num, M⟩
          case measure => simp [intOf]; omega
        · have hje : j = l[i].2.length := by omega
          subst hje
          go_wp2_with fail
          go_roundw
          case rel => exact ⟨i + 1, by omega, by go_num, ⟨read_weak M.out.tail (fun w' hc => hc.1)⟩⟩
          case measure => simp [intOf]; omega
    · have hie : i = l.length := by omega
      subst hie
      have e1 : ((l.length : Int) == 0) = false := by rw [beq_eq_false_iff_ne]; omega
      go_wp2_with fail
      go_ret
      exact ⟨rfl, M.out⟩
theorem build99 (b1 b2 : Nat) (w : World) : (Instr.build 99 #[(0, .map (some b1)), (1, .map (some b2))]).run Try.prog w = .ok (.agg #[.map (some b1), .map (some b2), .int .i64 0, .int .i64 0]) w := by kernel_rfl
set_option maxHeartbeats 4000000 in
theorem newKinds_calls {W w : World} {rs : List Res} (hM : Sep W w rs) :
    Calls Try.prog 48 #[] w fun e w' => ∃ g bn be, e = .returned (.pointer (some ⟨g, 0, none⟩)) ∧ Sep W w' (boxR g 99 #[.map (some bn), .map (some be), nat 0, nat 0] :: mapR mE bn 0 0 (nextF []) :: mapR mI be 0 0 (endsF [] []) :: rs) := by
  have M1 := map_fresh hM mE
  have M2 := map_fresh M1 mI
  have M3 := box_fresh M2 99 #[.map (some w.heap.size), .map (some (w.heap.size + 1)), .int .i64 0, .int .i64 0]
  have M := Aside0.mk M3
  clear hM M1 M2 M3
  have hmm := @run_makeMap Try.prog
  have hbd := build99
  go_enter Try.func48, Try.ntmps48
  go_wp2
  go_ret
  refine ⟨w.heap.size + 1 + 1, w.heap.size, w.heap.size + 1, rfl, ?_⟩
  have h := M.out
  rw [nextF_nil, endsF_nil]
  have h2 := h.perm (List.Perm.cons _ (List.Perm.swap _ _ _))
  simp only [World.size_alloc] at h2
  exact h2
/-! ### sizes -/
def cap2 (n : Nat) : Nat := if 2001 < n then 2001 else n
def sizeKids (xs : List Nat) (ks : List Nat) : Nat := ks.foldl (fun a k => cap2 (a + xs.getD k 0)) 1
def sizesTo (l : List Nd) : Nat → List Nat
  | 0 => List.replicate l.length 0
  | i + 1 => match l[i]? with
    | some x => (sizesTo l i).set i (sizeKids (sizesTo l i) x.2)
    | none => sizesTo l i
theorem sizes_succ {l : List Nd} {i : Nat} (h : i < l.length) : sizesTo l (i + 1) = (sizesTo l i).set i (sizeKids (sizesTo l i) l[i].2) := by rw [sizesTo, List.getElem?_eq_getElem h]
theorem sizes_len (l : List Nd) : ∀ i, (sizesTo l i).length = l.length := by
  intro i
  induction i with
  | zero => simp [sizesTo]
  | succ i ih =>
    unfold sizesTo
    split
    · rw [List.length_set, ih]
    · exact ih
theorem cap2_le (n : Nat) : cap2 n ≤ 2001 := by unfold cap2; split <;> omega
theorem sizeKids_le (xs ks : List Nat) : sizeKids xs ks ≤ 2001 := by
  unfold sizeKids
  have : ∀ (ks : List Nat) (a : Nat), a ≤ 2001 → ks.foldl (fun a k => cap2 (a + xs.getD k 0)) a ≤ 2001 := by
    intro ks
    induction ks with
    | nil => intro a h; exact h
    | cons k ks ih => intro a h; exact ih _ (cap2_le _)
  exact this ks 1 (by omega)
theorem sizes_le (l : List Nd) : ∀ i, ∀ n ∈ sizesTo l i, n ≤ 2001 := by
  intro i
  induction i with
  | zero => intro n hn; have := List.eq_of_mem_replicate hn; omega
  | succ i ih =>
    unfold sizesTo
    split
    · intro n hn
      rcases List.mem_or_eq_of_mem_set hn with hn | rfl
      · exact ih n hn
      · exact sizeKids_le _ _
    · exact ih
theorem sizeKids_succ (xs ks : List Nat) {j : Nat} (h : j < ks.length) : sizeKids xs (ks.take (j + 1)) = cap2 (sizeKids xs (ks.take j) + xs.getD ks[j] 0) := by
  unfold sizeKids
  rw [List.take_succ_eq_append_getElem h, List.foldl_append]
  rfl
set_option maxHeartbeats 4000000 in
theorem sizes_calls {W w : World} {rs : List Res} {A : Option Addr} {c : Nat} {l : List Nd} {C : World → Prop} (hM : Sep W w (readR W C :: rs)) (hCC : ∀ w', C w' → NodesC A l w') (h0 : 0 < l.length) (hl : l.length ≤ 4194304) (hv : Valid l) (he : (l.map (·.2.length)).sum ≤ 4194304) :
    Calls Try.prog 47 #[.slice A l.length c] w fun e w' => ∃ b, e = .returned (.slice (some ⟨b, 0, none⟩) l.length l.length) ∧ Sep W w' (rowR 3 1 (.slice (some ⟨b, 0, none⟩) l.length l.length) l.length ((sizesTo l l.length).map nat) :: readR W C :: rs) := by
  have M := Aside0.mk hM
  have HV := Aside0.mk hv
  have HE := Aside0.mk he
  have HCC := Aside0.mk hCC
  clear hM hv he hCC
  go_enter Try.func47, Try.ntmps47
  go_wp2_with (at_make; refine wp_make M.out rfl _ _ 25 3 rfl Try.underlying25 info3 rfl rfl rfl (by omega) (by omega) ?_; intro w1 hm1; clear M; have M := Aside0.mk hm1; clear hm1)
  go_loopw [13] (fun v13 wr => ∃ (i : Nat), i ≤ l.length ∧ v13 = .int .i64 i ∧ Aside0 (Sep W wr (rowR 3 1 (.slice (some ⟨w.heap.size, 0, none⟩) l.length l.length) l.length ((sizesTo l i).map nat) :: readR W C :: rs))) (fun v13 _ => l.length - (intOf v13).toNat)
  case atStart => exact ⟨0, by omega, rfl, ⟨by rw [show ((sizesTo l 0).map nat) = List.replicate l.length (.int .i64 0) by simp [sizesTo, nat]]; exact M.out⟩⟩
  case round =>
    clear M
    obtain ⟨i, hi, rfl, M⟩ := hrel
    by_cases hlt : i < l.length
    · obtain ⟨ad, Ak, ck, rfl, x0, x1, hck, hCk⟩ := node_at (HCC.out _ (read_at (M.out.pull 1 (by simp)))) hlt
      obtain ⟨wo, rfl⟩ : ∃ wo : World, wo = wr := ⟨_, rfl⟩
      have hnle := kids_le HE.out hlt
      have hnf := row_free M.out h0 i
      have c9 : ∃ u, wo.cell? ⟨w.heap.size, i, none⟩ = some u := ⟨_, row_cell M.out (List.getElem?_eq_getElem (by rw [List.length_map, sizes_len]; exact hlt))⟩
      obtain ⟨u9, c9⟩ := c9
      have lt9 := World.block_lt_of_cell? _ _ c9
      have hst := box_fresh (at_ (at_ M.out 1 (by simp) (fun _ h => read_cell h _ (fun w' hc => nodes_cell hlt (HCC.out w' hc)) x1)) 0 (by simp) (fun rs h => Sep.stored h (j := i) (u := nat 1) hlt rfl)) 27 #[.string l[i].1, .slice Ak l[i].2.length ck]
      rw [show (wo.setCell ⟨w.heap.size, i, none⟩ (nat 1)).heap.size = wo.heap.size by simp] at hst
      clear M
      have M := Aside0.mk hst
      clear hst
      go_wp2_with fail
      go_loopw [24] (fun v24 wq => ∃ (j : Nat), j ≤ l[i].2.length ∧ v24 = .int .i64 j ∧ Aside0 (Sep W wq (boxR wo.heap.size 27 #[.string l[i].1, .slice Ak l[i].2.length ck] :: rowR 3 1 (.slice (some ⟨w.heap.size, 0, none⟩) l.length l.length) l.length (((sizesTo l i).set i (sizeKids (sizesTo l i) (l[i].2.take j))).map nat) :: readR W (fun w' => C w' ∧ w'.cell? ⟨(ad.add (i * 2)).block, (ad.add (i * 2)).off + 1, none⟩ = some (.slice Ak l[i].2.length ck)) :: rs))) (fun v24 _ => l[i].2.length - (intOf v24).toNat)
      case atStart => exact ⟨0, by omega, rfl, ⟨by rw [map_set]; exact M.out⟩⟩
      case round =>
        clear M x0 x1 c9 hnf lt9
        obtain ⟨j, hj, rfl, M⟩ := hrel
        by_cases hjl : j < l[i].2.length
        · obtain ⟨hNC, hNx⟩ := read_at (M.out.pull 2 (by simp))
          obtain ⟨ak, rfl, hk0⟩ := kid_at (kids_of (HCC.out _ hNC) hlt hNx) rfl hjl
          have hki := HV.out i l[i] (List.getElem?_eq_getElem hlt) _ (List.getElem_mem hjl)
          have hs := sizeKids_succ (sizesTo l i) l[i].2 hjl
          generalize l[i].2[j] = k at hk0 hki hs
          have hkl : k < (sizesTo l i).length := by rw [sizes_len]; omega
          have r0 := row_cell (M.out.pull 1 (by simp)) (j := i) (u := nat (sizeKids (sizesTo l i) (l[i].2.take j))) (by simp [sizes_len, hlt])
          have r1 := row_cell (M.out.pull 1 (by simp)) (j := k) (u := nat ((sizesTo l i).getD k 0)) (by
            rw [List.getElem?_map, List.getElem?_set_ne (by omega), List.getD_eq_getElem?_getD, List.getElem?_eq_getElem hkl]
            rfl)
          have hnf := row_free (M.out.pull 1 (by simp)) h0 i
          have hb1 := sizeKids_le (sizesTo l i) (l[i].2.take j)
          have hb2 : (sizesTo l i).getD k 0 ≤ 2001 := by
            rw [List.getD_eq_getElem?_getD, List.getElem?_eq_getElem hkl]
            exact sizes_le l i _ (List.getElem_mem hkl)
          have Hs := Aside0.mk hs
          clear hs hNC hNx
          generalize hP : sizeKids (sizesTo l i) (l[i].2.take j) = pa at r0 hb1 Hs
          generalize hQ : (sizesTo l i).getD k 0 = pb at r1 hb2 Hs
          have HP := Aside0.mk hP
          clear hP hQ
          replace r0 : wr.cell? ⟨w.heap.size, i, none⟩ = some (.int .i64 (pa : Int)) := r0
          replace r1 : wr.cell? ⟨w.heap.size, k, none⟩ = some (.int .i64 (pb : Int)) := r1
          replace hk0 : wr.cell? (ak.add j) = some (.int .i64 (k : Int)) := hk0
          have hkll : k < l.length := by omega
          go_wp2_with fail
          have hw : IntKind.i64.wrap ((pa : Int) + (pb : Int)) = (pa : Int) + (pb : Int) := IntWalk.i64_in _ (by omega)
          go_still_tail 13, (by kernel_rfl)
          clear hw
          have hv : Value.int .i64 (if 2001 < (pa : Int) + (pb : Int) then 2001 else (pa : Int) + (pb : Int)) = .int .i64 ((cap2 (pa + pb) : Nat) : Int) := by
            unfold cap2
            congr 1
            split <;> split <;> omega
          have hst := at_ (M.out.drawn (w' := wr.drew) ⟨1, rfl⟩) 1 (by simp) (fun rs h => Sep.stored h (j := i) (u := nat (cap2 (pa + pb))) hlt rfl)
          rw [hv]
          change wpList _ _ _ _ _ wr.drew
          clear M
          have M := Aside0.mk hst
          clear hst hv
          generalize hz : cap2 (pa + pb) = z at M Hs
          clear hz
          go_wp2_with fail
          go_roundw
          case rel => exact ⟨j + 1, by omega, by go_num, ⟨by
            rw [Hs.out]
            have h := M.out
            rw [← map_set, List.set_set] at h
            exact h⟩⟩
          case measure => simp [intOf]; omega
        · have hje : j = l[i].2.length := by omega
          subst hje
          go_wp2_with fail
          go_roundw
          case rel => exact ⟨i + 1, by omega, by go_num, ⟨by
            rw [sizes_succ hlt]
            have h := (at_ M.out 2 (by simp) (fun rs h => read_weak (C' := C) h (fun w' hc => hc.1))).tail
            rw [List.take_length] at h
            exact h⟩⟩
          case measure => simp [intOf]; omega
    · have hie : i = l.length := by omega
      subst hie
      go_wp2_with fail
      go_ret
      exact ⟨w.heap.size, rfl, M.out⟩
def sizeN (l : List Nd) : Nat := (sizesTo l l.length).getD (l.length - 1) 0
set_option maxHeartbeats 4000000 in
theorem size_calls {W w : World} {rs : List Res} {A : Option Addr} {c : Nat} {l : List Nd} {C : World → Prop} (hM : Sep W w (readR W C :: rs)) (hCC : ∀ w', C w' → NodesC A l w') (h0 : 0 < l.length) (hl : l.length ≤ 4194304) (hv : Valid l) (he : (l.map (·.2.length)).sum ≤ 4194304) :
    Calls Try.prog 23 #[.slice A l.length c] w fun e w' => e = .returned (nat (sizeN l)) ∧ Sep W w' (readR W C :: rs) := by
  have M := Aside0.mk hM
  have HV := Aside0.mk hv
  have HE := Aside0.mk he
  have HCC := Aside0.mk hCC
  clear hM hv he hCC
  go_enter Try.func23, Try.ntmps23
  go_wp2_with fail
  refine (none_calls M.out HCC.out h0 hl HV.out HE.out).mono ?_
  rintro e w1 ⟨rfl, hm1⟩
  clear M
  have M := Aside0.mk hm1
  clear hm1
  go_wp2_with fail
  refine (sizes_calls M.out HCC.out h0 hl HV.out HE.out).mono ?_
  rintro e w2 ⟨b, rfl, hm2⟩
  clear M
  have M := Aside0.mk hm2
  clear hm2
  have hl2 : l.length - 1 < l.length := by omega
  have r0 := row_cell M.out (j := l.length - 1) (u := nat (sizeN l)) (by
    rw [List.getElem?_map, List.getElem?_eq_getElem (by rw [sizes_len]; exact hl2)]
    unfold sizeN
    rw [List.getD_eq_getElem?_getD, List.getElem?_eq_getElem (by rw [sizes_len]; exact hl2)]
    rfl)
  have i0 : ((l.length : Int) - 1) = ((l.length - 1 : Nat) : Int) := by omega
  have i1 : ((l.length : Int) - 1).toNat = l.length - 1 := by omega
  have i2 : (0 : Int) ≤ (l.length : Int) - 1 := by omega
  have i3 : (1 : Int) ≤ (l.length : Int) := by omega
  go_wp2_with fail
  go_ret
  exact ⟨rfl, M.out.tail⟩
/-! ### depths -/
def depthKids (xs : List Nat) (ks : List Nat) : Nat := ks.foldl (fun a k => max a (xs.getD k 0)) 0
def depthsTo (l : List Nd) : Nat → List Nat
  | 0 => List.replicate l.length 0
  | i + 1 => match l[i]? with
    | some x => (depthsTo l i).set i (depthKids (depthsTo l i) x.2 + 1)
    | none => depthsTo l i
theorem depths_succ {l : List Nd} {i : Nat} (h : i < l.length) : depthsTo l (i + 1) = (depthsTo l i).set i (depthKids (depthsTo l i) l[i].2 + 1) := by rw [depthsTo, List.getElem?_eq_getElem h]
theorem depths_len (l : List Nd) : ∀ i, (depthsTo l i).length = l.length := by
  intro i
  induction i with
  | zero => simp [depthsTo]
  | succ i ih =>
    unfold depthsTo
    split
    · rw [List.length_set, ih]
    · exact ih
theorem depthKids_le {xs ks : List Nat} {B : Nat} (h : ∀ n ∈ xs, n ≤ B) : depthKids xs ks ≤ B := by
  unfold depthKids
  have hx : ∀ k, xs.getD k 0 ≤ B := by
    intro k
    rw [List.getD_eq_getElem?_getD]
    cases hk : xs[k]? with
    | none => simp
    | some n => exact h n (List.mem_of_getElem? hk)
  have : ∀ (ks : List Nat) (a : Nat), a ≤ B → ks.foldl (fun a k => max a (xs.getD k 0)) a ≤ B := by
    intro ks
    induction ks with
    | nil => intro a h; exact h
    | cons k ks ih => intro a h; exact ih _ (by have := hx k; show max a _ ≤ B; omega)
  exact this ks 0 (by omega)
theorem depths_le (l : List Nd) : ∀ i, ∀ n ∈ depthsTo l i, n ≤ i := by
  intro i
  induction i with
  | zero => intro n hn; have := List.eq_of_mem_replicate hn; omega
  | succ i ih =>
    unfold depthsTo
    split
    · intro n hn
      rcases List.mem_or_eq_of_mem_set hn with hn | rfl
      · have := ih n hn; omega
      · have := depthKids_le (ks := (by assumption : Nd).2) ih; omega
    · intro n hn
      have := ih n hn
      omega
theorem depths_far (l : List Nd) : ∀ i j, i ≤ j → (depthsTo l i).getD j 0 = 0 := by
  intro i
  induction i with
  | zero => intro j _; unfold depthsTo; rw [List.getD_eq_getElem?_getD, List.getElem?_replicate]; split <;> rfl
  | succ i ih =>
    intro j hj
    unfold depthsTo
    split
    · rw [List.getD_eq_getElem?_getD, List.getElem?_set_ne (by omega), ← List.getD_eq_getElem?_getD]
      exact ih j (by omega)
    · exact ih j (by omega)
theorem depthKids_succ (xs ks : List Nat) {j : Nat} (h : j < ks.length) : depthKids xs (ks.take (j + 1)) = max (depthKids xs (ks.take j)) (xs.getD ks[j] 0) := by
  unfold depthKids
  rw [List.take_succ_eq_append_getElem h, List.foldl_append]
  rfl
theorem depths_same (l : List Nd) (i : Nat) : (depthsTo l i).set i 0 = depthsTo l i := by
  apply List.ext_getElem?
  intro j
  rw [List.getElem?_set]
  split
  · rename_i h
    subst h
    split
    · rename_i h2
      have := depths_far l i i (Nat.le_refl _)
      rw [List.getD_eq_getElem?_getD, List.getElem?_eq_getElem h2] at this
      rw [List.getElem?_eq_getElem h2, ← this]
      rfl
    · rename_i h2
      rw [List.getElem?_eq_none (by omega)]
  · rfl
def depthN (l : List Nd) : Nat := (depthsTo l l.length).getD (l.length - 1) 0
set_option maxHeartbeats 4000000 in
theorem depth_calls {W w : World} {rs : List Res} {A : Option Addr} {c : Nat} {l : List Nd} {C : World → Prop} (hM : Sep W w (readR W C :: rs)) (hCC : ∀ w', C w' → NodesC A l w') (h0 : 0 < l.length) (hl : l.length ≤ 4194304) (hv : Valid l) (he : (l.map (·.2.length)).sum ≤ 4194304) :
    Calls Try.prog 24 #[.slice A l.length c] w fun e w' => e = .returned (nat (depthN l)) ∧ Sep W w' (readR W C :: rs) := by
  have M := Aside0.mk hM
  have HV := Aside0.mk hv
  have HE := Aside0.mk he
  have HCC := Aside0.mk hCC
  clear hM hv he hCC
  go_enter Try.func24, Try.ntmps24
  go_wp2_with fail
  refine (none_calls M.out HCC.out h0 hl HV.out HE.out).mono ?_
  rintro e w0 ⟨rfl, hm0⟩
  clear M
  have M := Aside0.mk hm0
  clear hm0
  go_wp2_with (at_make; refine wp_make M.out rfl _ _ 25 3 rfl Try.underlying25 info3 rfl rfl rfl (by omega) (by omega) ?_; intro w1 hm1; clear M; have M := Aside0.mk hm1; clear hm1)
  go_loopw [15] (fun v13 wr => ∃ (i : Nat), i ≤ l.length ∧ v13 = .int .i64 i ∧ Aside0 (Sep W wr (rowR 3 1 (.slice (some ⟨w0.heap.size, 0, none⟩) l.length l.length) l.length ((depthsTo l i).map nat) :: readR W C :: rs))) (fun v13 _ => l.length - (intOf v13).toNat)
  case atStart => exact ⟨0, by omega, rfl, ⟨by rw [show ((depthsTo l 0).map nat) = List.replicate l.length (.int .i64 0) by simp [depthsTo, nat]]; exact M.out⟩⟩
  case round =>
    clear M
    obtain ⟨i, hi, rfl, M⟩ := hrel
    by_cases hlt : i < l.length
    · obtain ⟨ad, Ak, ck, rfl, x0, x1, hck, hCk⟩ := node_at (HCC.out _ (read_at (M.out.pull 1 (by simp)))) hlt
      obtain ⟨wo, rfl⟩ : ∃ wo : World, wo = wr := ⟨_, rfl⟩
      have hnle := kids_le HE.out hlt
      have hnf := row_free M.out h0 i
      have c9 : ∃ u, wo.cell? ⟨w0.heap.size, i, none⟩ = some u := ⟨_, row_cell M.out (List.getElem?_eq_getElem (by rw [List.length_map, depths_len]; exact hlt))⟩
      obtain ⟨u9, c9⟩ := c9
      have lt9 := World.block_lt_of_cell? _ _ c9
      have hst := box_fresh (at_ M.out 1 (by simp) (fun _ h => read_cell h _ (fun w' hc => nodes_cell hlt (HCC.out w' hc)) x1)) 27 #[.string l[i].1, .slice Ak l[i].2.length ck]
      clear M
      have M := Aside0.mk hst
      clear hst
      go_wp2_with fail
      go_loopw [23] (fun v24 wq => ∃ (j : Nat), j ≤ l[i].2.length ∧ v24 = .int .i64 j ∧ Aside0 (Sep W wq (boxR wo.heap.size 27 #[.string l[i].1, .slice Ak l[i].2.length ck] :: rowR 3 1 (.slice (some ⟨w0.heap.size, 0, none⟩) l.length l.length) l.length (((depthsTo l i).set i (depthKids (depthsTo l i) (l[i].2.take j))).map nat) :: readR W (fun w' => C w' ∧ w'.cell? ⟨(ad.add (i * 2)).block, (ad.add (i * 2)).off + 1, none⟩ = some (.slice Ak l[i].2.length ck)) :: rs))) (fun v24 _ => l[i].2.length - (intOf v24).toNat)
      case atStart => exact ⟨0, by omega, rfl, ⟨by rw [show (depthsTo l i).set i (depthKids (depthsTo l i) (l[i].2.take 0)) = depthsTo l i from depths_same l i]; exact M.out⟩⟩
      case round =>
        clear M x0 x1 c9 hnf lt9
        obtain ⟨j, hj, rfl, M⟩ := hrel
        by_cases hjl : j < l[i].2.length
        · obtain ⟨hNC, hNx⟩ := read_at (M.out.pull 2 (by simp))
          obtain ⟨ak, rfl, hk0⟩ := kid_at (kids_of (HCC.out _ hNC) hlt hNx) rfl hjl
          have hki := HV.out i l[i] (List.getElem?_eq_getElem hlt) _ (List.getElem_mem hjl)
          have hs := depthKids_succ (depthsTo l i) l[i].2 hjl
          generalize l[i].2[j] = k at hk0 hki hs
          have hkl : k < (depthsTo l i).length := by rw [depths_len]; omega
          have r0 := row_cell (M.out.pull 1 (by simp)) (j := i) (u := nat (depthKids (depthsTo l i) (l[i].2.take j))) (by simp [depths_len, hlt])
          have r1 := row_cell (M.out.pull 1 (by simp)) (j := k) (u := nat ((depthsTo l i).getD k 0)) (by
            rw [List.getElem?_map, List.getElem?_set_ne (by omega), List.getD_eq_getElem?_getD, List.getElem?_eq_getElem hkl]
            rfl)
          have hnf := row_free (M.out.pull 1 (by simp)) h0 i
          have hb1 := depthKids_le (ks := l[i].2.take j) (depths_le l i)
          have hb2 : (depthsTo l i).getD k 0 ≤ i := by
            rw [List.getD_eq_getElem?_getD, List.getElem?_eq_getElem hkl]
            exact depths_le l i _ (List.getElem_mem hkl)
          have Hs := Aside0.mk hs
          clear hs hNC hNx
          generalize hP : depthKids (depthsTo l i) (l[i].2.take j) = pa at r0 hb1 Hs
          generalize hQ : (depthsTo l i).getD k 0 = pb at r1 hb2 Hs
          have HP := Aside0.mk hP
          clear hP hQ
          replace r0 : wr.cell? ⟨w0.heap.size, i, none⟩ = some (.int .i64 (pa : Int)) := r0
          replace r1 : wr.cell? ⟨w0.heap.size, k, none⟩ = some (.int .i64 (pb : Int)) := r1
          replace hk0 : wr.cell? (ak.add j) = some (.int .i64 (k : Int)) := hk0
          have hkll : k < l.length := by omega
          go_wp2_with fail
          go_still_tail 12, (by kernel_rfl)
          have hv : Value.int .i64 (if pa < pb then (pb : Int) else (pa : Int)) = .int .i64 ((max pa pb : Nat) : Int) := by
            congr 1
            split <;> omega
          have hst := at_ (M.out.drawn (w' := wr.drew) ⟨1, rfl⟩) 1 (by simp) (fun rs h => Sep.stored h (j := i) (u := nat (max pa pb)) hlt rfl)
          rw [hv]
          change wpList _ _ _ _ _ wr.drew
          clear M
          have M := Aside0.mk hst
          clear hst hv
          generalize hz : max pa pb = z at M Hs
          clear hz
          go_wp2_with fail
          go_roundw
          case rel => exact ⟨j + 1, by omega, by go_num, ⟨by
            rw [Hs.out]
            have h := M.out
            rw [← map_set, List.set_set] at h
            exact h⟩⟩
          case measure => simp [intOf]; omega
        · have hje : j = l[i].2.length := by omega
          subst hje
          have r0 := row_cell (M.out.pull 1 (by simp)) (j := i) (u := nat (depthKids (depthsTo l i) (l[i].2.take l[i].2.length))) (by simp [depths_len, hlt])
          have hnf := row_free (M.out.pull 1 (by simp)) h0 i
          have hb1 := depthKids_le (ks := l[i].2.take l[i].2.length) (depths_le l i)
          have hst := at_ M.out 1 (by simp) (fun rs h => Sep.stored h (j := i) (u := nat (depthKids (depthsTo l i) (l[i].2.take l[i].2.length) + 1)) hlt rfl)
          have hks := depths_succ hlt
          have htl : l[i].2.take l[i].2.length = l[i].2 := List.take_length
          have Hks := Aside0.mk hks
          have Htl := Aside0.mk htl
          clear hks htl
          generalize hz : depthKids (depthsTo l i) (l[i].2.take l[i].2.length) = z at r0 hb1 hst
          have HZ := Aside0.mk hz
          clear hz M
          have e5 : wr.setCell ⟨w0.heap.size, i, none⟩ (nat (z + 1)) = wr.setCell ⟨w0.heap.size, i, none⟩ (.int .i64 ((z : Int) + 1)) := by
            rw [show (Value.int .i64 ((z : Int) + 1)) = nat (z + 1) from by unfold nat; go_num]
          rw [e5] at hst
          have M := Aside0.mk hst
          clear e5 hst
          replace r0 : wr.cell? ⟨w0.heap.size, i, none⟩ = some (.int .i64 (z : Int)) := r0
          go_wp2_with fail
          go_roundw
          case rel => exact ⟨i + 1, by omega, by go_num, ⟨by
            rw [Hks.out]
            have h := (at_ M.out 2 (by simp) (fun rs h => read_weak (C' := C) h (fun w' hc => hc.1))).tail
            rw [← Htl.out, HZ.out]
            rw [← map_set, List.set_set] at h
            exact h⟩⟩
          case measure => simp [intOf]; omega
    · have hie : i = l.length := by omega
      subst hie
      have hl2 : l.length - 1 < l.length := by omega
      have r0 := row_cell M.out (j := l.length - 1) (u := nat (depthN l)) (by
        rw [List.getElem?_map, List.getElem?_eq_getElem (by rw [depths_len]; exact hl2)]
        unfold depthN
        rw [List.getD_eq_getElem?_getD, List.getElem?_eq_getElem (by rw [depths_len]; exact hl2)]
        rfl)
      have i0 : ((l.length : Int) - 1) = ((l.length - 1 : Nat) : Int) := by omega
      have i1 : ((l.length : Int) - 1).toNat = l.length - 1 := by omega
      have i2 : (0 : Int) ≤ (l.length : Int) - 1 := by omega
      have i3 : (1 : Int) ≤ (l.length : Int) := by omega
      go_wp2_with fail
      go_ret
      exact ⟨rfl, M.out.tail⟩
end Go.Proofs.Ytkonloadedbpkaa.TreeW
