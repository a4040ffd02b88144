/- LabY, LabW, LabX. -/
import Derived.Test.YtkonloadedbpkaaZ10
import Derived.RangeFuncGives
import Derived.RangeFuncKeeps
import Derived.RangeFuncBound
import Derived.RangeFuncLeaves
import Derived.Maps.AppendAt
import Derived.Shelf.Abstract
import Derived.OwnWalkIn
import Derived.TacticsInMore
import Derived.Laws.EntriesVeiled
import Derived.LoopIn
import Derived.Stop.RegionWithIn
namespace Go.Proofs.Ytkonloadedbpkaa.LabY
open Go.RowKit Go.Maps Go.Sort Go.Shelf Go.Proofs.Ytkonloadedbpkaa.Sep Go.Proofs.Ytkonloadedbpkaa.FMaps Go.Proofs.Ytkonloadedbpkaa.FoldPure Go.Proofs.Ytkonloadedbpkaa.FoldMem Go.Proofs.Ytkonloadedbpkaa.NodeMem Go.Proofs.Ytkonloadedbpkaa.TreeP
set_option linter.unusedVariables false
set_option linter.unusedSimpArgs false
attribute [local go_sem] Oper.semAt_some
set_option maxRecDepth 100000

def apAssign : Code := (Code.region 2 #[{ dst := some 5, op := Op.assign (Operand.tmp 7), type := 9, pos := "iter.go:51", after := #[], guard := none }] false)
def apBody : Code := (Code.block 1 (Code.region 3 #[{ dst := some 8, op := Op.load 22 (Operand.tmp 2), type := 22, pos := "iter.go:52", after := #[], guard := none }, { dst := some 9, op := Op.move (Operand.tmp 5), type := 9, pos := "iter.go:52", after := #[], guard := none }, { dst := some 10, op := Op.buildSlice 22 1 #[(0, Operand.tmp 9)], type := 22, pos := "iter.go:52", after := #[{ on := 1, ground := Ground.data }], guard := none }, { dst := some 11, op := Op.call { callee := Callee.builtin Builtin.append, args := #[Operand.tmp 8, Operand.tmp 10], argTypes := #[22, 22] }, type := 22, pos := "iter.go:52", after := #[{ on := 0, ground := Ground.data }, { on := 2, ground := Ground.data }], guard := none }, { dst := none, op := Op.store 22 (Operand.tmp 2) (Operand.tmp 11), type := 0, pos := "iter.go:52", after := #[{ on := 3, ground := Ground.data }, { on := 3, ground := Ground.chain }, { on := 0, ground := Ground.phase }, { on := 1, ground := Ground.phase }, { on := 2, ground := Ground.phase }, { on := 3, ground := Ground.phase }], guard := none }] false))
def apRec (fn : FuncId) (sv : Value) (Bs D : Nat) (st : LoopState) (pend : Option Code) : Loop :=
  { state := st, pending := pend, fn, tmps := #[.slice none 0 0, sv, .pointer (some ⟨Bs, 0, none⟩), undef, .slice none 0 0, undef, sv, undef, undef, undef, undef, undef, undef], params := #[7], assign := apAssign, body := apBody, defers := D }
def visV (lb vb yb : Nat) : Value := .func (.func 55) #[] #[.pointer (some ⟨lb, 0, none⟩), .pointer (some ⟨vb, 0, none⟩), .pointer (some ⟨yb, 0, none⟩)]
/-- Between two rounds: the box holds a list of one's own, what has come so far; what lay before has not turned; the closures stand. -/
structure LAt (w0 : World) (fn : FuncId) (sv : Value) (Bs l D lb vb yb : Nat) (ss : List ByteArray) (W : World) : Prop where
  box : ∃ v, W.heap[Bs]? = some (.cells #[v] 22 (0, 0)) ∧ W.ownsRow w0.heap.size 9 1 v ss.length (ss.map Value.string)
  L : W.heap[l]? = some (.loop (apRec fn sv Bs D .ready none))
  K : W.heap[D]? = some (.deferred (some []))
  below : Below w0.heap.size w0 W
  y : W.heap[yb]? = some (.cells #[.func (.yield l) #[] #[]] 95 (0, 0))
  v : W.heap[vb]? = some (.cells #[visV lb vb yb] 96 (0, 0))
theorem grownBy_putObj (W : World) (l : Nat) (o : Obj) : W.grownBy (W.putObj l o) (some l) :=
  ⟨rfl, rfl, rfl, by simp, fun k _ hk => World.putObj_heap_other (fun e => hk (by rw [e]))⟩
theorem grownBy_setCell0 (W : World) (b : Nat) (v : Value) : W.grownBy (W.setCell ⟨b, 0, none⟩ v) (some b) :=
  ⟨rfl, rfl, rfl, by simp [World.setCell], fun k _ hk => Below.heap_setCell _ _ _ k (fun e => hk (by rw [e]))⟩
theorem ownsRow_ne {W : World} {base : Nat} {e : TypeId} {size : Nat} {v : Value} {k : Nat} {xs : List Value} (h : W.ownsRow base e size v k xs) {j : Nat} {o : Obj} (hj : W.heap[j]? = some o) (hno : ∀ cur, o ≠ .cells cur e (0, 0)) :
    v.ownBlock = none ∨ v.ownBlock ≠ some j := by
  rcases h.2 with ⟨rfl, _⟩ | ⟨g, cap, cur, rfl, _, hgb, _⟩
  · exact .inl rfl
  · refine .inr fun e' => ?_
    have : g = j := by simpa [Value.ownBlock] using e'
    subst this; rw [hgb] at hj; cases hj; exact hno cur rfl
theorem cell_of_box {W : World} {B : Nat} {v : Value} {t : TypeId} (h : W.heap[B]? = some (.cells #[v] t (0, 0))) : W.cell? ⟨B, 0, none⟩ = some v ∧ W.frozen? ⟨B, 0, none⟩ = false := by
  constructor <;> simp [World.cell?, World.frozen?, h]
theorem heap_setCell_box {W : World} {B : Nat} {v : Value} {t : TypeId} (v' : Value) (h : W.heap[B]? = some (.cells #[v] t (0, 0))) : (W.setCell ⟨B, 0, none⟩ v').heap[B]? = some (.cells #[v'] t (0, 0)) := by
  obtain ⟨hlt, hk⟩ := Array.getElem?_eq_some_iff.1 h
  show (W.heap.modify B _)[B]? = _
  rw [Array.getElem?_eq_getElem (by rw [Array.size_modify]; exact hlt), Array.getElem_modify_self, hk]
  rfl
set_option maxHeartbeats 4000000 in
theorem lab_yield (F : Fence) (m : Nat) (w0 : World) (fn : FuncId) (hfn : F.fn fn) (sv : Value) (Bs l D lb vb yb : Nat) (hBl : Bs ≠ l) (hDl : D ≠ l) (hDB : D ≠ Bs) (h0B : w0.heap.size ≤ Bs) (h0l : w0.heap.size ≤ l)
    (ss : List ByteArray) (x : ByteArray) (W : World) (h : LAt w0 fn sv Bs l D lb vb yb ss W) (hlen : ss.length ≤ 4194304) :
    YieldAt F m Try.prog l #[.string x] W fun e W' => e = .returned (.bool true) ∧ LAt w0 fn sv Bs l D lb vb yb (ss ++ [x]) W' := by
  obtain ⟨i0, hi, hz0, hz1, hz2⟩ := info_parts info9
  obtain ⟨v, hv, hrow⟩ := h.box
  refine ⟨fn, #[.slice none 0 0, sv, .pointer (some ⟨Bs, 0, none⟩), undef, .slice none 0 0, undef, sv, .string x, undef, undef, undef, undef, undef], apAssign, apBody, by simpa [apRec] using run_yield (P := Try.prog) (args := #[.string x]) h.L rfl, roundIn_of_wpIn hfn ?_⟩
  have hl : l < W.heap.size := (Array.getElem?_eq_some_iff.1 h.L).1
  have hbr := run_beginRound (P := Try.prog) h.L rfl
  obtain ⟨W2, hW2⟩ : ∃ W2, W.putObj l (.loop { apRec fn sv Bs D .ready none with state := .busy }) = W2 := ⟨_, rfl⟩
  rw [hW2] at hbr
  have hg2 : W.grownBy W2 (some l) := by rw [← hW2]; exact grownBy_putObj _ _ _
  have hv2 : W2.heap[Bs]? = some (.cells #[v] 22 (0, 0)) := by rw [← hW2]; exact (World.putObj_heap_other hBl).trans hv
  have hK2 : W2.heap[D]? = some (.deferred (some [])) := by rw [← hW2]; exact (World.putObj_heap_other hDl).trans h.K
  have hyl : yb ≠ l := by rintro rfl; have h1 := h.y; rw [h.L] at h1; cases h1
  have hvl : vb ≠ l := by rintro rfl; have h1 := h.v; rw [h.L] at h1; cases h1
  have hyB : yb ≠ Bs := by rintro rfl; have h1 := h.y; rw [hv] at h1; cases h1
  have hvB : vb ≠ Bs := by rintro rfl; have h1 := h.v; rw [hv] at h1; cases h1
  have hY2 : W2.heap[yb]? = some (.cells #[.func (.yield l) #[] #[]] 95 (0, 0)) := by rw [← hW2]; exact (World.putObj_heap_other hyl).trans h.y
  have hV2 : W2.heap[vb]? = some (.cells #[visV lb vb yb] 96 (0, 0)) := by rw [← hW2]; exact (World.putObj_heap_other hvl).trans h.v
  have hL2 : W2.heap[l]? = some (.loop { apRec fn sv Bs D .ready none with state := .busy }) := by rw [← hW2]; exact World.putObj_heap_same hl
  have hrow2 : W2.ownsRow w0.heap.size 9 1 v ss.length (ss.map Value.string) := hrow.kept hg2 (ownsRow_ne hrow h.L (fun cur e => by cases e))
  have hb2 : Below w0.heap.size w0 W2 := h.below.grown hg2 h.below.size (fun k e => by cases e; exact h0l)
  obtain ⟨hc2, hf2⟩ := cell_of_box hv2
  have hBlt : Bs < W2.heap.size := (Array.getElem?_eq_some_iff.1 hv2).1
  have hl2 : l < W2.heap.size := (Array.getElem?_eq_some_iff.1 hL2).1
  have hDlt : D < W2.heap.size := (Array.getElem?_eq_some_iff.1 hK2).1
  have hylt : yb < W2.heap.size := (Array.getElem?_eq_some_iff.1 hY2).1
  have hvlt : vb < W2.heap.size := (Array.getElem?_eq_some_iff.1 hV2).1
  have ne_of : ∀ {j : Nat} {o : Obj}, W2.heap[j]? = some o → (∀ cur, o ≠ .cells cur 9 (0, 0)) → some j ≠ v.ownBlock := fun hj hno => by
    rcases ownsRow_ne hrow2 hj hno with e | e
    · rw [e]; simp
    · exact fun e' => e e'.symm
  have HY2 := Lib.hid hY2
  have HV2 := Lib.hid hV2
  have HK2 := Lib.hid hK2
  have HL2 := Lib.hid hL2
  clear hW2 hY2 hV2 hK2 hL2
  unfold apAssign
  gi_wp2_with (rw [Oper.semAt_eq _ _ _ (fun c h => by cases h)]; go_simp; try go_bits)
  unfold apBody
  gi_wp2_with (first
    | (gi_at_builtin; refine wpListIn_append_own _ rfl _ _ 22 rfl w0.heap.size 9 i0 (.string .empty) 1 16 Try.underlying22 hi hz0 hz1 hz2 rfl (by decide) _ _ _ rfl (hrow2.alloc _) ⟨W2.heap.size, 0, none⟩ 1 1 [.string x] rfl rfl (cell_one_new _ _ _) (by simp [Value.oneCell']) (by unfold maxLen; omega) (by omega) (by have := hb2.size; simp; omega) ?_; intro v' w3 hown' hg3 hnil3
       have hv3 : w3.heap[Bs]? = some (.cells #[v] 22 (0, 0)) := (hg3.block Bs (by simp; omega) (ne_of hv2 (fun cur e => by cases e))).trans ((Below.heap_alloc _ _ Bs hBlt).trans hv2)
       obtain ⟨hc3, hf3⟩ := cell_of_box hv3
       obtain ⟨g', cap', cur', rfl, hbase', hgb', hr1, hr2, hr3, hr4⟩ : ∃ g' cap' cur', v' = .slice (some ⟨g', 0, none⟩) (ss.length + 1) cap' ∧ w0.heap.size ≤ g' ∧ w3.heap[g']? = some (.cells cur' 9 (0, 0)) ∧ ss.length + 1 ≤ cap' ∧ cap' ≤ maxLen ∧ cur'.size = cap' * 1 ∧ cur'.toList.take ((ss.length + 1) * 1) = ss.map Value.string ++ [.string x] := by
         rcases hown'.2 with ⟨_, h0⟩ | h'
         · exact absurd h0 (by omega)
         · exact h'
       go_frame)
    | (rw [Oper.semAt_eq _ _ _ (fun c h => by cases h)]; go_simp; try go_bits))
  have hg3' : (W2.alloc (.cells #[.string x] 9)).grownBy w3 v.ownBlock := hg3
  have kept3 : ∀ {j : Nat} {o : Obj}, j < W2.heap.size → W2.heap[j]? = some o → (∀ cur, o ≠ .cells cur 9 (0, 0)) → w3.heap[j]? = some o := fun hj ho hno => (hg3'.block _ (by simp; omega) (ne_of ho hno)).trans ((Below.heap_alloc _ _ _ hj).trans ho)
  have hL3 := kept3 hl2 HL2.out (fun cur e => by cases e)
  have hK3 := kept3 hDlt HK2.out (fun cur e => by cases e)
  have hY3 := kept3 hylt HY2.out (fun cur e => by cases e)
  have hV3 := kept3 hvlt HV2.out (fun cur e => by cases e)
  obtain ⟨w4, hw4⟩ : ∃ w4, w3.setCell ⟨Bs, 0, none⟩ (.slice (some ⟨g', 0, none⟩) (ss.length + 1) cap') = w4 := ⟨_, rfl⟩
  rw [hw4]
  have hg4 : w3.grownBy w4 (some Bs) := by rw [← hw4]; exact grownBy_setCell0 _ _ _
  have hv4 : w4.heap[Bs]? = some (.cells #[.slice (some ⟨g', 0, none⟩) (ss.length + 1) cap'] 22 (0, 0)) := by rw [← hw4]; exact heap_setCell_box _ hv3
  have kept4 : ∀ {j : Nat} {o : Obj}, w3.heap[j]? = some o → j ≠ Bs → w4.heap[j]? = some o := fun ho hne => (hg4.block _ (Array.getElem?_eq_some_iff.1 ho).1 (fun e => hne (by cases e; rfl))).trans ho
  have hL4 := kept4 hL3 (fun e => hBl e.symm)
  have hK4 := kept4 hK3 hDB
  have hY4 := kept4 hY3 hyB
  have hV4 := kept4 hV3 hvB
  have hrow4 := hown'.kept hg4 (ownsRow_ne hown' hv3 (fun cur e => by cases e))
  have hl4 : l < w4.heap.size := (Array.getElem?_eq_some_iff.1 hL4).1
  have hb3 : Below w0.heap.size w0 w3 := (hb2.alloc hb2.size _).grown hg3' (by have := hb2.size; simp; omega) (fun k e => (hrow2.lt k e).1)
  have hb4 : Below w0.heap.size w0 w4 := hb3.grown hg4 hb3.size (fun k e => by cases e; exact h0B)
  clear hw4
  refine ⟨_, _, run_endRound none hL4, rfl, ⟨⟨_, (World.putObj_heap_other hBl).trans hv4, ?_⟩, World.putObj_heap_same hl4, (World.putObj_heap_other hDl).trans hK4, hb4.grown (grownBy_putObj _ _ _) hb4.size (fun k e => by cases e; exact h0l), (World.putObj_heap_other hyl).trans hY4, (World.putObj_heap_other hvl).trans hV4⟩⟩
  have := hrow4.kept (grownBy_putObj w4 l (.loop { { apRec fn sv Bs D .ready none with state := .busy } with state := if (none : Option Code).isNone then .ready else .done, pending := none })) (ownsRow_ne hrow4 hL4 (fun cur e => by cases e))
  simpa using this
end Go.Proofs.Ytkonloadedbpkaa.LabY

namespace Go.Proofs.Ytkonloadedbpkaa.LabW
open Go.RowKit Go.Maps Go.Sort Go.Shelf Go.Proofs.Ytkonloadedbpkaa.Sep Go.Proofs.Ytkonloadedbpkaa.FMaps Go.Proofs.Ytkonloadedbpkaa.FoldPure Go.Proofs.Ytkonloadedbpkaa.FoldMem Go.Proofs.Ytkonloadedbpkaa.Gather Go.Proofs.Ytkonloadedbpkaa.NodeMem Go.Proofs.Ytkonloadedbpkaa.TreeP Go.Proofs.Ytkonloadedbpkaa.LabY
open Go.Proofs.YtkonloadedbpkaaW.PrintWords
set_option linter.unusedVariables false
set_option linter.unusedSimpArgs false
attribute [local go_sem] Oper.semAt_some
set_option maxRecDepth 100000

theorem lat_drew {w0 : World} {fn : FuncId} {sv : Value} {Bs l D lb vb yb : Nat} {ss : List ByteArray} {W : World} (h : LAt w0 fn sv Bs l D lb vb yb ss W) : LAt w0 fn sv Bs l D lb vb yb ss W.drew :=
  ⟨h.box, h.L, h.K, ⟨h.below.os, h.below.tape, h.below.output, h.below.size, h.below.block⟩, h.y, h.v⟩
theorem flat_parts (f : Nat → List ByteArray) (ks : List Nat) {j : Nat} (h : j < ks.length) : ((ks.take (j + 1)).map f).flatten = ((ks.take j).map f).flatten ++ f ks[j] := by
  rw [List.take_succ_eq_append_getElem h, List.map_append, List.flatten_append]
  simp
theorem flat_le (f : Nat → List ByteArray) (ks : List Nat) (j : Nat) : ((ks.take j).map f).flatten.length ≤ (ks.map f).flatten.length := by
  conv => rhs; rw [← List.take_append_drop j ks]
  rw [List.map_append, List.flatten_append, List.length_append]
  omega
/-- What holds whatever is made from now on. -/
def Old (w0 : World) (A : Option Addr) (l : List Nd) (lb c : Nat) : Prop := ∀ W, Below w0.heap.size w0 W → NodesC A l W ∧ W.cell? ⟨lb, 0, none⟩ = some (.slice A l.length c)
set_option maxHeartbeats 4000000 in
theorem visit_in (F : Fence) (hd : F.depth = none) (hro : F.round = none) (h55 : F.fn 55) (w0 : World) (fn : FuncId) (hfn : F.fn fn) (sv : Value) (Bs L D lb vb yb c : Nat) (hBl : Bs ≠ L) (hDl : D ≠ L) (hDB : D ≠ Bs) (h0B : w0.heap.size ≤ Bs) (h0l : w0.heap.size ≤ L)
    {A : Option Addr} {l : List Nd} (hO : Old w0 A l lb c) (hl : l.length ≤ 4194304) (hv : Valid l) (he : (l.map (·.2.length)).sum ≤ 4194304) :
    ∀ (k n i : Nat) (pre : List ByteArray) (W : World), i < k → i < l.length → pre.length + (labF l i).length ≤ 4194304 → LAt w0 fn sv Bs L D lb vb yb pre W →
      CallsIn F n Try.prog 55 #[.int .i64 (i : Int), .pointer (some ⟨lb, 0, none⟩), .pointer (some ⟨vb, 0, none⟩), .pointer (some ⟨yb, 0, none⟩)] W fun e W' => e = .returned (.bool true) ∧ LAt w0 fn sv Bs L D lb vb yb (pre ++ labF l i) W' := by
  intro k
  induction k with
  | zero => intro n i pre W h; omega
  | succ k ih =>
    intro n i pre W hik hi hN hJ
    have hdd : ∀ k : Nat, (F.depth.isSome = true → 1 ≤ k) := fun k h => by rw [hd] at h; cases h
    have HV := Aside0.mk hv
    have HE := Aside0.mk he
    have HO := Aside0.mk hO
    have HJ := Aside0.mk hJ
    clear hv he hO hJ
    obtain ⟨ad, Ak, ck, rfl, y0, y1, _, _⟩ := node_at (HO.out w0 (Below.refl _ _)).1 hi
    have X0 : Aside0 (∀ W, Below w0.heap.size w0 W → W.cell? (ad.add (i * 2)) = some (.string l[i].1)) := ⟨fun W hb => (hb.cell (World.block_lt_of_cell? _ _ y0)).trans y0⟩
    have X1 : Aside0 (∀ W, Below w0.heap.size w0 W → W.cell? ⟨(ad.add (i * 2)).block, (ad.add (i * 2)).off + 1, none⟩ = some (.slice Ak l[i].2.length ck)) := ⟨fun W hb => (hb.cell (World.block_lt_of_cell? _ _ y1)).trans y1⟩
    have x1 := X1.out W HJ.out.below
    have lb0 := (HO.out W HJ.out.below).2
    have hkle := kids_le HE.out hi
    clear y0 y1
    refine callsIn_of_wp Try.func55 rfl h55 ?_ hro
    simp only [Try.ntmps55, List.size_toArray, List.length_cons, List.length_nil, Nat.reduceAdd, Nat.reduceSub, Array.replicate_succ, Array.replicate_zero, List.push_toArray, List.append_toArray, List.nil_append, List.cons_append]
    gi_wp2
    gi_loopw [14] (fun v14 wr => ∃ (j : Nat), j ≤ l[i].2.length ∧ v14 = .int .i64 j ∧ Aside0 (LAt w0 fn sv Bs L D lb vb yb (pre ++ ((l[i].2.take j).map (labF l)).flatten) wr)) (fun v14 _ => l[i].2.length - (intOf v14).toNat)
    case atStart => exact ⟨0, by omega, rfl, ⟨by simpa using HJ.out⟩⟩
    case round =>
      clear HJ lb0 x1
      obtain ⟨j, hj, rfl, HJ⟩ := hrel
      have lb0 := (HO.out _ HJ.out.below).2
      have x0 := X0.out _ HJ.out.below
      by_cases hjl : j < l[i].2.length
      · obtain ⟨ak, rfl, hk0⟩ := kid_at (kids_of (HO.out _ HJ.out.below).1 hi (X1.out _ HJ.out.below)) rfl hjl
        have hki := HV.out i l[i] (List.getElem?_eq_getElem hi) _ (List.getElem_mem hjl)
        have v0 := (cell_of_box HJ.out.v).1
        unfold visV at v0
        have hlen2 : (pre ++ ((l[i].2.take j).map (labF l)).flatten).length + (labF l l[i].2[j]).length ≤ 4194304 := by
          have h1 := flat_le (labF l) l[i].2 (j + 1)
          rw [flat_parts _ _ hjl, List.length_append] at h1
          rw [labF_at HV.out hi, List.length_append] at hN
          rw [List.length_append]
          omega
        have hih := fun n => ih n l[i].2[j] _ _ (by omega) (by omega) hlen2 HJ.out
        replace hk0 : wr.cell? (ak.add j) = some (.int .i64 (l[i].2[j] : Int)) := hk0
        gi_wp2_with ((try refine ⟨hdd _, ?_⟩); gi_at_call 55; refine (hih _).mono ?_; rintro e w5 ⟨rfl, hJ5⟩)
        exact ⟨⟨j + 1, by omega, by go_num, ⟨by rw [flat_parts _ _ hjl, ← List.append_assoc]; exact hJ5⟩⟩, by simp [intOf]; omega⟩
      · have hje : j = l[i].2.length := by omega
        subst hje
        have y0 := (cell_of_box HJ.out.y).1
        have hlen3 : (pre ++ ((l[i].2.take l[i].2.length).map (labF l)).flatten).length ≤ 4194304 := by
          rw [labF_at HV.out hi, List.length_append] at hN
          rw [List.take_length, List.length_append]
          omega
        have hyl := lab_yield F (n - 1) w0 fn hfn sv Bs L D lb vb yb hBl hDl hDB h0B h0l _ l[i].1 _ (lat_drew HJ.out) hlen3
        obtain ⟨fn', tmps, assign, body, hy, hR⟩ := hyl
        gi_wp2
        gi_region_with ((try refine ⟨hdd _, ?_⟩); refine hR.mono ?_; rintro e W2 ⟨rfl, hJ2⟩)
        all_goals
          gi_wp2
          go_ret
          refine ⟨rfl, ?_⟩
          rw [labF_at HV.out hi, ← List.append_assoc]
          rw [List.take_length] at hJ2
          exact hJ2
end Go.Proofs.Ytkonloadedbpkaa.LabW

namespace Go.Proofs.Ytkonloadedbpkaa.LabX
open Go.RowKit Go.Maps Go.Sort Go.Shelf Go.Proofs.Ytkonloadedbpkaa.Sep Go.Proofs.Ytkonloadedbpkaa.FMaps Go.Proofs.Ytkonloadedbpkaa.FoldPure Go.Proofs.Ytkonloadedbpkaa.FoldMem Go.Proofs.Ytkonloadedbpkaa.Gather Go.Proofs.Ytkonloadedbpkaa.NodeMem Go.Proofs.Ytkonloadedbpkaa.TreeW Go.Proofs.Ytkonloadedbpkaa.TreeP Go.Proofs.Ytkonloadedbpkaa.LabY Go.Proofs.Ytkonloadedbpkaa.LabW
open Go.Proofs.YtkonloadedbpkaaW.PrintWords
set_option linter.unusedVariables false
set_option linter.unusedSimpArgs false
attribute [local go_sem] Oper.semAt_some
set_option maxRecDepth 100000

/-- Between two rounds, the closures not yet made. -/
structure BAt (w0 : World) (fn : FuncId) (sv : Value) (Bs l D : Nat) (ss : List ByteArray) (W : World) : Prop where
  box : ∃ v, W.heap[Bs]? = some (.cells #[v] 22 (0, 0)) ∧ W.ownsRow w0.heap.size 9 1 v ss.length (ss.map Value.string)
  L : W.heap[l]? = some (.loop (apRec fn sv Bs D .ready none))
  K : W.heap[D]? = some (.deferred (some []))
  below : Below w0.heap.size w0 W
theorem heap_more {W : World} {o x : Obj} {k : Nat} (h : W.heap[k]? = some x) : (W.alloc o).heap[k]? = some x :=
  (Below.heap_alloc _ _ k (Array.getElem?_eq_some_iff.1 h).1).trans h
theorem BAt.alloc {w0 : World} {fn : FuncId} {sv : Value} {Bs l D : Nat} {ss : List ByteArray} {W : World} (h : BAt w0 fn sv Bs l D ss W) (o : Obj) : BAt w0 fn sv Bs l D ss (W.alloc o) := by
  obtain ⟨v, hv, hr⟩ := h.box
  exact ⟨⟨v, heap_more hv, hr.alloc _⟩, heap_more h.L, heap_more h.K, h.below.alloc h.below.size _⟩
theorem lat_base {w0 : World} {fn : FuncId} {sv : Value} {Bs l D lb vb yb : Nat} {ss : List ByteArray} {W : World} (h : LAt w0 fn sv Bs l D lb vb yb ss W) : BAt w0 fn sv Bs l D ss W := ⟨h.box, h.L, h.K, h.below⟩
set_option maxHeartbeats 4000000 in
theorem unf_in (F : Fence) (hd : F.depth = none) (hro : F.round = none) (h54 : F.fn 54) (h55 : F.fn 55) (n : Nat) (w0 : World) (fn : FuncId) (hfn : F.fn fn) (sv : Value) (Bs L D lb c : Nat) (hBl : Bs ≠ L) (hDl : D ≠ L) (hDB : D ≠ Bs) (h0B : w0.heap.size ≤ Bs) (h0l : w0.heap.size ≤ L)
    {A : Option Addr} {l : List Nd} (hO : Old w0 A l lb c) (h0 : 0 < l.length) (hl : l.length ≤ 4194304) (hv : Valid l) (he : (l.map (·.2.length)).sum ≤ 4194304) (hN : (labN l).length ≤ 4194304) (W : World) (hJ : BAt w0 fn sv Bs L D [] W) :
    CallsIn F n Try.prog 54 #[.func (.yield L) #[] #[], .pointer (some ⟨lb, 0, none⟩)] W fun e W' => (∃ v, e = .returned v) ∧ BAt w0 fn sv Bs L D (labN l) W' := by
  have hdd : ∀ k : Nat, (F.depth.isSome = true → 1 ≤ k) := fun k h => by rw [hd] at h; cases h
  have hJ1 := (hJ.alloc (.cells #[.func (.yield L) #[] #[]] 95)).alloc (.cells #[visV lb (W.heap.size + 1) W.heap.size] 96)
  have hJ2 : LAt w0 fn sv Bs L D lb (W.heap.size + 1) W.heap.size [] ((W.alloc (.cells #[.func (.yield L) #[] #[]] 95)).alloc (.cells #[visV lb (W.heap.size + 1) W.heap.size] 96)) :=
    ⟨hJ1.box, hJ1.L, hJ1.K, hJ1.below, heap_more (heap_alloc_new _ _), by
      have := heap_alloc_new (W.alloc (.cells #[.func (.yield L) #[] #[]] 95)) (.cells #[visV lb (W.heap.size + 1) W.heap.size] 96)
      rwa [World.size_alloc] at this⟩
  have lb0 := (hO _ hJ2.below).2
  have hlb : lb < w0.heap.size := World.block_lt_of_cell? _ _ (hO w0 (Below.refl _ _)).2
  have hlw := hJ.below.size
  have hlbW : lb < W.heap.size := by omega
  have lb00 := (hO _ hJ.below).2
  have hvis := fun n => visit_in F hd hro h55 w0 fn hfn sv Bs L D lb (W.heap.size + 1) W.heap.size c hBl hDl hDB h0B h0l hO hl hv he l.length n (l.length - 1) [] _ (by omega) (by omega) (by simpa [labN] using hN) hJ2
  unfold visV at hvis
  clear hJ1 hJ2 hJ hO hv he lb0
  have i0 : ((l.length : Int) - 1) = ((l.length - 1 : Nat) : Int) := by omega
  refine callsIn_of_wp Try.func54 rfl h54 ?_ hro
  simp only [Try.ntmps54, List.size_toArray, List.length_cons, List.length_nil, Nat.reduceAdd, Nat.reduceSub, Array.replicate_succ, Array.replicate_zero, List.push_toArray, List.append_toArray, List.nil_append, List.cons_append]
  gi_wp2_with ((try refine ⟨hdd _, ?_⟩); gi_at_call 55; refine (hvis _).mono ?_; rintro e w5 ⟨rfl, hJ5⟩)
  go_end0
  exact ⟨⟨_, rfl⟩, by have h := lat_base hJ5; rw [List.nil_append] at h; exact h⟩
set_option maxHeartbeats 4000000 in
theorem seq_in (F : Fence) (hd : F.depth = none) (hro : F.round = none) (h53 : F.fn 53) (h54 : F.fn 54) (h55 : F.fn 55) (n : Nat) (w : World) (lb c : Nat)
    {A : Option Addr} {l : List Nd} (hO : Old w A l lb c) (h0 : 0 < l.length) (hl : l.length ≤ 4194304) (hv : Valid l) (he : (l.map (·.2.length)).sum ≤ 4194304) (hN : (labN l).length ≤ 4194304) :
    CallsIn F n Try.prog 53 #[.slice none 0 0, .func (.func 54) #[] #[.pointer (some ⟨lb, 0, none⟩)]] w fun e w' => ∃ v, e = .returned v ∧ w'.ownsRow w.heap.size 9 1 v (labN l).length ((labN l).map Value.string) ∧ Below w.heap.size w w' := by
  have hdd : ∀ k : Nat, (F.depth.isSome = true → 1 ≤ k) := fun k h => by rw [hd] at h; cases h
  refine callsIn_of_wp_marks Try.func53 rfl h53 ?_ hro
  simp only [Try.ntmps53, List.size_toArray, List.length_cons, List.length_nil, Nat.reduceAdd, Nat.reduceSub, Array.replicate_succ, Array.replicate_zero, List.push_toArray, List.append_toArray, List.nil_append, List.cons_append]
  gi_wp2
  refine wpIn_rangeFunc ?_
  intro fn hfn
  rw [hro]
  obtain ⟨W0, hW0⟩ : ∃ W0, w.alloc (.cells #[.slice none 0 0] 22) = W0 := ⟨_, rfl⟩
  have hs0 : W0.heap.size = w.heap.size + 1 := by rw [← hW0]; simp
  have hv0 : W0.heap[w.heap.size]? = some (.cells #[.slice none 0 0] 22 (0, 0)) := by rw [← hW0]; exact World.alloc_heap_new w _
  have hb0 : Below w.heap.size w W0 := by rw [← hW0]; exact (Below.refl _ w).alloc (Nat.le_refl _) _
  rw [hW0]
  obtain ⟨W1, hW1⟩ : ∃ W1, (W0.alloc (.deferred (some []))).alloc (.loop (apRec fn (.func (.func 54) #[] #[.pointer (some ⟨lb, 0, none⟩)]) w.heap.size W0.heap.size .ready none)) = W1 := ⟨_, rfl⟩
  have hold : ∀ k, k < W0.heap.size → W1.heap[k]? = W0.heap[k]? := fun k hk => by
    rw [← hW1]; exact (Below.heap_alloc _ _ k (by simp; omega)).trans (Below.heap_alloc _ _ k hk)
  have hb1 : Below w.heap.size w W1 := by rw [← hW1]; exact (hb0.alloc hb0.size _).alloc (by have := hb0.size; simp; omega) _
  have hs1 : W1.heap.size = W0.heap.size + 2 := by rw [← hW1]; simp
  have hM : BAt w fn (.func (.func 54) #[] #[.pointer (some ⟨lb, 0, none⟩)]) w.heap.size (W0.heap.size + 1) W0.heap.size [] W1 :=
    ⟨⟨_, (hold w.heap.size (by omega)).trans hv0, ⟨rfl, .inl ⟨rfl, rfl⟩⟩⟩,
     by rw [← hW1]; have := World.alloc_heap_new (W0.alloc (.deferred (some []))) (.loop (apRec fn (.func (.func 54) #[] #[.pointer (some ⟨lb, 0, none⟩)]) w.heap.size W0.heap.size .ready none)); rwa [World.size_alloc] at this,
     by rw [← hW1]; exact (Below.heap_alloc _ _ _ (by simp)).trans (World.alloc_heap_new W0 _), hb1⟩
  refine ⟨W0.heap.size + 1, [{ target := .collected W0.heap.size, args := #[] }], W1, { target := .fn (.func 54) #[.pointer (some ⟨lb, 0, none⟩)], args := #[.func (.yield (W0.heap.size + 1)) #[] #[]] }, W1, 54,
    #[.func (.yield (W0.heap.size + 1)) #[] #[]] ++ #[.pointer (some ⟨lb, 0, none⟩)], W1, ?_, ?_, ?_, ?_, fun h => hdd _ h, ?_⟩
  · rw [← hW1]; exact run_enterLoop_outer _ _ _ _ _
  · simp [resolve, go_sem]
  · intro f' hf'; simp [Target.leads] at hf'; subst hf'; exact h54
  · have eg := enters_of Try.func54 (by kernel_rfl) rfl
    simp [invoke, go_sem, eg]
  · refine (unf_in F hd hro h54 h55 (n - 1) w fn hfn _ w.heap.size (W0.heap.size + 1) W0.heap.size lb c (by omega) (by omega) (by omega) (Nat.le_refl _) (by omega) hO h0 hl hv he hN W1 hM).mono ?_
    rintro e W2 ⟨⟨v0, rfl⟩, h2⟩
    obtain ⟨v, hv, hrow⟩ := h2.box
    have hend := run_endLoop (P := Try.prog) h2.L (by simp [apRec])
    obtain ⟨W3, hW3⟩ : ∃ W3, W2.putObj (W0.heap.size + 1) (.loop { apRec fn (.func (.func 54) #[] #[.pointer (some ⟨lb, 0, none⟩)]) w.heap.size W0.heap.size .ready none with state := .exhausted }) = W3 := ⟨_, rfl⟩
    rw [hW3] at hend
    have hg3 : W2.grownBy W3 (some (W0.heap.size + 1)) := by rw [← hW3]; exact grownBy_putObj _ _ _
    have hv3 : W3.heap[w.heap.size]? = some (.cells #[v] 22 (0, 0)) := by rw [← hW3]; exact (World.putObj_heap_other (by omega)).trans hv
    have hK3 : W3.heap[W0.heap.size]? = some (.deferred (some [])) := by rw [← hW3]; exact (World.putObj_heap_other (by omega)).trans h2.K
    have hrow3 := hrow.kept hg3 (ownsRow_ne hrow h2.L (fun cur e => by cases e))
    have hb3 : Below w.heap.size w W3 := h2.below.grown hg3 h2.below.size (fun k e => by cases e; omega)
    obtain ⟨hc3, hf3⟩ := cell_of_box hv3
    clear hW3
    refine ⟨none, W3, hend, ?_⟩
    gi_wp2
    rw [← hs0]
    refine ⟨by simp, .inl ⟨_, _, rfl, run_takeDeferred hK3, ?_⟩⟩
    exact ⟨_, results_tmp rfl _ _ _, v, rfl, hrow3.kept (grownBy_putObj _ _ _) (ownsRow_ne hrow3 hK3 (fun cur e => by cases e)), hb3.grown (grownBy_putObj _ _ _) hb3.size (fun k e => by cases e; omega)⟩
set_option maxHeartbeats 4000000 in
theorem collect_calls (w : World) (lb c : Nat) {A : Option Addr} {l : List Nd} (hO : Old w A l lb c) (h0 : 0 < l.length) (hl : l.length ≤ 4194304) (hv : Valid l) (he : (l.map (·.2.length)).sum ≤ 4194304) (hN : (labN l).length ≤ 4194304) :
    Calls Try.prog 44 #[.func (.func 54) #[] #[.pointer (some ⟨lb, 0, none⟩)]] w fun e w' => ∃ v, e = .returned v ∧ w'.ownsRow w.heap.size 9 1 v (labN l).length ((labN l).map Value.string) ∧ Below w.heap.size w w' := by
  have h := callsIn_wide.1 (seq_in Fence.wide rfl rfl trivial trivial trivial 5 w lb c hO h0 hl hv he hN)
  clear hO hv he
  go_enter Try.func44, Try.ntmps44
  go_wp2_with fail
  refine h.mono ?_
  clear h
  rintro e w' ⟨v, rfl, hr, hb⟩
  have HR := Aside0.mk hr
  have HB := Aside0.mk hb
  clear hr hb
  go_wp2_with fail
  go_ret
  exact ⟨v, rfl, HR.out, HB.out⟩
set_option maxHeartbeats 4000000 in
theorem unfolded_calls (A : Option Addr) (n c : Nat) (w : World) : Calls Try.prog 45 #[.slice A n c] w fun e w' => e = .returned (.func (.func 54) #[] #[.pointer (some ⟨w.heap.size, 0, none⟩)]) ∧ w' = w.alloc (.cells #[.slice A n c] 24) := by
  go_enter Try.func45, Try.ntmps45
  go_wp2_with fail
  go_ret
  exact ⟨rfl, rfl⟩
/-- What Labels tells. -/
def LabOut (W : World) (l : List Nd) (C : World → Prop) (rs : List Res) (e : Ending) (w' : World) : Prop :=
  if (labN l).length ≤ 2000 then ∃ v, e = .returned (.tuple #[v, .bool true]) ∧ Sep W w' (rowR 9 1 v (labN l).length ((labN l).map Value.string) :: readR W C :: rs)
  else e = .returned (.tuple #[.slice none 0 0, .bool false]) ∧ Sep W w' (readR W C :: rs)
theorem labN_pos {l : List Nd} (hv : Valid l) (h0 : 0 < l.length) : 0 < (labN l).length := by
  unfold labN
  rw [labF_at hv (by omega), List.length_append]
  simp
set_option maxHeartbeats 8000000 in
theorem labels_calls {W w : World} {rs : List Res} {A : Option Addr} {c : Nat} {l : List Nd} {C : World → Prop} (hM : Sep W w (readR W C :: rs)) (hCC : ∀ w', C w' → NodesC A l w') (h0 : 0 < l.length) (hl : l.length ≤ 4194304) (hv : Valid l) (he : (l.map (·.2.length)).sum ≤ 4194304) :
    Calls Try.prog 22 #[.slice A l.length c] w (LabOut W l C rs) := by
  have M := Aside0.mk hM
  have HV := Aside0.mk hv
  have HE := Aside0.mk he
  have HCC := Aside0.mk hCC
  have hsz := sizeN_len hv h0
  have hpos := labN_pos hv h0
  clear hM hv he hCC
  go_enter Try.func22, Try.ntmps22
  go_wp2_with fail
  refine (size_calls M.out HCC.out h0 hl HV.out HE.out).mono ?_
  rintro e w1 ⟨rfl, hm1⟩
  clear M
  have M := Aside0.mk hm1
  clear hm1
  have HSZ := Aside0.mk hsz
  by_cases hle : (labN l).length ≤ 2000
  · have hs1 : 0 < sizeN l := by omega
    have hs2 : sizeN l ≤ 2000 := by omega
    clear hsz
    generalize sizeN l = n at hs1 hs2
    have b1 : ((n : Int) == 0) = false := by rw [beq_eq_false_iff_ne]; omega
    have b2 : decide ((2000 : Int) < (n : Int)) = false := decide_eq_false (by omega)
    have b3 : ¬ (2000 : Int) < (n : Int) := by omega
    unfold nat
    go_wp2_with fail
    refine (unfolded_calls _ _ _ _).mono ?_
    rintro e w2 ⟨rfl, hw2⟩
    have M2 := box_fresh M.out 24 #[.slice A l.length c]
    rw [← hw2] at M2
    have hO : Old w2 A l w1.heap.size c := fun W2 hb => by
      have M3 := M2.below hb
      exact ⟨HCC.out _ (read_at (M3.pull 1 (by simp))), (box_cell M3 (j := 0) rfl).1⟩
    have hcl := collect_calls w2 w1.heap.size c hO h0 hl HV.out HE.out (by omega)
    clear M hw2 hO
    have M := Aside0.mk M2
    clear M2
    go_wp2_with fail
    refine hcl.mono ?_
    clear hcl
    rintro e w3 ⟨v, rfl, hr, hb⟩
    have hm := M.out.fresh (f := fun k => w2.heap.size ≤ k) (r := rowR 9 1 v (labN l).length ((labN l).map Value.string)) ⟨hb.os, hb.tape, hb.output, hb.size, fun k hk _ => hb.block k hk⟩ ⟨owns_zero hr, fun k hk => own_base hr k hk⟩ (fun _ hk => hk)
    clear M hr hb
    have M := Aside0.mk (hm.swap.tail)
    clear hm
    go_wp2_with fail
    go_ret2
    unfold LabOut
    rw [if_pos hle]
    exact ⟨v, rfl, M.out⟩
  · have hs1 : sizeN l = 2001 := by omega
    rw [hs1]
    clear hsz
    unfold nat
    go_wp2_with fail
    go_ret2
    unfold LabOut
    rw [if_neg hle]
    exact ⟨rfl, M.out⟩
end Go.Proofs.Ytkonloadedbpkaa.LabX
