/- Labels walked: the iterator over unfolded labels, collected. -/
import Derived.Test.YtkonloadedbpkaaLabY
import Derived.LoopIn
import Derived.Stop.RegionWithIn
namespace Go.Proofs.Ytkonloadedbpkaa.LabW
open Go.RowKit Go.Maps Go.Sort Go.Shelf Go.Proofs.Ytkonloadedbpkaa.Sep Go.Proofs.Ytkonloadedbpkaa.FMaps Go.Proofs.Ytkonloadedbpkaa.FoldPure Go.Proofs.Ytkonloadedbpkaa.FoldMem Go.Proofs.Ytkonloadedbpkaa.Gather Go.Proofs.Ytkonloadedbpkaa.NodeMem Go.Proofs.Ytkonloadedbpkaa.TreeP Go.Proofs.Ytkonloadedbpkaa.LabY
open Go.Proofs.YtkonloadedbpkaaW.PrintWords
set_option linter.unusedVariables false
set_option linter.unusedSimpArgs false
attribute [local go_sem] Oper.semAt_some
set_option maxRecDepth 100000

theorem lat_drew {w0 : World} {fn : FuncId} {sv : Value} {Bs l D lb vb yb : Nat} {ss : List ByteArray} {W : World} (h : LAt w0 fn sv Bs l D lb vb yb ss W) : LAt w0 fn sv Bs l D lb vb yb ss W.drew :=
  ⟨h.box, h.L, h.K, ⟨h.below.os, h.below.tape, h.below.output, h.below.size, h.below.block⟩, h.y, h.v⟩
theorem flat_parts (f : Nat → List ByteArray) (ks : List Nat) {j : Nat} (h : j < ks.length) : ((ks.take (j + 1)).map f).flatten = ((ks.take j).map f).flatten ++ f ks[j] := by
  rw [List.take_succ_eq_append_getElem h, List.map_append, List.flatten_append]
  simp
theorem flat_le (f : Nat → List ByteArray) (ks : List Nat) (j : Nat) : ((ks.take j).map f).flatten.length ≤ (ks.map f).flatten.length := by
  conv => rhs; rw [← List.take_append_drop j ks]
  rw [List.map_append, List.flatten_append, List.length_append]
  omega
/-- What holds whatever is made from now on. -/
def Old (w0 : World) (A : Option Addr) (l : List Nd) (lb c : Nat) : Prop := ∀ W, Below w0.heap.size w0 W → NodesC A l W ∧ W.cell? ⟨lb, 0, none⟩ = some (.slice A l.length c)
set_option maxHeartbeats 4000000 in
theorem visit_in (F : Fence) (hd : F.depth = none) (hro : F.round = none) (h55 : F.fn 55) (w0 : World) (fn : FuncId) (hfn : F.fn fn) (sv : Value) (Bs L D lb vb yb c : Nat) (hBl : Bs ≠ L) (hDl : D ≠ L) (hDB : D ≠ Bs) (h0B : w0.heap.size ≤ Bs) (h0l : w0.heap.size ≤ L)
    {A : Option Addr} {l : List Nd} (hO : Old w0 A l lb c) (hl : l.length ≤ 4194304) (hv : Valid l) (he : (l.map (·.2.length)).sum ≤ 4194304) :
    ∀ (k n i : Nat) (pre : List ByteArray) (W : World), i < k → i < l.length → pre.length + (labF l i).length ≤ 4194304 → LAt w0 fn sv Bs L D lb vb yb pre W →
      CallsIn F n Try.prog 55 #[.int .i64 (i : Int), .pointer (some ⟨lb, 0, none⟩), .pointer (some ⟨vb, 0, none⟩), .pointer (some ⟨yb, 0, none⟩)] W fun e W' => e = .returned (.bool true) ∧ LAt w0 fn sv Bs L D lb vb yb (pre ++ labF l i) W' := by
  intro k
  induction k with
  | zero => intro n i pre W h; omega
  | succ k ih =>
    intro n i pre W hik hi hN hJ
    have hdd : ∀ k : Nat, (F.depth.isSome = true → 1 ≤ k) := fun k h => by rw [hd] at h; cases h
    have HV := Aside0.mk hv
    have HE := Aside0.mk he
    have HO := Aside0.mk hO
    have HJ := Aside0.mk hJ
    clear hv he hO hJ
    obtain ⟨ad, Ak, ck, rfl, y0, y1, _, _⟩ := node_at (HO.out w0 (Below.refl _ _)).1 hi
    have X0 : Aside0 (∀ W, Below w0.heap.size w0 W → W.cell? (ad.add (i * 2)) = some (.string l[i].1)) := ⟨fun W hb => (hb.cell (World.block_lt_of_cell? _ _ y0)).trans y0⟩
    have X1 : Aside0 (∀ W, Below w0.heap.size w0 W → W.cell? ⟨(ad.add (i * 2)).block, (ad.add (i * 2)).off + 1, none⟩ = some (.slice Ak l[i].2.length ck)) := ⟨fun W hb => (hb.cell (World.block_lt_of_cell? _ _ y1)).trans y1⟩
    have x1 := X1.out W HJ.out.below
    have lb0 := (HO.out W HJ.out.below).2
    have hkle := kids_le HE.out hi
    clear y0 y1
    refine callsIn_of_wp Try.func55 rfl h55 ?_ hro
    simp only [Try.ntmps55, List.size_toArray, List.length_cons, List.length_nil, Nat.reduceAdd, Nat.reduceSub, Array.replicate_succ, Array.replicate_zero, List.push_toArray, List.append_toArray, List.nil_append, List.cons_append]
    gi_wp2
    gi_loopw [14] (fun v14 wr => ∃ (j : Nat), j ≤ l[i].2.length ∧ v14 = .int .i64 j ∧ Aside0 (LAt w0 fn sv Bs L D lb vb yb (pre ++ ((l[i].2.take j).map (labF l)).flatten) wr)) (fun v14 _ => l[i].2.length - (intOf v14).toNat)
    case atStart => exact ⟨0, by omega, rfl, ⟨by simpa using HJ.out⟩⟩
    case round =>
      clear HJ lb0 x1
      obtain ⟨j, hj, rfl, HJ⟩ := hrel
      have lb0 := (HO.out _ HJ.out.below).2
      have x0 := X0.out _ HJ.out.below
      by_cases hjl : j < l[i].2.length
      · obtain ⟨ak, rfl, hk0⟩ := kid_at (kids_of (HO.out _ HJ.out.below).1 hi (X1.out _ HJ.out.below)) rfl hjl
        have hki := HV.out i l[i] (List.getElem?_eq_getElem hi) _ (List.getElem_mem hjl)
        have v0 := (cell_of_box HJ.out.v).1
        unfold visV at v0
        have hlen2 : (pre ++ ((l[i].2.take j).map (labF l)).flatten).length + (labF l l[i].2[j]).length ≤ 4194304 := by
          have h1 := flat_le (labF l) l[i].2 (j + 1)
          rw [flat_parts _ _ hjl, List.length_append] at h1
          rw [labF_at HV.out hi, List.length_append] at hN
          rw [List.length_append]
          omega
        have hih := fun n => ih n l[i].2[j] _ _ (by omega) (by omega) hlen2 HJ.out
        replace hk0 : wr.cell? (ak.add j) = some (.int .i64 (l[i].2[j] : Int)) := hk0
        gi_wp2_with ((try refine ⟨hdd _, ?_⟩); gi_at_call 55; refine (hih _).mono ?_; rintro e w5 ⟨rfl, hJ5⟩)
        exact ⟨⟨j + 1, by omega, by go_num, ⟨by rw [flat_parts _ _ hjl, ← List.append_assoc]; exact hJ5⟩⟩, by simp [intOf]; omega⟩
      · have hje : j = l[i].2.length := by omega
        subst hje
        have y0 := (cell_of_box HJ.out.y).1
        have hlen3 : (pre ++ ((l[i].2.take l[i].2.length).map (labF l)).flatten).length ≤ 4194304 := by
          rw [labF_at HV.out hi, List.length_append] at hN
          rw [List.take_length, List.length_append]
          omega
        have hyl := lab_yield F (n - 1) w0 fn hfn sv Bs L D lb vb yb hBl hDl hDB h0B h0l _ l[i].1 _ (lat_drew HJ.out) hlen3
        obtain ⟨fn', tmps, assign, body, hy, hR⟩ := hyl
        gi_wp2
        gi_region_with ((try refine ⟨hdd _, ?_⟩); refine hR.mono ?_; rintro e W2 ⟨rfl, hJ2⟩)
        all_goals
          gi_wp2
          go_ret
          refine ⟨rfl, ?_⟩
          rw [labF_at HV.out hi, ← List.append_assoc]
          rw [List.take_length] at hJ2
          exact hJ2
end Go.Proofs.Ytkonloadedbpkaa.LabW
