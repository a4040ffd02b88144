/- Same walked. -/
import Derived.Test.YtkonloadedbpkaaShareAll
namespace Go.Proofs.Ytkonloadedbpkaa.SameW
open Go.RowKit Go.Maps Go.Proofs.Ytkonloadedbpkaa.Sep Go.Proofs.Ytkonloadedbpkaa.FMaps Go.Proofs.Ytkonloadedbpkaa.FoldPure Go.Proofs.Ytkonloadedbpkaa.FoldMem Go.Proofs.Ytkonloadedbpkaa.Gather Go.Proofs.Ytkonloadedbpkaa.KindsP Go.Proofs.Ytkonloadedbpkaa.KindsS Go.Proofs.Ytkonloadedbpkaa.ShareP Go.Proofs.Ytkonloadedbpkaa.ShareR Go.Proofs.Ytkonloadedbpkaa.NodesMem Go.Proofs.Ytkonloadedbpkaa.NodeMem Go.Proofs.Ytkonloadedbpkaa.KindsW Go.Proofs.Ytkonloadedbpkaa.TreeW
open Go.Proofs.YtkonloadedbpkaaW.PrintWords
set_option linter.unusedVariables false
set_option linter.unusedSimpArgs false
set_option maxRecDepth 100000

theorem sink3b {W w : World} {x a b c : Res} {rs : List Res} (h : Sep W w (x :: a :: b :: c :: rs)) : Sep W w (a :: b :: c :: x :: rs) :=
  h.perm ((List.perm_middle (l₁ := [a, b, c]) (l₂ := rs)).symm)
theorem swap34 {W w : World} {a b c d e : Res} {rs : List Res} (h : Sep W w (a :: b :: c :: d :: e :: rs)) : Sep W w (a :: b :: c :: e :: d :: rs) :=
  h.perm (List.Perm.cons _ (List.Perm.cons _ (List.Perm.cons _ (List.Perm.swap _ _ _))))
/-- The number of b's last node, a having been numbered first. -/
def lastA (a : List Nd) : Nat := (kN a).getD (a.length - 1) 0
def lastB (a b : List Nd) : Nat := (kTo b (kT a) b.length).2.getD (b.length - 1) 0
set_option maxHeartbeats 8000000 in
theorem same_calls {W w : World} {rs : List Res} {A B : Option Addr} {ca cb : Nat} {a b : List Nd} {C : World → Prop} (hM : Sep W w (readR W C :: rs)) (hCA : ∀ w', C w' → NodesC A a w') (hCB : ∀ w', C w' → NodesC B b w')
    (a0 : 0 < a.length) (al : a.length ≤ 4194304) (av : Valid a) (ae : (a.map (·.2.length)).sum ≤ 4194304) (alab : ∀ x ∈ a, x.1.size ≤ maxLen)
    (b0 : 0 < b.length) (bl : b.length ≤ 4194304) (bv : Valid b) (be : (b.map (·.2.length)).sum ≤ 4194304) (blab : ∀ x ∈ b, x.1.size ≤ maxLen) :
    Calls Try.prog 28 #[.slice A a.length ca, .slice B b.length cb] w fun e w' => e = .returned (.bool (decide (lastA a = lastB a b))) ∧ Sep W w' (readR W C :: rs) := by
  have M := Aside0.mk hM
  have HA := Aside0.mk hCA
  have HB := Aside0.mk hCB
  have AV := Aside0.mk av
  have AE := Aside0.mk ae
  have ALab := Aside0.mk alab
  have BV := Aside0.mk bv
  have BE := Aside0.mk be
  have BLab := Aside0.mk blab
  clear hM hCA hCB av ae alab bv be blab
  go_enter Try.func28, Try.ntmps28
  go_wp2_with fail
  refine (none_calls M.out HA.out a0 al AV.out AE.out).mono ?_
  rintro e w1 ⟨rfl, hm1⟩
  clear M
  have M := Aside0.mk hm1
  clear hm1
  go_wp2_with fail
  refine (none_calls M.out HB.out b0 bl BV.out BE.out).mono ?_
  rintro e w2 ⟨rfl, hm2⟩
  clear M
  have M := Aside0.mk hm2
  clear hm2
  go_wp2_with fail
  refine (newKinds_calls M.out).mono ?_
  rintro e w3 ⟨g, bn, bb, rfl, hm3⟩
  clear M
  have M := Aside0.mk hm3
  clear hm3
  go_wp2_with fail
  refine (of_calls (PL := []) (T := []) M.out HA.out a0 al AV.out AE.out ALab.out pths_nil (fun c hc => by simp at hc) (by simp) (by simp) (by simp) (by simp)).mono ?_
  rintro e w4 ⟨ba, gP, gE, PL, rfl, hp, hsub, hPL, hT, hgP, hgE, hm4⟩
  clear M
  have M := Aside0.mk hm4
  have HP := Aside0.mk hp
  have HS := Aside0.mk hsub
  simp only [List.length_nil, Nat.zero_add] at hPL hT
  have hPL2 : PL.length ≤ 16777216 := by have := AE.out; omega
  clear hm4 hp hsub hPL
  go_wp2_with fail
  refine (of_calls (T := (kTo a [] a.length).1) (swap34 M.out) HB.out b0 bl BV.out BE.out BLab.out HP.out HS.out hPL2 hgP hgE (by omega)).mono ?_
  rintro e w5 ⟨bb2, gP2, gE2, PL2, rfl, _, _, _, _, _, _, hm5⟩
  clear M
  have M := Aside0.mk hm5
  clear hm5 HP HS
  have a9 : a.length - 1 < a.length := by omega
  have b9 : b.length - 1 < b.length := by omega
  have r0 : w5.cell? ⟨ba, a.length - 1, none⟩ = some (.int .i64 (lastA a : Int)) := row_cell (M.out.pull 5 (by simp)) (j := a.length - 1) (u := nat (lastA a)) (by
    rw [List.getElem?_map, List.getElem?_eq_getElem (by rw [kTo_len]; exact a9)]
    unfold lastA kN
    rw [List.getD_eq_getElem?_getD, List.getElem?_eq_getElem (by rw [kTo_len]; exact a9)]
    rfl)
  have r1 : w5.cell? ⟨bb2, b.length - 1, none⟩ = some (.int .i64 (lastB a b : Int)) := row_cell (M.out.pull 3 (by simp)) (j := b.length - 1) (u := nat (lastB a b)) (by
    rw [List.getElem?_map, List.getElem?_eq_getElem (by rw [kTo_len]; exact b9)]
    unfold lastB kT
    rw [List.getD_eq_getElem?_getD, List.getElem?_eq_getElem (by rw [kTo_len]; exact b9)]
    rfl)
  have i0 : ((a.length : Int) - 1) = ((a.length - 1 : Nat) : Int) := by omega
  have j0 : ((b.length : Int) - 1) = ((b.length - 1 : Nat) : Int) := by omega
  generalize hx : lastA a = x at r0
  generalize hy : lastB a b = y at r1
  have HX := Aside0.mk hx
  have HY := Aside0.mk hy
  clear hx hy
  have hxy : (x == y) = decide (x = y) := by rw [Bool.eq_iff_iff]; simp
  have hxy2 : ((x : Int) == (y : Int)) = decide (x = y) := by rw [Bool.eq_iff_iff]; simp; omega
  go_wp2_with fail
  go_quiet (fail)
  go_wp2_with fail
  go_ret
  have h1 := M.out.tail.tail.tail.tail
  rw [HX.out, HY.out]
  exact ⟨rfl, (h1.swap.tail).drawn ⟨_, rfl⟩⟩
end Go.Proofs.Ytkonloadedbpkaa.SameW
