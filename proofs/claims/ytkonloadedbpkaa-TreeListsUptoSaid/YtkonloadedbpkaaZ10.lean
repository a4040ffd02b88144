/- SameW, TreeP. -/
import Derived.Test.YtkonloadedbpkaaZ9
namespace Go.Proofs.Ytkonloadedbpkaa.SameW
open Go.RowKit Go.Maps Go.Proofs.Ytkonloadedbpkaa.Sep Go.Proofs.Ytkonloadedbpkaa.FMaps Go.Proofs.Ytkonloadedbpkaa.FoldPure Go.Proofs.Ytkonloadedbpkaa.FoldMem Go.Proofs.Ytkonloadedbpkaa.Gather Go.Proofs.Ytkonloadedbpkaa.KindsP Go.Proofs.Ytkonloadedbpkaa.KindsS Go.Proofs.Ytkonloadedbpkaa.ShareP Go.Proofs.Ytkonloadedbpkaa.ShareR Go.Proofs.Ytkonloadedbpkaa.NodesMem Go.Proofs.Ytkonloadedbpkaa.NodeMem Go.Proofs.Ytkonloadedbpkaa.KindsW Go.Proofs.Ytkonloadedbpkaa.TreeW
open Go.Proofs.YtkonloadedbpkaaW.PrintWords
set_option linter.unusedVariables false
set_option linter.unusedSimpArgs false
set_option maxRecDepth 100000

theorem sink3b {W w : World} {x a b c : Res} {rs : List Res} (h : Sep W w (x :: a :: b :: c :: rs)) : Sep W w (a :: b :: c :: x :: rs) :=
  h.perm ((List.perm_middle (l₁ := [a, b, c]) (l₂ := rs)).symm)
theorem swap34 {W w : World} {a b c d e : Res} {rs : List Res} (h : Sep W w (a :: b :: c :: d :: e :: rs)) : Sep W w (a :: b :: c :: e :: d :: rs) :=
  h.perm (List.Perm.cons _ (List.Perm.cons _ (List.Perm.cons _ (List.Perm.swap _ _ _))))
/-- The number of b's last node, a having been numbered first. -/
def lastA (a : List Nd) : Nat := (kN a).getD (a.length - 1) 0
def lastB (a b : List Nd) : Nat := (kTo b (kT a) b.length).2.getD (b.length - 1) 0
set_option maxHeartbeats 8000000 in
theorem same_calls {W w : World} {rs : List Res} {A B : Option Addr} {ca cb : Nat} {a b : List Nd} {C : World → Prop} (hM : Sep W w (readR W C :: rs)) (hCA : ∀ w', C w' → NodesC A a w') (hCB : ∀ w', C w' → NodesC B b w')
    (a0 : 0 < a.length) (al : a.length ≤ 4194304) (av : Valid a) (ae : (a.map (·.2.length)).sum ≤ 4194304) (alab : ∀ x ∈ a, x.1.size ≤ maxLen)
    (b0 : 0 < b.length) (bl : b.length ≤ 4194304) (bv : Valid b) (be : (b.map (·.2.length)).sum ≤ 4194304) (blab : ∀ x ∈ b, x.1.size ≤ maxLen) :
    Calls Try.prog 28 #[.slice A a.length ca, .slice B b.length cb] w fun e w' => e = .returned (.bool (decide (lastA a = lastB a b))) ∧ Sep W w' (readR W C :: rs) := by
  have M := Aside0.mk hM
  have HA := Aside0.mk hCA
  have HB := Aside0.mk hCB
  have AV := Aside0.mk av
  have AE := Aside0.mk ae
  have ALab := Aside0.mk alab
  have BV := Aside0.mk bv
  have BE := Aside0.mk be
  have BLab := Aside0.mk blab
  clear hM hCA hCB av ae alab bv be blab
  go_enter Try.func28, Try.ntmps28
  go_wp2_with fail
  refine (none_calls M.out HA.out a0 al AV.out AE.out).mono ?_
  rintro e w1 ⟨rfl, hm1⟩
  clear M
  have M := Aside0.mk hm1
  clear hm1
  go_wp2_with fail
  refine (none_calls M.out HB.out b0 bl BV.out BE.out).mono ?_
  rintro e w2 ⟨rfl, hm2⟩
  clear M
  have M := Aside0.mk hm2
  clear hm2
  go_wp2_with fail
  refine (newKinds_calls M.out).mono ?_
  rintro e w3 ⟨g, bn, bb, rfl, hm3⟩
  clear M
  have M := Aside0.mk hm3
  clear hm3
  go_wp2_with fail
  refine (of_calls (PL := []) (T := []) M.out HA.out a0 al AV.out AE.out ALab.out pths_nil (fun c hc => by simp at hc) (by simp) (by simp) (by simp) (by simp)).mono ?_
  rintro e w4 ⟨ba, gP, gE, PL, rfl, hp, hsub, hPL, hT, hgP, hgE, hm4⟩
  clear M
  have M := Aside0.mk hm4
  have HP := Aside0.mk hp
  have HS := Aside0.mk hsub
  simp only [List.length_nil, Nat.zero_add] at hPL hT
  have hPL2 : PL.length ≤ 16777216 := by have := AE.out; omega
  clear hm4 hp hsub hPL
  go_wp2_with fail
  refine (of_calls (T := (kTo a [] a.length).1) (swap34 M.out) HB.out b0 bl BV.out BE.out BLab.out HP.out HS.out hPL2 hgP hgE (by omega)).mono ?_
  rintro e w5 ⟨bb2, gP2, gE2, PL2, rfl, _, _, _, _, _, _, hm5⟩
  clear M
  have M := Aside0.mk hm5
  clear hm5 HP HS
  have a9 : a.length - 1 < a.length := by omega
  have b9 : b.length - 1 < b.length := by omega
  have r0 : w5.cell? ⟨ba, a.length - 1, none⟩ = some (.int .i64 (lastA a : Int)) := row_cell (M.out.pull 5 (by simp)) (j := a.length - 1) (u := nat (lastA a)) (by
    rw [List.getElem?_map, List.getElem?_eq_getElem (by rw [kTo_len]; exact a9)]
    unfold lastA kN
    rw [List.getD_eq_getElem?_getD, List.getElem?_eq_getElem (by rw [kTo_len]; exact a9)]
    rfl)
  have r1 : w5.cell? ⟨bb2, b.length - 1, none⟩ = some (.int .i64 (lastB a b : Int)) := row_cell (M.out.pull 3 (by simp)) (j := b.length - 1) (u := nat (lastB a b)) (by
    rw [List.getElem?_map, List.getElem?_eq_getElem (by rw [kTo_len]; exact b9)]
    unfold lastB kT
    rw [List.getD_eq_getElem?_getD, List.getElem?_eq_getElem (by rw [kTo_len]; exact b9)]
    rfl)
  have i0 : ((a.length : Int) - 1) = ((a.length - 1 : Nat) : Int) := by omega
  have j0 : ((b.length : Int) - 1) = ((b.length - 1 : Nat) : Int) := by omega
  generalize hx : lastA a = x at r0
  generalize hy : lastB a b = y at r1
  have HX := Aside0.mk hx
  have HY := Aside0.mk hy
  clear hx hy
  have hxy : (x == y) = decide (x = y) := by rw [Bool.eq_iff_iff]; simp
  have hxy2 : ((x : Int) == (y : Int)) = decide (x = y) := by rw [Bool.eq_iff_iff]; simp; omega
  go_wp2_with fail
  go_quiet (fail)
  go_wp2_with fail
  go_ret
  have h1 := M.out.tail.tail.tail.tail
  rw [HX.out, HY.out]
  exact ⟨rfl, (h1.swap.tail).drawn ⟨_, rfl⟩⟩
end Go.Proofs.Ytkonloadedbpkaa.SameW

namespace Go.Proofs.Ytkonloadedbpkaa.TreeP
open Go.Proofs.Ytkonloadedbpkaa.FoldPure Go.Proofs.Ytkonloadedbpkaa.Gather Go.Proofs.Ytkonloadedbpkaa.KindsP Go.Proofs.Ytkonloadedbpkaa.KindsS Go.Proofs.Ytkonloadedbpkaa.ShareP Go.Proofs.Ytkonloadedbpkaa.ShareR Go.Proofs.Ytkonloadedbpkaa.TreeW Go.Proofs.Ytkonloadedbpkaa.SameW
set_option linter.unusedVariables false

/-! ### what is made from the front -/
/-- An array in which each node's number is made of its kids'. -/
def arrG (g : List Nat → Nat) (l : List Nd) : Nat → List Nat
  | 0 => List.replicate l.length 0
  | i + 1 => match l[i]? with
    | some x => (arrG g l i).set i (g (x.2.map (fun k => (arrG g l i).getD k 0)))
    | none => arrG g l i
theorem arrG_len (g : List Nat → Nat) (l : List Nd) : ∀ i, (arrG g l i).length = l.length := by
  intro i
  induction i with
  | zero => simp [arrG]
  | succ i ih =>
    unfold arrG
    split
    · rw [List.length_set, ih]
    · exact ih
theorem arrG_keep (g : List Nat → Nat) (l : List Nd) (j : Nat) : ∀ d, (arrG g l (j + 1 + d)).getD j 0 = (arrG g l (j + 1)).getD j 0 := by
  intro d
  induction d with
  | zero => rfl
  | succ d ih =>
    rw [← ih]
    conv => lhs; rw [show j + 1 + (d + 1) = (j + 1 + d) + 1 by omega, arrG]
    split
    · rw [List.getD_eq_getElem?_getD, List.getElem?_set_ne (by omega), ← List.getD_eq_getElem?_getD]
    · rfl
theorem arrG_at {g : List Nat → Nat} {l : List Nd} (hv : Valid l) {i : Nat} (hi : i < l.length) : (arrG g l l.length).getD i 0 = g (l[i].2.map (fun k => (arrG g l l.length).getD k 0)) := by
  have h1 := arrG_keep g l i (l.length - (i + 1))
  rw [show i + 1 + (l.length - (i + 1)) = l.length by omega] at h1
  rw [h1, arrG, List.getElem?_eq_getElem hi]
  simp only
  rw [List.getD_eq_getElem?_getD, List.getElem?_set_self (by rw [arrG_len]; exact hi)]
  simp only [Option.getD_some]
  congr 1
  refine List.map_congr_left fun k hk => ?_
  have hki := hv i l[i] (List.getElem?_eq_getElem hi) k hk
  have h2 := arrG_keep g l k (i - (k + 1))
  have h3 := arrG_keep g l k (l.length - (k + 1))
  rw [show k + 1 + (i - (k + 1)) = i by omega] at h2
  rw [show k + 1 + (l.length - (k + 1)) = l.length by omega] at h3
  rw [h2, h3]
def gSize (ns : List Nat) : Nat := ns.foldl (fun a n => cap2 (a + n)) 1
def gDepth (ns : List Nat) : Nat := ns.foldl (fun a n => max a n) 0 + 1
theorem sizes_arr (l : List Nd) : ∀ i, sizesTo l i = arrG gSize l i := by
  intro i
  induction i with
  | zero => rfl
  | succ i ih =>
    unfold sizesTo arrG
    rw [ih]
    cases l[i]? with
    | none => rfl
    | some x =>
      have e : sizeKids (arrG gSize l i) x.2 = gSize (x.2.map (fun k => (arrG gSize l i).getD k 0)) := by
        unfold sizeKids
        show _ = List.foldl _ _ _
        rw [List.foldl_map]
      simp only
      rw [e]
theorem depths_arr (l : List Nd) : ∀ i, depthsTo l i = arrG gDepth l i := by
  intro i
  induction i with
  | zero => rfl
  | succ i ih =>
    unfold depthsTo arrG
    rw [ih]
    cases l[i]? with
    | none => rfl
    | some x =>
      have e : depthKids (arrG gDepth l i) x.2 + 1 = gDepth (x.2.map (fun k => (arrG gDepth l i).getD k 0)) := by
        unfold depthKids
        show _ = List.foldl _ _ _ + 1
        rw [List.foldl_map]
      simp only
      rw [e]
def sz (l : List Nd) (i : Nat) : Nat := (sizesTo l l.length).getD i 0
def dp (l : List Nd) (i : Nat) : Nat := (depthsTo l l.length).getD i 0
theorem sz_at {l : List Nd} (hv : Valid l) {i : Nat} (hi : i < l.length) : sz l i = gSize (l[i].2.map (sz l)) := by
  have := arrG_at (g := gSize) hv hi
  unfold sz
  rw [sizes_arr]
  exact this
theorem dp_at {l : List Nd} (hv : Valid l) {i : Nat} (hi : i < l.length) : dp l i = gDepth (l[i].2.map (dp l)) := by
  have := arrG_at (g := gDepth) hv hi
  unfold dp
  rw [depths_arr]
  exact this
/-! ### labels -/
def labs (l : List Nd) : Nat → Nat → List ByteArray
  | 0, _ => []
  | k + 1, i => (((nodeAt l i).2.map (labs l k)).flatten) ++ [(nodeAt l i).1]
theorem labs_fuel {l : List Nd} (hv : Valid l) : ∀ (k k' i : Nat), i < k → i < k' → i < l.length → labs l k i = labs l k' i := by
  intro k
  induction k with
  | zero => intro k' i h; omega
  | succ k ih =>
    intro k' i h h' hi
    obtain ⟨k', rfl⟩ : ∃ m, k' = m + 1 := ⟨k' - 1, by omega⟩
    unfold labs
    congr 2
    rw [nodeAt_eq hi]
    refine List.map_congr_left fun j hj => ?_
    have := hv i l[i] (List.getElem?_eq_getElem hi) j hj
    exact ih k' j (by omega) (by omega) (by omega)
def labF (l : List Nd) (i : Nat) : List ByteArray := labs l (i + 1) i
theorem labF_at {l : List Nd} (hv : Valid l) {i : Nat} (hi : i < l.length) : labF l i = ((l[i].2.map (labF l)).flatten) ++ [l[i].1] := by
  unfold labF
  conv => lhs; unfold labs
  rw [nodeAt_eq hi]
  congr 2
  refine List.map_congr_left fun j hj => ?_
  have := hv i l[i] (List.getElem?_eq_getElem hi) j hj
  exact labs_fuel hv _ _ _ (by omega) (by omega) (by omega)
/-- Unfolded, the last node's. -/
def labN (l : List Nd) : List ByteArray := labF l (l.length - 1)
theorem gSize_sum : ∀ (ls : List (List ByteArray)) (a b : Nat), a = min 2001 b → (ls.map (fun x => min 2001 x.length)).foldl (fun a n => cap2 (a + n)) a = min 2001 (b + ls.flatten.length)
  | [], a, b, h => by simpa using h
  | x :: ls, a, b, h => by
    have e : cap2 (a + min 2001 x.length) = min 2001 (b + x.length) := by
      unfold cap2
      split <;> omega
    simp only [List.map_cons, List.foldl_cons, List.flatten_cons, List.length_append]
    rw [gSize_sum ls _ _ e]
    omega
theorem sz_len {l : List Nd} (hv : Valid l) : ∀ (k i : Nat), i < k → i < l.length → sz l i = min 2001 (labF l i).length := by
  intro k
  induction k with
  | zero => intro i h; omega
  | succ k ih =>
    intro i h hi
    rw [sz_at hv hi, labF_at hv hi]
    have e : l[i].2.map (sz l) = (l[i].2.map (labF l)).map (fun x => min 2001 x.length) := by
      rw [List.map_map]
      refine List.map_congr_left fun j hj => ?_
      have := hv i l[i] (List.getElem?_eq_getElem hi) j hj
      exact ih j (by omega) (by omega)
    unfold gSize
    rw [e, gSize_sum _ 1 1 (by omega)]
    simp
    omega
theorem sizeN_len {l : List Nd} (hv : Valid l) (h0 : 0 < l.length) : sizeN l = min 2001 (labN l).length := sz_len hv l.length (l.length - 1) (by omega) (by omega)
/-! ### alike -/
/-- What is made of a node's label and what was made of its kids is the same of nodes that are alike. -/
theorem bis_eq {β : Type} {a b : List Nd} {R : Nat → Nat → Prop} (hB : Bis a b R) (hv : Valid a) (g : ByteArray → List β → β) {fa fb : Nat → β}
    (ha : ∀ i (hi : i < a.length), fa i = g a[i].1 (a[i].2.map fa)) (hb : ∀ i (hi : i < b.length), fb i = g b[i].1 (b[i].2.map fb)) : ∀ (k i p : Nat), i < k → R i p → fa i = fb p := by
  intro k
  induction k with
  | zero => intro i p h; omega
  | succ k ih =>
    intro i p h hr
    obtain ⟨hi, hp, h1, h2, h3⟩ := hB i p hr
    rw [ha i hi, hb p hp, h1]
    congr 1
    apply List.ext_getElem
    · simpa using h2
    · intro t k1 k2
      simp only [List.length_map] at k1 k2
      rw [List.getElem_map, List.getElem_map]
      have := hv i a[i] (List.getElem?_eq_getElem hi) _ (List.getElem_mem k1)
      exact ih _ _ (by omega) (h3 t k1 k2)
theorem bis_sz {a b : List Nd} {R : Nat → Nat → Prop} (hB : Bis a b R) (hv : Valid a) (hw : Valid b) {i p : Nat} (hr : R i p) : sz a i = sz b p :=
  bis_eq hB hv (fun _ ns => gSize ns) (fun i hi => sz_at hv hi) (fun i hi => sz_at hw hi) (i + 1) i p (by omega) hr
theorem bis_dp {a b : List Nd} {R : Nat → Nat → Prop} (hB : Bis a b R) (hv : Valid a) (hw : Valid b) {i p : Nat} (hr : R i p) : dp a i = dp b p :=
  bis_eq hB hv (fun _ ns => gDepth ns) (fun i hi => dp_at hv hi) (fun i hi => dp_at hw hi) (i + 1) i p (by omega) hr
theorem bis_lab {a b : List Nd} {R : Nat → Nat → Prop} (hB : Bis a b R) (hv : Valid a) (hw : Valid b) {i p : Nat} (hr : R i p) : labF a i = labF b p :=
  bis_eq hB hv (fun s ls => ls.flatten ++ [s]) (fun i hi => labF_at hv hi) (fun i hi => labF_at hw hi) (i + 1) i p (by omega) hr
/-- The numbers, b's nodes behind a's. -/
theorem bis_num {a b : List Nd} {R : Nat → Nat → Prop} (hB : Bis a b R) (hv : Valid a) (hw : Valid b) : ∀ (k i p : Nat), p < k → R i p → (kTo b (kT a) b.length).2.getD p 0 = (kN a).getD i 0 := by
  have ka := ks_of hv
  have kb := ks_all hw ka.strict ka.apart b.length (Nat.le_refl _)
  intro k
  induction k with
  | zero => intro i p h; omega
  | succ k ih =>
    intro i p h hr
    obtain ⟨hi, hp, h1, h2, h3⟩ := hB i p hr
    have e1 := ka.at_ i hi hi
    have e2 := kb.at_ p hp hp
    have hk : kidsK (kTo b (kT a) b.length).2 b[p] = kidsK (kN a) a[i] := by
      unfold kidsK
      apply List.ext_getElem
      · simpa using h2.symm
      · intro t k1 k2
        simp only [List.length_map] at k1 k2
        rw [List.getElem_map, List.getElem_map]
        have := hw p b[p] (List.getElem?_eq_getElem hp) _ (List.getElem_mem k1)
        exact ih _ _ (by omega) (h3 t k2 k1)
    rw [hk, ← h1] at e2
    obtain ⟨t, ht⟩ := kb.more
    have e3 : (kTo b (kT a) b.length).1[(kN a).getD i 0]? = some (a[i].1, kidsK (kN a) a[i]) := by
      rw [ht, List.getElem?_append_left (List.getElem?_eq_some_iff.1 e1).1]
      exact e1
    have f1 := ix_nodup kb.apart e2
    have f2 := ix_nodup kb.apart e3
    rw [f1] at f2
    exact Option.some.inj f2
theorem bis_same {a b : List Nd} {R : Nat → Nat → Prop} (hB : Bis a b R) (hv : Valid a) (hw : Valid b) (hr : R (a.length - 1) (b.length - 1)) : lastA a = lastB a b :=
  (bis_num hB hv hw b.length (a.length - 1) (b.length - 1) (by have := hB _ _ hr; obtain ⟨_, h, _⟩ := this; omega) hr).symm
theorem bis_refl (l : List Nd) (hv : Valid l) : Bis l l (fun i p => i = p ∧ i < l.length) := by
  rintro i p ⟨rfl, hi⟩
  refine ⟨hi, hi, rfl, rfl, fun t k1 k2 => ⟨rfl, ?_⟩⟩
  have := hv i l[i] (List.getElem?_eq_getElem hi) _ (List.getElem_mem k1)
  omega
/-- Same says so of nodes with other labels below: they are others. -/
theorem num_bis {a b : List Nd} (hv : Valid a) (hw : Valid b) : Bis a b (fun i p => i < a.length ∧ p < b.length ∧ (kTo b (kT a) b.length).2.getD p 0 = (kN a).getD i 0) := by
  have ka := ks_of hv
  have kb := ks_all hw ka.strict ka.apart b.length (Nat.le_refl _)
  rintro i p ⟨hi, hp, h⟩
  have e1 := ka.at_ i hi hi
  have e2 := kb.at_ p hp hp
  obtain ⟨t, ht⟩ := kb.more
  have e3 : (kTo b (kT a) b.length).1[(kN a).getD i 0]? = some (a[i].1, kidsK (kN a) a[i]) := by
    rw [ht, List.getElem?_append_left (List.getElem?_eq_some_iff.1 e1).1]
    exact e1
  rw [h, e3] at e2
  have e4 := Option.some.inj e2
  simp only [Prod.mk.injEq] at e4
  have hl : a[i].2.length = b[p].2.length := by
    have := congrArg List.length e4.2
    simpa [kidsK] using this
  refine ⟨hi, hp, e4.1, hl, fun t k1 k2 => ⟨?_, ?_, ?_⟩⟩
  · have := hv i a[i] (List.getElem?_eq_getElem hi) _ (List.getElem_mem k1)
    omega
  · have := hw p b[p] (List.getElem?_eq_getElem hp) _ (List.getElem_mem k2)
    omega
  · have := congrArg (·[t]?) e4.2
    simp only [kidsK, List.getElem?_map] at this
    rw [List.getElem?_eq_getElem k1, List.getElem?_eq_getElem k2] at this
    simp only [Option.map_some, Option.some.injEq] at this
    exact this.symm
end Go.Proofs.Ytkonloadedbpkaa.TreeP
