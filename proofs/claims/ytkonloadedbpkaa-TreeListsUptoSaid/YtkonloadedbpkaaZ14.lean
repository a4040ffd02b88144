/- ComeW, RefH. -/
import Derived.Test.YtkonloadedbpkaaZ13
namespace Go.Proofs.Ytkonloadedbpkaa.ComeP
open Go.Proofs.Ytkonloadedbpkaa.FMaps Go.Proofs.Ytkonloadedbpkaa.FoldPure Go.Proofs.Ytkonloadedbpkaa.KindsP Go.Proofs.Ytkonloadedbpkaa.KindsS Go.Proofs.Ytkonloadedbpkaa.ShareP Go.Proofs.Ytkonloadedbpkaa.ShareR
set_option linter.unusedVariables false

theorem range_getD {n a : Nat} (h : a < n) : (List.range n).getD a 0 = a := by
  rw [List.getD_eq_getElem?_getD, List.getElem?_range h]
  rfl
theorem kidsT_map {f g : Nat → ShS → ShS × Nat} {h : Nat → Nat} {ks : List Nat} (hf : ∀ j ∈ ks, ∀ s, f j s = g (h j) s) (s : ShS) : kidsT f s ks = kidsT g s (ks.map h) := by
  unfold kidsT
  have : ∀ (ks' : List Nat) (p : ShS × List Nat), (∀ j ∈ ks', j ∈ ks) → ks'.foldl (fun p j => ((f j p.1).1, p.2 ++ [(f j p.1).2])) p = (ks'.map h).foldl (fun p j => ((g j p.1).1, p.2 ++ [(g j p.1).2])) p := by
    intro ks'
    induction ks' with
    | nil => intro p _; rfl
    | cons j ks' ih =>
      intro p hm
      rw [List.foldl_cons, List.map_cons, List.foldl_cons, hf j (hm j (by simp))]
      exact ih _ fun x hx => hm x (by simp [hx])
  exact this ks _ fun _ h => h
theorem kind_at {l : List Nd} (hv : Valid l) {i : Nat} (hi : i < l.length) : ∃ h : (kN l).getD i 0 < (kT l).length, (kT l)[(kN l).getD i 0] = (l[i].1, kidsK (kN l) l[i]) := by
  have h := (ks_of hv).at_ i hi hi
  obtain ⟨h1, h2⟩ := List.getElem?_eq_some_iff.1 h
  exact ⟨h1, h2⟩
/-- The table of kinds, shared, is the list's own sharing. -/
theorem sh_kinds {l : List Nd} (hv : Valid l) : ∀ (k i : Nat) (s : ShS), i < l.length → shT l (kN l) k i s = shT (kT l) (List.range (kT l).length) k ((kN l).getD i 0) s := by
  intro k
  induction k with
  | zero => intro i s _; rfl
  | succ k ih =>
    intro i s hi
    obtain ⟨hn, hT⟩ := kind_at hv hi
    have hk : kidsT (shT l (kN l) k) s (nodeAt l i).2 = kidsT (shT (kT l) (List.range (kT l).length) k) s (nodeAt (kT l) ((kN l).getD i 0)).2 := by
      rw [nodeAt_eq hi, nodeAt_eq hn, hT]
      exact kidsT_map (fun j hj s => ih j s (by have := hv i l[i] (List.getElem?_eq_getElem hi) j hj; omega)) s
    have h1 : (nodeAt l i).1 = (nodeAt (kT l) ((kN l).getD i 0)).1 := by rw [nodeAt_eq hi, nodeAt_eq hn, hT]
    unfold shT
    rw [range_getD hn, hk, h1]
theorem kT_valid {l : List Nd} (hv : Valid l) : Valid (kT l) := (ks_of hv).strict
theorem range_strict {T : List Nd} (hv : Valid T) : StrictN T (List.range T.length) := by
  intro i hi k hk
  have h := hv i T[i] (List.getElem?_eq_getElem hi) k hk
  rw [range_getD hi, range_getD (by omega)]
  exact h
end Go.Proofs.Ytkonloadedbpkaa.ComeP

namespace Go.Proofs.Ytkonloadedbpkaa.ComeW
open Go.RowKit Go.Maps Go.Proofs.Ytkonloadedbpkaa.Sep Go.Proofs.Ytkonloadedbpkaa.FMaps Go.Proofs.Ytkonloadedbpkaa.FoldPure Go.Proofs.Ytkonloadedbpkaa.FoldMem Go.Proofs.Ytkonloadedbpkaa.Gather Go.Proofs.Ytkonloadedbpkaa.KindsP Go.Proofs.Ytkonloadedbpkaa.KindsS Go.Proofs.Ytkonloadedbpkaa.ShareP Go.Proofs.Ytkonloadedbpkaa.ShareR Go.Proofs.Ytkonloadedbpkaa.NodeMem Go.Proofs.Ytkonloadedbpkaa.CutW Go.Proofs.Ytkonloadedbpkaa.Lits Go.Proofs.Ytkonloadedbpkaa.ComeP
open Go.Proofs.YtkonloadedbpkaaW.PrintWords
open Go.Proofs.YtkonloadedbpkaaW.PrintLast
set_option linter.unusedVariables false
set_option linter.unusedSimpArgs false
attribute [local go_sem ↓] Go.wp_at_zero Go.wp_at_succ
set_option maxRecDepth 100000

def plV : Option Nat → Value
  | some a => .int .i64 (a : Int)
  | none => .int .i64 (-1)
def plc (f : Nat → Option Nat) (n : Nat) : List Value := (List.range n).map fun j => plV (f j)
theorem plc_at (f : Nat → Option Nat) {n j : Nat} (h : j < n) : (plc f n)[j]? = some (plV (f j)) := by
  unfold plc
  rw [List.getElem?_map, List.getElem?_range h]
  rfl
theorem plc_set (f : Nat → Option Nat) (n i a : Nat) : (plc f n).set i (.int .i64 (a : Int)) = plc (upd f i a) n := by
  apply List.ext_getElem?
  intro j
  unfold plc
  rw [List.getElem?_set, List.getElem?_map, List.getElem?_map, List.length_map, List.length_range]
  by_cases hj : j < n
  · rw [List.getElem?_range hj]
    by_cases hi : i = j
    · subst hi
      rw [if_pos rfl, if_pos hj]
      simp [upd, plV]
    · rw [if_neg hi]
      simp [upd, Ne.symm hi]
  · have : (List.range n)[j]? = none := List.getElem?_eq_none (by simpa using hj)
    rw [this]
    split
    · rw [if_neg (by omega)]; rfl
    · rfl
theorem plc_len (f : Nat → Option Nat) (n : Nat) : (plc f n).length = n := by simp [plc]
set_option maxHeartbeats 8000000 in
theorem come_calls {W : World} {A : Option Addr} {T : List Nd} {c p pt gp cp : Nat} (hT : T.length ≤ 4194304) (hv : Valid T) (hkb : ∀ x ∈ T, x.2.length ≤ 4194304) :
    ∀ (k i : Nat) (s : ShS) (m co : Nat) (Ao : Option Addr) (items : List PartM) (rs : List Res) (w : World) (C : World → Prop), (∀ w', C w' → w'.cell? ⟨pt, 0, none⟩ = some (.slice A T.length c) ∧ NodesC A T w') → i < k → i < T.length → (shT T (List.range T.length) k i s).1.out.length ≤ 4194304 → items.map nd = s.out → items.length = m →
      Sep W w (readR W C :: rowR 3 1 (.slice (some ⟨gp, 0, none⟩) T.length cp) T.length (plc s.place T.length) :: boxR p 74 #[.pointer (some ⟨pt, 0, none⟩), .slice (some ⟨gp, 0, none⟩) T.length cp, .slice Ao m co] :: rowR 27 2 (.slice Ao m co) m (nodeCells items) :: kidsR items :: rs) →
      Calls Try.prog 43 #[.pointer (some ⟨p, 0, none⟩), .int .i64 (i : Int)] w fun e w' =>
        ∃ (Ao' : Option Addr) (co' : Nat) (items' : List PartM), e = .returned (nat (shT T (List.range T.length) k i s).2) ∧ items'.map nd = (shT T (List.range T.length) k i s).1.out ∧
          Sep W w' (readR W C :: rowR 3 1 (.slice (some ⟨gp, 0, none⟩) T.length cp) T.length (plc (shT T (List.range T.length) k i s).1.place T.length) :: boxR p 74 #[.pointer (some ⟨pt, 0, none⟩), .slice (some ⟨gp, 0, none⟩) T.length cp, .slice Ao' items'.length co'] :: rowR 27 2 (.slice Ao' items'.length co') items'.length (nodeCells items') :: kidsR items' :: rs) := by
  intro k
  induction k with
  | zero => intro i _ _ _ _ _ _ _ _ _ h; omega
  | succ k ih =>
    intro i s m co Ao items rs w C hCC hik hi hfin hI hil hM
    have M := Aside0.mk hM
    have HI := Aside0.mk hI
    have HV := Aside0.mk hv
    have HKB := Aside0.mk hkb
    have HCC := Aside0.mk hCC
    clear hM hI hv hkb hCC
    have hkg := range_getD hi
    have p0 : w.cell? ⟨p, 0, none⟩ = some (.pointer (some ⟨pt, 0, none⟩)) := (box_cell (M.out.pull 2 (by simp)) (j := 0) rfl).1
    have p1 : w.cell? ⟨p, 1, none⟩ = some (.slice (some ⟨gp, 0, none⟩) T.length cp) := (box_cell (M.out.pull 2 (by simp)) (j := 1) rfl).1
    obtain ⟨g5, cq, hv5, _, hcell, _⟩ := row_some (M.out.pull 1 (by simp)).row (by omega)
    simp only [Value.slice.injEq, Option.some.injEq, Addr.mk.injEq, and_true, true_and] at hv5
    obtain ⟨rfl, rfl⟩ := hv5
    have r0 := hcell _ _ (plc_at s.place hi)
    clear hcell
    cases hpl : s.place i with
    | some a =>
      rw [hpl] at r0
      replace r0 : w.cell? ⟨gp, i, none⟩ = some (.int .i64 (a : Int)) := r0
      have hsh : shT T (List.range T.length) (k + 1) i s = (s, a) := by rw [shT, hkg, hpl]
      have HSH := Aside0.mk hsh
      have i0 : ((0 : Int) ≤ (a : Int)) = True := by simp
      clear hsh hfin hkg hpl
      go_enter Try.func43, Try.ntmps43
      go_wp2_with fail
      go_ret
      rw [HSH.out]
      subst hil
      exact ⟨Ao, co, items, rfl, HI.out, M.out⟩
    | none =>
      rw [hpl] at r0
      replace r0 : w.cell? ⟨gp, i, none⟩ = some (.int .i64 (-1)) := r0
      have hsh : shT T (List.range T.length) (k + 1) i s = (putT (kidsT (shT T (List.range T.length) k) s T[i].2).1 i (T[i].1, (kidsT (shT T (List.range T.length) k) s T[i].2).2), (kidsT (shT T (List.range T.length) k) s T[i].2).1.out.length) := by
        rw [shT, hkg, hpl, nodeAt_eq hi]
      have hfin3 : (kidsT (shT T (List.range T.length) k) s T[i].2).1.out.length + 1 ≤ 4194304 := by
        rw [hsh] at hfin
        simpa [putT] using hfin
      have HSH := Aside0.mk hsh
      clear hsh hfin hkg hpl
      have hC := HCC.out _ (read_at M.out)
      have t0 := hC.1
      obtain ⟨ad, Ak, ck, rfl, x0, _, _, _⟩ := node_at hC.2 hi
      clear hC
      have hkle := HKB.out T[i] (List.getElem_mem hi)
      have hbx := box_fresh M.out 27 #[.string T[i].1, .slice none 0 0]
      have hbx2 := row_nil (hbx.perm (List.perm_middle (l₁ := [_, _, _, _, _]) (l₂ := rs)).symm) 3 1
      have hbx3 := hbx2.perm (List.perm_middle (l₁ := [_, _, _, _, _, _]) (l₂ := rs)).symm
      have hlt1 := World.block_lt_of_cell? _ _ x0
      clear M hbx hbx2
      have M := Aside0.mk hbx3
      clear hbx3
      have hbd := build27
      go_enter Try.func43, Try.ntmps43
      go_wp2_with fail
      go_loopw [6] (fun v6 wq => ∃ (j m c12 co : Nat) (A12 Ao : Option Addr) (items : List PartM), j ≤ T[i].2.length ∧ v6 = .int .i64 j ∧ items.length = m ∧ Aside0 (items.map nd = (kidsT (shT T (List.range T.length) k) s (T[i].2.take j)).1.out) ∧
        Aside0 (Sep W wq (readR W C :: rowR 3 1 (.slice (some ⟨gp, 0, none⟩) T.length cp) T.length (plc (kidsT (shT T (List.range T.length) k) s (T[i].2.take j)).1.place T.length) :: boxR p 74 #[.pointer (some ⟨pt, 0, none⟩), .slice (some ⟨gp, 0, none⟩) T.length cp, .slice Ao m co] :: rowR 27 2 (.slice Ao m co) m (nodeCells items) :: kidsR items ::
          boxR w.heap.size 27 #[.string T[i].1, .slice A12 j c12] :: rowR 3 1 (.slice A12 j c12) j ((kidsT (shT T (List.range T.length) k) s (T[i].2.take j)).2.map nat) :: rs))) (fun v6 _ => T[i].2.length - (intOf v6).toNat)
      case atStart => exact ⟨0, m, 0, co, none, Ao, items, by omega, rfl, hil, HI, M⟩
      case round =>
        clear M HI hil x0 t0 hlt1 p0 p1 r0
        obtain ⟨j, m, c12, co, A12, Ao, items, hj, rfl, hil, HI, M⟩ := hrel
        have p0 : wr.cell? ⟨p, 0, none⟩ = some (.pointer (some ⟨pt, 0, none⟩)) := (box_cell (M.out.pull 2 (by simp)) (j := 0) rfl).1
        have hC := HCC.out _ (read_at M.out)
        have t0 := hC.1
        obtain ⟨ad2, Ak, ck, e2, _, x1, hck, hCk⟩ := node_at hC.2 hi
        cases e2
        clear hC
        by_cases hjl : j < T[i].2.length
        · obtain ⟨ak, rfl, hk0⟩ := kid_at hCk rfl hjl
          have hkid := HV.out i T[i] (List.getElem?_eq_getElem hi) _ (List.getElem_mem hjl)
          have hkk : T[i].2[j] < k := by omega
          have hsucc := kidsT_succ (shT T (List.range T.length) k) s T[i].2 hjl
          have hfin2 : (shT T (List.range T.length) k T[i].2[j] (kidsT (shT T (List.range T.length) k) s (T[i].2.take j)).1).1.out.length ≤ 4194304 := by
            have h1 := kids_part T (List.range T.length) k s T[i].2 (j + 1)
            rw [hsucc] at h1
            simp only at h1
            omega
          have Hsucc := Aside0.mk hsucc
          clear hsucc hCk
          generalize hsj : (kidsT (shT T (List.range T.length) k) s (T[i].2.take j)).1 = sj at M HI hfin2 Hsucc
          generalize hks : (kidsT (shT T (List.range T.length) k) s (T[i].2.take j)).2 = ks at M Hsucc
          clear hsj hks
          replace hk0 : wr.cell? (ak.add j) = some (.int .i64 (T[i].2[j] : Int)) := hk0
          have hcl := Aside0.mk (ih T[i].2[j] sj m co Ao items _ _ _ HCC.out hkk (by omega) hfin2 HI.out hil M.out)
          clear M
          go_wp2_with fail
          refine hcl.out.mono ?_
          clear hcl
          rintro e w5 ⟨Ao5, co5, items5, rfl, hI5, hm5⟩
          have M := Aside0.mk hm5
          have HI5 := Aside0.mk hI5
          clear hm5 hI5 p0 t0 x1 hk0 HI
          unfold nat
          generalize (shT T (List.range T.length) k T[i].2[j] sj).2 = R at Hsucc ⊢
          have q1 : w5.cell? ⟨w.heap.size, 1, none⟩ = some (.slice A12 j c12) := (box_cell (M.out.pull 5 (by simp)) (j := 1) rfl).1
          go_wp2_with (at_builtin; refine wp_one24 ((M.out.pull 6 (by simp)).alloc (.cells #[.int .i64 (R : Int)] 3)) rfl (.tmp 68) (.tmp 70) 25 rfl Try.underlying25 info3 rfl rfl rfl (new_cell _ _ _) rfl (by omega) (by omega) ?_; intro A6 c6 w6 hc6 hm6; clear M q1; have M := Aside0.mk hm6; clear hm6; obtain ⟨q1, qf1⟩ := box_cell (M.out.pull 6 (by simp)) (j := 1) rfl)
          have hm8 := at_ M.out 6 (by simp) (fun rs h => box_set h 1 (.slice A6 (j + 1) c6))
          have hm9 := hm8.perm (List.perm_middle (l₁ := [_, _, _, _, _, _]) (l₂ := rs)).symm
          clear M
          have M := Aside0.mk hm9
          clear hm8 hm9
          go_roundw
          case rel => exact ⟨j + 1, items5.length, c6, co5, A6, Ao5, items5, by omega, by go_num, rfl, ⟨by rw [Hsucc.out]; exact HI5.out⟩, ⟨by
            rw [Hsucc.out]
            simp only
            rw [List.map_append]
            exact M.out⟩⟩
          case measure => simp [intOf]; omega
        · have hje : j = T[i].2.length := by omega
          subst hje
          have htl : T[i].2.take T[i].2.length = T[i].2 := List.take_length
          have hMM := M.out
          have hHI := HI.out
          rw [htl] at hMM hHI
          have hml : m = (kidsT (shT T (List.range T.length) k) s T[i].2).1.out.length := by
            have := congrArg List.length hHI
            rw [List.length_map] at this
            omega
          clear M HI htl hCk
          have M := Aside0.mk hMM
          have HI := Aside0.mk hHI
          have HML := Aside0.mk hml
          have hmle : m + 1 ≤ 4194304 := by omega
          clear hMM hHI hml hfin3
          go_wp2_with fail
          have z2 : wr.cell? ⟨p, 2, none⟩ = some (.slice Ao m co) := (box_cell (M.out.pull 2 (by simp)) (j := 2) rfl).1
          have z0 : wr.cell? ⟨w.heap.size, 0, none⟩ = some (.string T[i].1) := (box_cell (M.out.pull 5 (by simp)) (j := 0) rfl).1
          have z1 : wr.cell? ⟨w.heap.size, 1, none⟩ = some (.slice A12 T[i].2.length c12) := (box_cell (M.out.pull 5 (by simp)) (j := 1) rfl).1
          clear p0 t0 x1
          refine start_ (n := 11) (S := fun w' => w'.cell? ⟨p, 2, none⟩ = some (.slice Ao m co) ∧ w'.cell? ⟨w.heap.size, 0, none⟩ = some (.string T[i].1) ∧ w'.cell? ⟨w.heap.size, 1, none⟩ = some (.slice A12 T[i].2.length c12)) (ds := [10]) #[false, false, false, false, false, false, false, false, false, false, false] (by kernel_rfl) rfl rfl ⟨z2, z0, z1⟩ (fun hHeld => ?_)
          have M8 := Aside0.mk (M.out.drawn (w' := wr.drew) ⟨1, rfl⟩)
          clear M z0 z1 z2
          have M := M8
          clear M8
          generalize wr.drew = w8 at M hHeld ⊢
          refine pure_ (i := 0) (N := some 73) (v := ?_) (a' := ?_) #[true, false, false, false, false, false, false, false, false, false, false] rfl rfl (by kernel_rfl) (fun _ _ _ h => h) (Or.inl ⟨by rfl, ?_⟩) ?_ ?_
          rotate_left
          · intro w'
            go_simp
            with_reducible rfl
          rotate_left
          · simp only [Act.put, List.setIfInBounds_toArray, List.set_cons_zero, List.set_cons_succ, i64_w, i32_w]
            rfl
          refine pure_ (i := 1) (N := some 74) (v := ?_) (a' := ?_) #[true, true, false, false, false, false, false, false, false, false, false] rfl rfl (by kernel_rfl) (fun _ _ _ h => h) (Or.inl ⟨by rfl, ?_⟩) ?_ ?_
          rotate_left
          · intro w'
            go_simp
            with_reducible rfl
          rotate_left
          · simp only [Act.put, List.setIfInBounds_toArray, List.set_cons_zero, List.set_cons_succ, i64_w, i32_w]
            rfl
          refine pure_ (i := 2) (N := some 75) (v := ?_) (a' := ?_) #[true, true, true, false, false, false, false, false, false, false, false] rfl rfl (by kernel_rfl) (fun _ _ _ h => h) (Or.inl ⟨by rfl, ?_⟩) ?_ ?_
          rotate_left
          · intro w'
            go_simp
            with_reducible rfl
          rotate_left
          · simp only [Act.put, List.setIfInBounds_toArray, List.set_cons_zero, List.set_cons_succ, i64_w, i32_w]
            rfl
          refine pure_ (i := 3) (N := some 76) (v := ?_) (a' := ?_) #[true, true, true, true, false, false, false, false, false, false, false] rfl rfl (by kernel_rfl) (fun _ _ _ h => h) (Or.inl ⟨by rfl, ?_⟩) ?_ ?_
          rotate_left
          · intro w'
            go_simp
            with_reducible rfl
          rotate_left
          · simp only [Act.put, List.setIfInBounds_toArray, List.set_cons_zero, List.set_cons_succ, i64_w, i32_w]
            rfl
          refine take_ (i := 4) (N := some 77) (v := ?_) (a' := ?_) #[true, true, true, true, true, false, false, false, false, false, false] rfl rfl (by kernel_rfl) (fun _ _ _ h => h) (Or.inl ⟨by rfl, ?_⟩) hHeld ?_ ?_
          rotate_left
          · rintro w' ⟨s0, s1, s2⟩
            go_simp
            with_reducible rfl
          rotate_left
          · simp only [Act.put, List.setIfInBounds_toArray, List.set_cons_zero, List.set_cons_succ, i64_w, i32_w]
            rfl
          refine take_ (i := 5) (N := some 78) (v := ?_) (a' := ?_) #[true, true, true, true, true, true, false, false, false, false, false] rfl rfl (by kernel_rfl) (fun _ _ _ h => h) (Or.inl ⟨by rfl, ?_⟩) hHeld ?_ ?_
          rotate_left
          · rintro w' ⟨s0, s1, s2⟩
            go_simp
            with_reducible rfl
          rotate_left
          · simp only [Act.put, List.setIfInBounds_toArray, List.set_cons_zero, List.set_cons_succ, i64_w, i32_w]
            rfl
          refine one_ (i := 6) (N := some 79) #[true, true, true, true, true, true, true, false, false, false, false] rfl rfl (by kernel_rfl) (by decide) (fun K hK => ?_)
          refine value_ (w1 := ?_) (v := ?_) (by rfl) rfl ?_ ?_
          rotate_left
          rotate_left
          · go_simp
            refine ⟨?_, ?_⟩ <;> rfl
          have M9 := Aside0.mk (M.out.alloc (.cells #[.string T[i].1, .slice A12 T[i].2.length c12] 27))
          have y2 := (box_cell (M9.out.pull 2 (by simp)) (j := 2) rfl).1
          have y0 := (box_cell (M9.out.pull 5 (by simp)) (j := 0) rfl).1
          have y1 := (box_cell (M9.out.pull 5 (by simp)) (j := 1) rfl).1
          refine hK.out _ _ ⟨y2, y0, y1⟩ (fun hHeld => ?_)
          clear hK K y0 y1 y2
          refine one_ (i := 7) (N := some 80) #[true, true, true, true, true, true, true, true, false, false, false] rfl rfl (by kernel_rfl) (by decide) (fun K hK => ?_)
          obtain ⟨i27, hi27, hz27, hs27, hb27⟩ := info_parts info27
          refine step_append_lies _ rfl _ _ _ rfl 0 27 i27 _ 2 40 Try.underlying24 hi27 hz27 hs27 hb27 rfl (by omega) (.slice Ao m co) m (nodeCells items) rfl (M9.out.pull 3 (by simp)).row
            ⟨w8.heap.size, 0, none⟩ 1 1 [.string T[i].1, .slice A12 T[i].2.length c12] rfl rfl (World.news_of_block (cs := #[.string T[i].1, .slice A12 T[i].2.length c12]) (t := 27) (fr := (0, 0)) (heap_alloc_new w8 _)) (by simp [Value.oneCell'])
            (by omega) (by unfold maxLen; omega) (by omega) (Nat.zero_le _) (w8.heap.size + 1) (by simp) ?_
          intro gg cap w10 hown hgrow hat hlt4
          have M10 := Aside0.mk ((M9.out.pull 3 (by simp)).appended hown hgrow (by
            rcases hat with h | h
            · exact .inl h.symm
            · right; rw [h]; simp [Value.ownBlock]))
          obtain ⟨y2, yf2⟩ := box_cell (M10.out.pull 3 (by simp)) (j := 2) rfl
          have y0 := (box_cell (M10.out.pull 5 (by simp)) (j := 0) rfl).1
          have y1 := (box_cell (M10.out.pull 5 (by simp)) (j := 1) rfl).1
          refine hK.out _ _ ⟨y2, y0, y1⟩ (fun hHeld => ?_)
          clear hK K y0 y1 hown hgrow hat hlt4 M9
          refine pure_ (i := 8) (N := some 81) (v := ?_) (a' := ?_) #[true, true, true, true, true, true, true, true, true, false, false] rfl rfl (by kernel_rfl) (fun _ _ _ h => h) (Or.inl ⟨by rfl, ?_⟩) ?_ ?_
          rotate_left
          · intro w'
            go_simp
            with_reducible rfl
          rotate_left
          · simp only [Act.put, List.setIfInBounds_toArray, List.set_cons_zero, List.set_cons_succ, i64_w, i32_w]
            rfl
          refine pure_ (i := 9) (N := some 82) (v := ?_) (a' := ?_) #[true, true, true, true, true, true, true, true, true, true, false] rfl rfl (by kernel_rfl) (fun _ _ _ h => h) (Or.inl ⟨by rfl, ?_⟩) ?_ ?_
          rotate_left
          · intro w'
            go_simp
            with_reducible rfl
          rotate_left
          · simp only [Act.put, List.setIfInBounds_toArray, List.set_cons_zero, List.set_cons_succ, i64_w, i32_w]
            rfl
          refine last_ (i := 10) (N := none) #[true, true, true, true, true, true, true, true, true, true, true] rfl rfl (by kernel_rfl) (by decide) (fun K hK => ?_)
          refine skip_ (w1 := ?_) (by rfl) rfl ?_ ?_
          rotate_left
          · go_simp
            rfl
          refine hK.out _ _ ?_
          clear hK K
          refine done_ (by kernel_rfl) ?_
          have hb := at_ M10.out 3 (by simp) (fun rs h => box_set h 2 (.slice (some ⟨gg, 0, none⟩) (m + 1) cap))
          clear M10
          generalize w10.setCell ⟨p, 2, none⟩ (.slice (some ⟨gg, 0, none⟩) (m + 1) cap) = w11 at hb ⊢
          have hb2 : Sep W w11 (rowR 27 2 (.slice (some ⟨gg, 0, none⟩) (m + 1) cap) (m + 1) (nodeCells items ++ [.string T[i].1, .slice A12 T[i].2.length c12]) :: readR W C :: rowR 3 1 (.slice (some ⟨gp, 0, none⟩) T.length cp) T.length (plc (kidsT (shT T (List.range T.length) k) s T[i].2).1.place T.length) :: boxR p 74 #[.pointer (some ⟨pt, 0, none⟩), .slice (some ⟨gp, 0, none⟩) T.length cp, .slice (some ⟨gg, 0, none⟩) (m + 1) cap] :: kidsR items :: boxR w.heap.size 27 #[.string T[i].1, .slice A12 T[i].2.length c12] :: rowR 3 1 (.slice A12 T[i].2.length c12) T[i].2.length ((kidsT (shT T (List.range T.length) k) s T[i].2).2.map nat) :: rs) := hb
          have hb3 := ((hb2.pull 6 (by simp)).pull 5 (by simp)).pull 2 (by simp)
          have hb4 := item_more (items := items) (q := ⟨⟨T[i].1, (kidsT (shT T (List.range T.length) k) s T[i].2).2, 0⟩, 0, A12, c12⟩) (v := .slice (some ⟨gg, 0, none⟩) (m + 1) cap) (by
            simp only [PartM.kv, kidsT_len, hil]
            exact hb3)
          have hlen : (items ++ [(⟨⟨T[i].1, (kidsT (shT T (List.range T.length) k) s T[i].2).2, 0⟩, 0, A12, c12⟩ : PartM)]).length = m + 1 := by simp [hil]
          rw [hlen] at hb4
          have hb5 := ((((hb4.pull 5 (by simp)).tail).pull 4 (by simp)).pull 4 (by simp)).pull 4 (by simp)
          clear hb hb2 hb3 hb4
          obtain ⟨m1, hm1⟩ : ∃ m1, m1 = m + 1 := ⟨_, rfl⟩
          rw [← hm1] at hb5
          have M := Aside0.mk hb5
          clear hb5
          have HM1 := Aside0.mk hm1
          have i1 : (m1 : Int) - 1 = (m : Int) := by omega
          have hm1le : m1 ≤ 4194304 := by omega
          have p1 : w11.cell? ⟨p, 1, none⟩ = some (.slice (some ⟨gp, 0, none⟩) T.length cp) := (box_cell (M.out.pull 2 (by simp)) (j := 1) rfl).1
          have p2 : w11.cell? ⟨p, 2, none⟩ = some (.slice (some ⟨gg, 0, none⟩) m1 cap) := (box_cell (M.out.pull 2 (by simp)) (j := 2) rfl).1
          have qf : w11.frozen? ⟨gp, i, none⟩ = false := row_free (M.out.pull 1 (by simp)) (by omega) i
          obtain ⟨_, _, hv6, _, hcell, _⟩ := row_some (M.out.pull 1 (by simp)).row (by omega)
          simp only [Value.slice.injEq, Option.some.injEq, Addr.mk.injEq, and_true, true_and] at hv6
          obtain ⟨rfl, rfl⟩ := hv6
          have r0 := hcell _ _ (plc_at (kidsT (shT T (List.range T.length) k) s T[i].2).1.place hi)
          clear hcell
          clear hm1 HKB hkle hmle
          go_wp2_with fail
          go_still_tail 12, (by kernel_rfl)
          change wpList _ _ _ _ _ w11.drew
          have M2 := Aside0.mk (M.out.drawn (w' := w11.drew) ⟨1, rfl⟩)
          clear p1 p2 qf r0
          have qf : w11.drew.frozen? ⟨gp, i, none⟩ = false := row_free (M2.out.pull 1 (by simp)) (by omega) i
          obtain ⟨_, _, hv6, _, hcell, _⟩ := row_some (M2.out.pull 1 (by simp)).row (by omega)
          simp only [Value.slice.injEq, Option.some.injEq, Addr.mk.injEq, and_true, true_and] at hv6
          obtain ⟨rfl, rfl⟩ := hv6
          have r0 := hcell _ _ (plc_at (kidsT (shT T (List.range T.length) k) s T[i].2).1.place hi)
          clear hcell
          go_upto_region 11 with fail
          have hst := at_ M.out 1 (by simp) (fun rs h => stored_n h (j := i) (u := .int .i64 (m : Int)) (by omega) rfl)
          rw [plc_set] at hst
          have hst2 := hst.drawn (w' := (w11.setCell ⟨gp, i, none⟩ (.int .i64 (m : Int))).drew) ⟨1, rfl⟩
          clear M M2 qf r0 hst
          generalize (w11.setCell ⟨gp, i, none⟩ (.int .i64 (m : Int))).drew = w12 at hst2 ⊢
          have M := Aside0.mk hst2
          clear hst2
          have p1 : w12.cell? ⟨p, 1, none⟩ = some (.slice (some ⟨gp, 0, none⟩) T.length cp) := (box_cell (M.out.pull 2 (by simp)) (j := 1) rfl).1
          obtain ⟨_, _, hv6, _, hcell, _⟩ := row_some (M.out.pull 1 (by simp)).row (by omega)
          simp only [Value.slice.injEq, Option.some.injEq, Addr.mk.injEq, and_true, true_and] at hv6
          obtain ⟨rfl, rfl⟩ := hv6
          have r0 : w12.cell? ⟨gp, i, none⟩ = some (.int .i64 (m : Int)) := by
            have h := hcell _ _ (plc_at _ hi)
            rw [h]
            simp [upd, plV]
          clear hcell
          go_wp2_with fail
          go_ret
          rw [HSH.out]
          refine ⟨some ⟨gg, 0, none⟩, cap, items ++ [⟨⟨T[i].1, (kidsT (shT T (List.range T.length) k) s T[i].2).2, 0⟩, 0, A12, c12⟩], ?_, ?_, ?_⟩
          · show Ending.returned (.int .i64 (m : Int)) = .returned (nat (kidsT (shT T (List.range T.length) k) s T[i].2).1.out.length)
            rw [← HML.out]
            rfl
          · rw [List.map_append, HI.out]
            rfl
          · rw [hlen, ← HM1.out]
            unfold putT
            rw [← HML.out]
            exact M.out
end Go.Proofs.Ytkonloadedbpkaa.ComeW

namespace Go.Proofs.Ytkonloadedbpkaa.RefH
open Go.RowKit Go.Maps Go.Proofs.Ytkonloadedbpkaa.Sep Go.Proofs.Ytkonloadedbpkaa.FMaps Go.Proofs.Ytkonloadedbpkaa.FoldPure Go.Proofs.Ytkonloadedbpkaa.FoldMem Go.Proofs.Ytkonloadedbpkaa.Gather Go.Proofs.Ytkonloadedbpkaa.NodeMem Go.Proofs.Ytkonloadedbpkaa.RowsOf Go.Proofs.Ytkonloadedbpkaa.NodesIn Go.Proofs.Ytkonloadedbpkaa.Spare Go.Proofs.Ytkonloadedbpkaa.CutW Go.Proofs.Ytkonloadedbpkaa.Kept Go.Proofs.Ytkonloadedbpkaa.Lits Go.Proofs.Ytkonloadedbpkaa.KindsP Go.Proofs.Ytkonloadedbpkaa.KindsS Go.Proofs.Ytkonloadedbpkaa.SameW Go.Proofs.Ytkonloadedbpkaa.TreeW Go.Proofs.Ytkonloadedbpkaa.TreeP Go.Proofs.Ytkonloadedbpkaa.ListsP Go.Proofs.Ytkonloadedbpkaa.RefW Go.Proofs.Ytkonloadedbpkaa.RefS Go.Proofs.Ytkonloadedbpkaa.ShareP Go.Proofs.Ytkonloadedbpkaa.ComeP Go.Proofs.Ytkonloadedbpkaa.ComeW
open Go.Proofs.YtkonloadedbpkaaW.PrintWords
set_option linter.unusedVariables false
set_option linter.unusedSimpArgs false
set_option maxRecDepth 100000

def shareZ (zs : List ZN) : List Nd := if noneZ zs then [] else ShareR.shareN (zs.map (fun z => (z.1, z.2.map Int.toNat)))
theorem share_z {l : List Nd} (hv : Valid l) (h0 : 0 < l.length) : shareZ (l.map toP) = ShareR.shareN l := by
  unfold shareZ
  rw [none_nodes hv h0, back_nodes]
  rfl
theorem build74 (a : Addr) (w : World) : (Instr.build 74 #[(0, .pointer (some a))]).run Try.prog w = .ok (.agg #[.pointer (some a), .slice none 0 0, .slice none 0 0]) w := by kernel_rfl
theorem plc_none (n : Nat) : plc (fun _ => none) n = List.replicate n (.int .i64 (-1)) := by
  unfold plc
  rw [List.map_const', List.length_range]
  rfl
theorem last_share {l : List Nd} (hv : Valid l) (h0 : 0 < l.length) : (shT (kT l) (List.range (kT l).length) l.length (lastA l) ⟨fun _ => none, []⟩).1.out = ShareR.shareN l := by
  have h := sh_kinds hv l.length (l.length - 1) ⟨fun _ => none, []⟩ (by omega)
  unfold lastA
  rw [← h]
  rfl
theorem last_lt {l : List Nd} (hv : Valid l) (h0 : 0 < l.length) : lastA l < l.length ∧ lastA l < (kT l).length := by
  obtain ⟨h, _⟩ := kind_at hv (i := l.length - 1) (by omega)
  refine ⟨?_, h⟩
  have := ShareR.kT_le l [] l.length
  have h3 : (kT l).length ≤ 0 + l.length := this
  unfold lastA
  omega
set_option maxHeartbeats 8000000 in
theorem rshare_calls {W w : World} {rs : List Res} {A : Option Addr} {c : Nat} {zs : List ZN} {C : World → Prop} (hf : Fit zs) (hM : Sep W w (readR W C :: rs)) (hCC : ∀ w', C w' → Kd.C kP w' A zs.length zs) (hc : zs.length ≤ c) :
    Calls Try.prog 19 #[.slice A zs.length c] w fun e w' => ∃ (A' : Option Addr) (c' : Nat) (items : List PartM), e = .returned (.slice A' items.length c') ∧ items.map nd = shareZ zs ∧ items.length ≤ c' ∧ Sep W w' (rowR 27 2 (.slice A' items.length c') items.length (nodeCells items) :: kidsR items :: readR W C :: rs) := by
  have h1 := none_calls hf (hCC _ (read_at hM)) hc
  have M := Aside0.mk hM
  have HCC := Aside0.mk hCC
  clear hM hCC
  have hb72 := build72
  have hb74 := build74
  go_enter Try.func19, Try.ntmps19
  go_wp2_with fail
  refine h1.mono ?_
  clear h1
  rintro e w1 ⟨rfl, hd⟩
  have M1 := M.out.drawn hd
  clear M hd
  have M := Aside0.mk M1
  clear M1
  cases hna : noneZ zs with
  | true =>
    have HS := Aside0.mk (show shareZ zs = [] by unfold shareZ; rw [hna]; rfl)
    go_wp2_with fail
    go_ret
    exact ⟨none, 0, [], rfl, HS.out.symm, Nat.le_refl _, row_nil (kids_none M.out) 27 2⟩
  | false =>
    obtain ⟨l, rfl, hv, h0, hl, hs, hks, _⟩ := some_z hf hna
    have hl2 : (l.map toP).length = l.length := List.length_map ..
    rw [hl2] at HCC hc ⊢
    have HS := Aside0.mk (share_z hv h0)
    have HV := Aside0.mk hv
    have HK := Aside0.mk hks
    have HK0 := Aside0.mk (show KB (([] : List PartM).map nd) from fun x hx => by simp at hx)
    have hLL := last_lt hv h0
    have hfin := ShareR.share_le hv h0
    clear hv hks hl2 hs
    have m1 := box_fresh (row_nil (kids_none M.out) 27 2) 72 #[.slice none 0 0]
    have m2 := box_fresh m1 74 #[.pointer (some ⟨w1.heap.size, 0, none⟩), .slice none 0 0, .slice none 0 0]
    simp only [World.size_alloc] at m2
    have m3 : Sep W _ (tabR w1.heap.size none 0 [] (readR W C :: boxR (w1.heap.size + 1) 74 #[.pointer (some ⟨w1.heap.size, 0, none⟩), .slice none 0 0, .slice none 0 0] :: rs)) := m2.perm (List.perm_middle (l₁ := [_, _, _, _]) (l₂ := rs)).symm
    clear M m1 m2
    have M := Aside0.mk m3
    clear m3
    have p0 := (box_cell (M.out.pull 4 (by simp [tabR])) (j := 0) rfl).1
    go_wp2_with fail
    refine (numbers_calls (cl := c) (by simp; omega) (by omega) HV.out HK.out HK0.out M.out HCC.out).mono ?_
    rintro e w3 ⟨items3, A3, c3, Ax, cx, rfl, hI3, hcx, hkb3, hm3⟩
    clear M p0
    have hI3' : items3.map nd = kT l := hI3
    have hil : items3.length = (kT l).length := by rw [← hI3', List.length_map]
    have hkb4 : ∀ q ∈ items3, q.part.kids.length ≤ 4194304 := fun q hq => hkb3 (nd q) (List.mem_map_of_mem hq)
    have hTle : (kT l).length ≤ l.length := by
      have := ShareR.kT_le l [] l.length
      have h3 : (kT l).length ≤ 0 + l.length := this
      omega
    have hj1 := nodes_read ((hm3.pull 3 (by simp [tabR])).pull 3 (by simp [tabR])) (by omega) hkb4
    have hj2 := ShareL.join_read (fun w' => w'.cell? ⟨w1.heap.size, 0, none⟩ = some (.slice A3 items3.length c3)) (hj1.pull 2 (by simp [tabR])) (ShareL.box_reads _ _ _)
    rw [hil, hI3'] at hj2
    rw [hI3'] at hkb3
    obtain ⟨T, hT⟩ : ∃ T, T = kT l := ⟨_, rfl⟩
    have hout := last_share HV.out h0
    have hTv := kT_valid HV.out
    rw [← hT] at hj2 hkb3 hTle hLL hout hTv
    have HTV := Aside0.mk hTv
    have HKB := Aside0.mk hkb3
    have HOUT := Aside0.mk hout
    have hj3 := row_nil (hj2.pull 3 (by simp [tabR])) 3 1
    have M := Aside0.mk hj3
    clear hm3 hj1 hj2 hj3 hI3 hI3' hil hkb4 hkb3 hout hTv hT
    go_wp2_with fail
    go_loopw [5] (fun v5 wr => ∃ (i : Nat) (A5 : Option Addr) (c5 : Nat), i ≤ T.length ∧ v5 = .int .i64 i ∧
      Aside0 (Sep W wr (rowR 3 1 (.slice A5 i c5) i (List.replicate i (.int .i64 (-1))) :: boxR (w1.heap.size + 1) 74 #[.pointer (some ⟨w1.heap.size, 0, none⟩), .slice A5 i c5, .slice none 0 0] :: readR W (fun w' => w'.cell? ⟨w1.heap.size, 0, none⟩ = some (.slice A3 T.length c3) ∧ NodesC A3 T w') ::
        rowR 3 1 (.slice Ax l.length cx) l.length ((kTo l (List.map nd ([] : List PartM)) l.length).2.map nat) :: readR W C :: rs))) (fun v5 _ => T.length - (intOf v5).toNat)
    case atStart => exact ⟨0, none, 0, by omega, rfl, M⟩
    case round =>
      clear M
      obtain ⟨i, A5, c5, hi, rfl, M⟩ := hrel
      have t0 := (read_at (M.out.pull 2 (by simp))).1
      have p0 : wr.cell? ⟨w1.heap.size + 1, 0, none⟩ = some (.pointer (some ⟨w1.heap.size, 0, none⟩)) := (box_cell (M.out.pull 1 (by simp)) (j := 0) rfl).1
      have p1 : wr.cell? ⟨w1.heap.size + 1, 1, none⟩ = some (.slice A5 i c5) := (box_cell (M.out.pull 1 (by simp)) (j := 1) rfl).1
      by_cases hlt : i < T.length
      · go_wp2_with (at_builtin; refine wp_one24 (M.out.alloc (.cells #[.int .i64 (-1)] 3)) rfl (.tmp 34) (.tmp 35) 25 rfl Try.underlying25 info3 rfl rfl rfl (new_cell _ _ _) rfl (by omega) (by omega) ?_; intro A6 c6 w6 hc6 hm6; clear M p0 p1 t0; have M := Aside0.mk hm6; clear hm6; obtain ⟨p1, pf1⟩ := box_cell (M.out.pull 1 (by simp)) (j := 1) rfl)
        have hm7 := at_ M.out 1 (by simp) (fun rs h => box_set h 1 (.slice A6 (i + 1) c6))
        go_roundw
        case rel => exact ⟨i + 1, A6, c6, by omega, by go_num, ⟨by rw [List.replicate_succ']; exact hm7⟩⟩
        case measure => simp [intOf]; omega
      · have hie : i = T.length := by omega
        subst hie
        obtain ⟨gp, cq, hv5, _, hcell, _⟩ := row_some M.out.row (by omega)
        simp only [Value.slice.injEq, true_and] at hv5
        obtain ⟨rfl, rfl⟩ := hv5
        clear hcell
        obtain ⟨gx, cq, hv6, _, hcell, _⟩ := row_some (M.out.pull 3 (by simp)).row (by omega)
        simp only [Value.slice.injEq, true_and] at hv6
        obtain ⟨rfl, rfl⟩ := hv6
        have hnx : (kTo l (List.map nd ([] : List PartM)) l.length).2[l.length - 1]? = some (lastA l) := by
          have hl : (kN l).length = l.length := kTo_len l [] l.length
          show (kN l)[l.length - 1]? = some (lastA l)
          unfold lastA
          rw [List.getD_eq_getElem?_getD, List.getElem?_eq_getElem (by omega)]
          rfl
        have r0 : wr.cell? ⟨gx, l.length - 1, none⟩ = some (.int .i64 (lastA l : Int)) := hcell _ _ (by rw [List.getElem?_map, hnx]; rfl)
        clear hcell hnx
        have i0 : (l.length : Int) - 1 = ((l.length - 1 : Nat) : Int) := by omega
        have hm8 := row_nil (kids_none M.out) 27 2
        rw [← plc_none] at hm8
        have hm9 := ((hm8.pull 3 (by simp)).pull 3 (by simp)).pull 4 (by simp)
        have hcl := come_calls (c := c3) (by omega) HTV.out HKB.out l.length (lastA l) ⟨fun _ => none, []⟩ 0 0 none [] _ wr _ (fun w' h => h) hLL.1 hLL.2 (by rw [HOUT.out]; omega) rfl rfl hm9
        have HCL := Aside0.mk hcl
        clear hcl hm8 hm9 M
        generalize lastA l = la at r0 HCL HOUT hLL
        go_wp2_with fail
        refine HCL.out.mono ?_
        clear HCL
        rintro e w9 ⟨A', c', items, rfl, hI, hm⟩
        rw [HOUT.out] at hI
        have o0 : w9.cell? ⟨w1.heap.size + 1, 2, none⟩ = some (.slice A' items.length c') := (box_cell (hm.pull 2 (by simp)) (j := 2) rfl).1
        have M := Aside0.mk hm
        clear hm p0 p1 t0 r0
        go_wp2_with fail
        go_ret
        obtain ⟨_, _, er, hrc⟩ := row_slice (M.out.pull 3 (by simp)).row
        simp only [Value.slice.injEq, true_and] at er
        have h1 := M.out.tail.tail.tail
        exact ⟨A', c', items, rfl, hI.trans HS.out.symm, by omega, (h1.pull 2 (by simp)).tail⟩
end Go.Proofs.Ytkonloadedbpkaa.RefH
