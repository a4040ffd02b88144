/- ShareAll. -/
import Derived.Test.YtkonloadedbpkaaZ8
import Derived.Test.YtkonloadedbpkaaZ0
import Derived.Test.YtkonloadedbpkaaZ4
import Derived.Test.YtkonloadedbpkaaWLast
import Derived.Deep.AppendLies
import Derived.Deep.RegionHeld3
import Derived.Deep.DeepCutAuto
import Derived.Deep.DrawnRows
import Derived.Test.YtkonloadedbpkaaZ5
import Derived.Laws.EntriesVeiled
namespace Go.Proofs.Ytkonloadedbpkaa.ShareP
open Go.Proofs.Ytkonloadedbpkaa.FoldPure Go.Proofs.Ytkonloadedbpkaa.KindsP Go.Proofs.Ytkonloadedbpkaa.KindsS Go.Proofs.Ytkonloadedbpkaa.FMaps
set_option linter.unusedVariables false

structure ShS where
  place : Nat → Option Nat
  out : List Nd
def nodeAt (l : List Nd) (i : Nat) : Nd := l.getD i (ByteArray.empty, [])
theorem nodeAt_eq {l : List Nd} {i : Nat} (h : i < l.length) : nodeAt l i = l[i] := by
  unfold nodeAt
  rw [List.getD_eq_getElem?_getD, List.getElem?_eq_getElem h]
  rfl
def kidsT (f : Nat → ShS → ShS × Nat) (s : ShS) (ks : List Nat) : ShS × List Nat := ks.foldl (fun p j => ((f j p.1).1, p.2 ++ [(f j p.1).2])) (s, [])
def putT (s : ShS) (n : Nat) (x : Nd) : ShS := ⟨upd s.place n s.out.length, s.out ++ [x]⟩
def shT (l : List Nd) (kd : List Nat) : Nat → Nat → ShS → ShS × Nat
  | 0, i, s => (s, 0)
  | k + 1, i, s => match s.place (kd.getD i 0) with
    | some a => (s, a)
    | none => (putT (kidsT (shT l kd k) s (nodeAt l i).2).1 (kd.getD i 0) ((nodeAt l i).1, (kidsT (shT l kd k) s (nodeAt l i).2).2), (kidsT (shT l kd k) s (nodeAt l i).2).1.out.length)
theorem kidsT_succ (f : Nat → ShS → ShS × Nat) (s : ShS) (ks : List Nat) {j : Nat} (h : j < ks.length) :
    kidsT f s (ks.take (j + 1)) = ((f ks[j] (kidsT f s (ks.take j)).1).1, (kidsT f s (ks.take j)).2 ++ [(f ks[j] (kidsT f s (ks.take j)).1).2]) := by
  unfold kidsT
  rw [List.take_succ_eq_append_getElem h, List.foldl_append]
  rfl
/-- What a fold over the kids keeps. -/
theorem kidsT_inv {f : Nat → ShS → ShS × Nat} (I : ShS → Prop) {ks : List Nat} (hf : ∀ j ∈ ks, ∀ s, I s → I (f j s).1) {s : ShS} (h : I s) : I (kidsT f s ks).1 := by
  unfold kidsT
  have : ∀ (ks' : List Nat) (p : ShS × List Nat), (∀ j ∈ ks', j ∈ ks) → I p.1 → I (ks'.foldl (fun p j => ((f j p.1).1, p.2 ++ [(f j p.1).2])) p).1 := by
    intro ks'
    induction ks' with
    | nil => intro p _ h; exact h
    | cons j ks' ih => intro p hm h; exact ih _ (fun x hx => hm x (by simp [hx])) (hf j (hm j (by simp)) _ h)
  exact this ks (s, []) (fun _ h => h) h
theorem kidsT_len (f : Nat → ShS → ShS × Nat) (s : ShS) (ks : List Nat) : (kidsT f s ks).2.length = ks.length := by
  unfold kidsT
  have : ∀ (ks' : List Nat) (p : ShS × List Nat), (ks'.foldl (fun p j => ((f j p.1).1, p.2 ++ [(f j p.1).2])) p).2.length = p.2.length + ks'.length := by
    intro ks'
    induction ks' with
    | nil => intro p; rfl
    | cons j ks' ih => intro p; rw [List.foldl_cons, ih]; simp; omega
  rw [this]
  simp
theorem shT_grows (l : List Nd) (kd : List Nat) : ∀ (k i : Nat) (s : ShS), ∃ t, (shT l kd k i s).1.out = s.out ++ t := by
  intro k
  induction k with
  | zero => intro i s; exact ⟨[], by simp [shT]⟩
  | succ k ih =>
    intro i s
    unfold shT
    split
    · exact ⟨[], by simp⟩
    · obtain ⟨t, ht⟩ := kidsT_inv (f := shT l kd k) (I := fun s' => ∃ t, s'.out = s.out ++ t) (ks := (nodeAt l i).2) (fun j _ s' ⟨t, ht⟩ => by
        obtain ⟨u, hu⟩ := ih j s'
        exact ⟨t ++ u, by rw [hu, ht, List.append_assoc]⟩) (s := s) ⟨[], by simp⟩
      exact ⟨t ++ [_], by unfold putT; rw [ht, List.append_assoc]⟩
theorem kids_part (l : List Nd) (kd : List Nat) (k : Nat) (s : ShS) (ks : List Nat) (j : Nat) : (kidsT (shT l kd k) s (ks.take j)).1.out.length ≤ (kidsT (shT l kd k) s ks).1.out.length := by
  have h : kidsT (shT l kd k) s ks = (ks.drop j).foldl (fun p j => ((shT l kd k j p.1).1, p.2 ++ [(shT l kd k j p.1).2])) (kidsT (shT l kd k) s (ks.take j)) := by
    unfold kidsT
    rw [← List.foldl_append, List.take_append_drop]
  rw [h]
  have : ∀ (ks' : List Nat) (p : ShS × List Nat), p.1.out.length ≤ (ks'.foldl (fun p j => ((shT l kd k j p.1).1, p.2 ++ [(shT l kd k j p.1).2])) p).1.out.length := by
    intro ks'
    induction ks' with
    | nil => intro p; exact Nat.le_refl _
    | cons j ks' ih =>
      intro p
      refine Nat.le_trans ?_ (ih _)
      obtain ⟨t, ht⟩ := shT_grows l kd k j p.1
      simp only
      rw [ht, List.length_append]
      omega
  exact this _ _
/-- Numbers of kids are less than the node's own. -/
def StrictN (l : List Nd) (kd : List Nat) : Prop := ∀ i (hi : i < l.length), ∀ k ∈ l[i].2, kd.getD k 0 < kd.getD i 0
theorem shT_far {l : List Nd} {kd : List Nat} (hS : StrictN l kd) (hv : Valid l) : ∀ (k i : Nat) (s : ShS) (n : Nat), i < l.length → kd.getD i 0 < n → (shT l kd k i s).1.place n = s.place n := by
  intro k
  induction k with
  | zero => intro i s n _ _; rfl
  | succ k ih =>
    intro i s n hi hn
    unfold shT
    split
    · rfl
    · unfold putT
      simp only
      unfold upd
      rw [if_neg (by omega)]
      refine kidsT_inv (I := fun s' => s'.place n = s.place n) (fun j hj s' hs' => ?_) rfl
      rw [nodeAt_eq hi] at hj
      have h1 := hv i l[i] (List.getElem?_eq_getElem hi) j hj
      have h2 := hS i hi j hj
      rw [ih j s' n (by omega) (by omega)]
      exact hs'
theorem kids_far {l : List Nd} {kd : List Nat} (hS : StrictN l kd) (hv : Valid l) (k i : Nat) (s : ShS) (hi : i < l.length) : (kidsT (shT l kd k) s l[i].2).1.place (kd.getD i 0) = s.place (kd.getD i 0) := by
  refine kidsT_inv (I := fun s' => s'.place (kd.getD i 0) = s.place (kd.getD i 0)) (fun j hj s' hs' => ?_) rfl
  have h1 := hv i l[i] (List.getElem?_eq_getElem hi) j hj
  rw [shT_far hS hv k j s' _ (by omega) (hS i hi j hj)]
  exact hs'
end Go.Proofs.Ytkonloadedbpkaa.ShareP

namespace Go.Proofs.Ytkonloadedbpkaa.ShareW
open Go.RowKit Go.Maps Go.Proofs.Ytkonloadedbpkaa.Sep Go.Proofs.Ytkonloadedbpkaa.FMaps Go.Proofs.Ytkonloadedbpkaa.FoldPure Go.Proofs.Ytkonloadedbpkaa.FoldMem Go.Proofs.Ytkonloadedbpkaa.Gather Go.Proofs.Ytkonloadedbpkaa.KindsP Go.Proofs.Ytkonloadedbpkaa.KindsS Go.Proofs.Ytkonloadedbpkaa.ShareP Go.Proofs.Ytkonloadedbpkaa.NodesMem Go.Proofs.Ytkonloadedbpkaa.NodeMem Go.Proofs.Ytkonloadedbpkaa.KindsW Go.Proofs.Ytkonloadedbpkaa.TreeW
open Go.Proofs.YtkonloadedbpkaaW.PrintWords
open Go.Proofs.YtkonloadedbpkaaW.PrintLast
set_option linter.unusedVariables false
set_option linter.unusedSimpArgs false
attribute [local go_sem ↓] Go.wp_at_zero Go.wp_at_succ
set_option maxRecDepth 100000

/-- What Share's closure has captured and does not write. -/
structure ShC (A : Option Addr) (l : List Nd) (kd : List Nat) (c kb nb pb lb vb ob mp : Nat) (w : World) : Prop where
  ckb : w.cell? ⟨kb, 0, none⟩ = some (.slice (some ⟨nb, 0, none⟩) l.length l.length)
  cks : ∀ j (h : j < kd.length), w.cell? ⟨nb, j, none⟩ = some (nat kd[j])
  clb : w.cell? ⟨lb, 0, none⟩ = some (.slice A l.length c)
  cnodes : NodesC A l w
  cvb : w.cell? ⟨vb, 0, none⟩ = some (.func (.func 50) #[] #[.pointer (some ⟨pb, 0, none⟩), .pointer (some ⟨kb, 0, none⟩), .pointer (some ⟨lb, 0, none⟩), .pointer (some ⟨vb, 0, none⟩), .pointer (some ⟨ob, 0, none⟩)])
  cpb : w.cell? ⟨pb, 0, none⟩ = some (.map (some mp))
set_option maxHeartbeats 8000000 in
theorem visit_calls {W : World} {A : Option Addr} {l : List Nd} {kd : List Nat} {c kb nb pb lb vb ob mp : Nat} (hl : l.length ≤ 4194304) (hv : Valid l) (he : (l.map (·.2.length)).sum ≤ 4194304) (hkl : kd.length = l.length) (hkd : ∀ n ∈ kd, n ≤ 33554432) (hS : StrictN l kd) :
    ∀ (k i : Nat) (s : ShS) (m co : Nat) (Ao : Option Addr) (items : List PartM) (rs : List Res) (w : World) (C : World → Prop), (∀ w', C w' → ShC A l kd c kb nb pb lb vb ob mp w') → i < k → i < l.length → (shT l kd k i s).1.out.length ≤ 4194304 → items.map nd = s.out → items.length = m →
      Sep W w (readR W C :: mapR mI mp m m s.place :: boxR ob 24 #[.slice Ao m co] :: rowR 27 2 (.slice Ao m co) m (nodeCells items) :: kidsR items :: rs) →
      Calls Try.prog 50 #[.int .i64 (i : Int), .pointer (some ⟨pb, 0, none⟩), .pointer (some ⟨kb, 0, none⟩), .pointer (some ⟨lb, 0, none⟩), .pointer (some ⟨vb, 0, none⟩), .pointer (some ⟨ob, 0, none⟩)] w fun e w' =>
        ∃ (Ao' : Option Addr) (co' : Nat) (items' : List PartM), e = .returned (nat (shT l kd k i s).2) ∧ items'.map nd = (shT l kd k i s).1.out ∧
          Sep W w' (readR W C :: mapR mI mp items'.length items'.length (shT l kd k i s).1.place :: boxR ob 24 #[.slice Ao' items'.length co'] :: rowR 27 2 (.slice Ao' items'.length co') items'.length (nodeCells items') :: kidsR items' :: rs) := by
  intro k
  induction k with
  | zero => intro i _ _ _ _ _ _ _ _ _ h; omega
  | succ k ih =>
    intro i s m co Ao items rs w C hCC hik hi hfin hI hil hM
    have M := Aside0.mk hM
    have HI := Aside0.mk hI
    have HV := Aside0.mk hv
    have HE := Aside0.mk he
    have HKD := Aside0.mk hkd
    have HS := Aside0.mk hS
    have HCC := Aside0.mk hCC
    clear hM hI hv he hkd hS hCC
    have hki : i < kd.length := by omega
    have hkg : kd.getD i 0 = kd[i] := by rw [List.getD_eq_getElem?_getD, List.getElem?_eq_getElem hki]; rfl
    have hC := HCC.out _ (read_at M.out)
    have p0 := hC.cpb
    have k0 := hC.ckb
    have kx : w.cell? ⟨nb, i, none⟩ = some (.int .i64 (kd[i] : Int)) := hC.cks i hki
    clear hC
    have hnle := HKD.out kd[i] (List.getElem_mem hki)
    have hlook := fun n => (map_at ((M.out.drawn (w' := w.drewN n) ⟨n, rfl⟩).pull 1 (by simp))).look (m := mI) (s := kd[i]) (by show kd[i] ≤ _; omega)
    cases hpl : s.place kd[i] with
    | some a =>
      rw [hpl] at hlook
      replace hlook : ∀ n, (Instr.lookup 82 (.map (some mp)) (.int .i64 (kd[i] : Int)) true).run Try.prog (w.drewN n) = .ok (.tuple #[.int .i64 (a : Int), .bool true]) (w.drewN n) := hlook
      have hsh : shT l kd (k + 1) i s = (s, a) := by rw [shT, hkg, hpl]
      have HSH := Aside0.mk hsh
      clear hsh hfin
      generalize kd[i] = n at kx hnle hlook hpl hkg
      go_enter Try.func50, Try.ntmps50
      go_wp2_with fail
      go_quiet (fail)
      go_wp2_with fail
      go_ret
      rw [HSH.out]
      subst hil
      exact ⟨Ao, co, items, rfl, HI.out, M.out.drawn ⟨_, rfl⟩⟩
    | none =>
      rw [hpl] at hlook
      replace hlook : ∀ n, (Instr.lookup 82 (.map (some mp)) (.int .i64 (kd[i] : Int)) true).run Try.prog (w.drewN n) = .ok (.tuple #[.int .i64 0, .bool false]) (w.drewN n) := hlook
      have hsh : shT l kd (k + 1) i s = (putT (kidsT (shT l kd k) s l[i].2).1 kd[i] (l[i].1, (kidsT (shT l kd k) s l[i].2).2), (kidsT (shT l kd k) s l[i].2).1.out.length) := by
        rw [shT, hkg, hpl, nodeAt_eq hi]
      have hfar := kids_far HS.out HV.out k i s hi
      rw [hkg, hpl] at hfar
      have hfin3 : (kidsT (shT l kd k) s l[i].2).1.out.length + 1 ≤ 4194304 := by
        rw [hsh] at hfin
        simpa [putT] using hfin
      have HSH := Aside0.mk hsh
      have HFar := Aside0.mk hfar
      clear hsh hfin hfar hkg
      generalize hkn : kd[i] = n at kx hnle hlook hpl HSH HFar
      have HKN := Aside0.mk hkn.symm
      clear hkn
      go_enter Try.func50, Try.ntmps50
      go_wp2_with fail
      go_quiet (fail)
      clear hlook
      have M2 := M.out.drawn (w' := w.drewN nq) ⟨nq, rfl⟩
      generalize w.drewN nq = wo at M2 ⊢
      clear M p0 k0 kx hpl
      have M := Aside0.mk M2
      clear M2
      have hC := HCC.out _ (read_at M.out)
      have lb0 := hC.clb
      obtain ⟨ad, Ak, ck, rfl, x0, x1, hck, hCk⟩ := node_at hC.cnodes hi
      clear hC hCk
      have hkle := kids_le HE.out hi
      have hbx := box_fresh (at_ M.out 0 (by simp) (fun _ h => read_cell h _ (fun w' hc => nodes_cell hi (HCC.out w' hc).cnodes) x1)) 27 #[.string l[i].1, .slice none 0 0]
      have hbx2 := row_nil (hbx.perm (List.perm_middle (l₁ := [_, _, _, _, _]) (l₂ := rs)).symm) 3 1
      have hbx3 := hbx2.perm (List.perm_middle (l₁ := [_, _, _, _, _, _]) (l₂ := rs)).symm
      have hlt1 := World.block_lt_of_cell? _ _ x1
      have lb1 := World.block_lt_of_cell? _ _ lb0
      clear M hbx hbx2
      have M := Aside0.mk hbx3
      clear hbx3
      have hbd := build27
      go_wp2_with fail
      obtain ⟨i3, hi3, hz03, hz13, hz23⟩ := info_parts info3
      have Hi3 := Aside0.mk hi3
      have Hz03 := Aside0.mk hz03
      have Hz13 := Aside0.mk hz13
      have Hz23 := Aside0.mk hz23
      clear hi3 hz03 hz13 hz23
      go_loopw [36] (fun v36 wq => ∃ (j m c12 co : Nat) (A12 Ao : Option Addr) (items : List PartM), j ≤ l[i].2.length ∧ v36 = .int .i64 j ∧ items.length = m ∧ Aside0 (items.map nd = (kidsT (shT l kd k) s (l[i].2.take j)).1.out) ∧
        Aside0 (Sep W wq (readR W (fun w' => C w' ∧ w'.cell? ⟨(ad.add (i * 2)).block, (ad.add (i * 2)).off + 1, none⟩ = some (.slice Ak l[i].2.length ck)) :: mapR mI mp m m (kidsT (shT l kd k) s (l[i].2.take j)).1.place :: boxR ob 24 #[.slice Ao m co] :: rowR 27 2 (.slice Ao m co) m (nodeCells items) :: kidsR items ::
          boxR wo.heap.size 27 #[.string l[i].1, .slice A12 j c12] :: rowR 3 1 (.slice A12 j c12) j ((kidsT (shT l kd k) s (l[i].2.take j)).2.map nat) :: rs))) (fun v36 _ => l[i].2.length - (intOf v36).toNat)
      case atStart => exact ⟨0, m, 0, co, none, Ao, items, by omega, rfl, hil, HI, M⟩
      case round =>
        clear M HI hil x0 x1 lb0 hlt1 lb1
        obtain ⟨j, m, c12, co, A12, Ao, items, hj, rfl, hil, HI, M⟩ := hrel
        by_cases hjl : j < l[i].2.length
        · obtain ⟨hC, hNx⟩ := read_at M.out
          obtain ⟨ak, rfl, hk0⟩ := kid_at (kids_of (HCC.out _ hC).cnodes hi hNx) rfl hjl
          have hkid := HV.out i l[i] (List.getElem?_eq_getElem hi) _ (List.getElem_mem hjl)
          have hkk : l[i].2[j] < k := by omega
          have hsucc := kidsT_succ (shT l kd k) s l[i].2 hjl
          have hfin2 : (shT l kd k l[i].2[j] (kidsT (shT l kd k) s (l[i].2.take j)).1).1.out.length ≤ 4194304 := by
            have h1 := kids_part l kd k s l[i].2 (j + 1)
            rw [hsucc] at h1
            simp only at h1
            omega
          have Hsucc := Aside0.mk hsucc
          have q1 : wr.cell? ⟨wo.heap.size, 1, none⟩ = some (.slice A12 j c12) := (box_cell (M.out.pull 5 (by simp)) (j := 1) rfl).1
          have q2 := (HCC.out _ hC).cvb
          clear hsucc hC hNx
          generalize hsj : (kidsT (shT l kd k) s (l[i].2.take j)).1 = sj at M HI hfin2 Hsucc
          generalize hks : (kidsT (shT l kd k) s (l[i].2.take j)).2 = ks at M Hsucc
          have HSJ := Aside0.mk hsj
          have HKS := Aside0.mk hks
          clear hsj hks
          replace hk0 : wr.cell? (ak.add j) = some (.int .i64 (l[i].2[j] : Int)) := hk0
          go_wp2_with fail
          refine start_ (n := 9) (S := fun w' => w'.cell? ⟨wo.heap.size, 1, none⟩ = some (.slice A12 j c12) ∧ w'.cell? ⟨vb, 0, none⟩ = some (.func (.func 50) #[] #[.pointer (some ⟨pb, 0, none⟩), .pointer (some ⟨kb, 0, none⟩), .pointer (some ⟨lb, 0, none⟩), .pointer (some ⟨vb, 0, none⟩), .pointer (some ⟨ob, 0, none⟩)])) (ds := [8]) #[false, false, false, false, false, false, false, false, false] (by kernel_rfl) rfl rfl ⟨q1, q2⟩ (fun hHeld => ?_)
          refine pure_ (i := 0) (N := some 40) (v := ?_) (a' := ?_) #[true, false, false, false, false, false, false, false, false] rfl rfl (by kernel_rfl) (fun _ _ _ h => h) (Or.inl ⟨by rfl, ?_⟩) ?_ ?_
          rotate_left
          · intro w'
            go_simp
            with_reducible rfl
          rotate_left
          · simp only [Act.put, List.setIfInBounds_toArray, List.set_cons_zero, List.set_cons_succ, i64_w, i32_w]
            rfl
          refine take_ (i := 1) (N := some 41) (v := ?_) (a' := ?_) #[true, true, false, false, false, false, false, false, false] rfl rfl (by kernel_rfl) (fun _ _ _ h => h) (Or.inl ⟨by rfl, ?_⟩) hHeld ?_ ?_
          rotate_left
          · rintro w' ⟨s0, s1⟩
            go_simp
            with_reducible rfl
          rotate_left
          · simp only [Act.put, List.setIfInBounds_toArray, List.set_cons_zero, List.set_cons_succ, i64_w, i32_w]
            rfl
          refine take_ (i := 2) (N := some 42) (v := ?_) (a' := ?_) #[true, true, true, false, false, false, false, false, false] rfl rfl (by kernel_rfl) (fun _ _ _ h => h) (Or.inl ⟨by rfl, ?_⟩) hHeld ?_ ?_
          rotate_left
          · rintro w' ⟨s0, s1⟩
            go_simp
            with_reducible rfl
          rotate_left
          · simp only [Act.put, List.setIfInBounds_toArray, List.set_cons_zero, List.set_cons_succ, i64_w, i32_w]
            rfl
          refine pure_ (i := 3) (N := some 43) (v := ?_) (a' := ?_) #[true, true, true, true, false, false, false, false, false] rfl rfl (by kernel_rfl) (fun _ _ _ h => h) (Or.inl ⟨by rfl, ?_⟩) ?_ ?_
          rotate_left
          · intro w'
            go_simp
            with_reducible rfl
          rotate_left
          · simp only [Act.put, List.setIfInBounds_toArray, List.set_cons_zero, List.set_cons_succ, i64_w, i32_w]
            rfl
          refine one_ (i := 4) (N := some 44) #[true, true, true, true, true, false, false, false, false] rfl rfl (by kernel_rfl) (by decide) (fun K hK => ?_)
          rw [if_pos (by rfl)]
          go_simp
          refine (ih l[i].2[j] sj m co Ao items _ _ _ (fun w' hc => HCC.out w' hc.1) hkk (by omega) hfin2 HI.out hil (M.out.drawn (w' := wr.drew) ⟨1, rfl⟩)).mono ?_
          rintro e w5 ⟨Ao5, co5, items5, rfl, hI5, hm5⟩
          clear M q1 q2
          have M := Aside0.mk hm5
          have HI5 := Aside0.mk hI5
          clear hm5 hI5
          have q1 : w5.cell? ⟨wo.heap.size, 1, none⟩ = some (.slice A12 j c12) := (box_cell (M.out.pull 5 (by simp)) (j := 1) rfl).1
          have q2 := (HCC.out _ (read_at M.out).1).cvb
          have l1 : wo.heap.size < w5.heap.size := World.block_lt_of_cell? _ _ q1
          have l2 : vb < w5.heap.size := World.block_lt_of_cell? _ _ q2
          have g1 : (Value.slice A12 j c12).ownBlock ≠ some wo.heap.size := ne_row ((M.out.pull 6 (by simp)).pull 6 (by simp))
          have hown := (M.out.pull 6 (by simp)).row
          have Hown := Aside0.mk hown
          clear hown
          refine hK.out _ _ ⟨q1, q2⟩ (fun hHeld => ?_)
          clear hK K
          refine one_ (i := 5) (N := some 45) #[true, true, true, true, true, true, false, false, false] rfl rfl (by kernel_rfl) (by decide) (fun K hK => ?_)
          refine value_ (w1 := ?_) (v := ?_) (by rfl) rfl ?_ ?_
          rotate_left
          rotate_left
          · go_simp
            first
              | (refine ⟨?_, ?_⟩ <;> rfl)
              | rfl
          refine hK.out _ _ ⟨?_, ?_⟩ (fun hHeld => ?_)
          · exact (cell_far (a := ⟨wo.heap.size, 1, none⟩) (World.grownBy_alloc w5 (.cells #[nat ((shT l kd k l[i].2[j] sj).2)] 3) none |>.block wo.heap.size l1 (by simp))).1.trans q1
          · exact (cell_far (a := ⟨vb, 0, none⟩) (World.grownBy_alloc w5 (.cells #[nat ((shT l kd k l[i].2[j] sj).2)] 3) none |>.block vb l2 (by simp))).1.trans q2
          clear hK K
          refine one_ (i := 6) (N := some 46) #[true, true, true, true, true, true, true, false, false] rfl rfl (by kernel_rfl) (by decide) (fun K hK => ?_)
          refine step_append_lies _ rfl _ _ _ rfl 0 3 i3 _ 1 8 Try.underlying25 Hi3.out Hz03.out Hz13.out Hz23.out rfl (by omega) (.slice A12 j c12) j (ks.map nat) rfl (Hown.out.alloc _)
            ⟨w5.heap.size, 0, none⟩ 1 1 [nat ((shT l kd k l[i].2[j] sj).2)] rfl rfl (World.news_of_block (cs := #[nat ((shT l kd k l[i].2[j] sj).2)]) (t := 3) (fr := (0, 0)) (heap_alloc_new w5 _)) (by simp [Value.oneCell', nat])
            (by omega) (by unfold maxLen; omega) (by omega) (Nat.zero_le _) (w5.heap.size + 1) (by simp) ?_
          intro gg cap w4 hown4 hgrow hat hlt4
          have hm6 := (M.out.pull 6 (by simp)).alloc (.cells #[nat ((shT l kd k l[i].2[j] sj).2)] 3)
          have hm7 := hm6.appended hown4 hgrow (by
            rcases hat with hat | hat
            · exact .inl hat.symm
            · refine .inr ?_
              rw [World.size_alloc]
              show some gg = _
              rw [hat])
          clear M
          have M := Aside0.mk hm7
          clear hm6 hm7 hown4 hgrow hat
          have q1 : w4.cell? ⟨wo.heap.size, 1, none⟩ = some (.slice A12 j c12) := (box_cell (M.out.pull 6 (by simp)) (j := 1) rfl).1
          have qf1 := (box_cell (M.out.pull 6 (by simp)) (j := 1) rfl).2
          have q2 := (HCC.out _ (read_at (M.out.pull 1 (by simp))).1).cvb
          refine hK.out _ _ ⟨q1, q2⟩ (fun hHeld => ?_)
          clear hK K
          refine pure_ (i := 7) (N := some 47) (v := ?_) (a' := ?_) #[true, true, true, true, true, true, true, true, false] rfl rfl (by kernel_rfl) (fun _ _ _ h => h) (Or.inl ⟨by rfl, ?_⟩) ?_ ?_
          rotate_left
          · intro w'
            go_simp
            with_reducible rfl
          rotate_left
          · simp only [Act.put, List.setIfInBounds_toArray, List.set_cons_zero, List.set_cons_succ, i64_w, i32_w]
            rfl
          refine last_ (i := 8) (N := none) #[true, true, true, true, true, true, true, true, true] rfl rfl (by kernel_rfl) (by decide) (fun K hK => ?_)
          refine skip_ (w1 := ?_) (by rfl) rfl ?_ ?_
          rotate_left
          · go_simp
            rfl
          refine hK.out _ _ ?_
          clear hK K
          refine done_ (by kernel_rfl) ?_
          have hm8 := at_ M.out 6 (by simp) (fun rs h => box_set h 1 (.slice (some ⟨gg, 0, none⟩) (j + 1) cap))
          have hm9 := hm8.perm (List.perm_middle (l₁ := [_, _, _, _, _, _]) (l₂ := rs)).symm
          clear M
          have M := Aside0.mk hm9
          clear hm8 hm9
          go_wp2_with fail
          go_roundw
          case rel => exact ⟨j + 1, items5.length, cap, co5, some ⟨gg, 0, none⟩, Ao5, items5, by omega, by go_num, rfl, ⟨by rw [Hsucc.out]; exact HI5.out⟩, ⟨by
            rw [Hsucc.out]
            simp only
            rw [List.map_append]
            exact M.out⟩⟩
          case measure => simp [intOf]; omega
        · have hje : j = l[i].2.length := by omega
          subst hje
          obtain ⟨hC, hNx⟩ := read_at M.out
          have p0 := (HCC.out _ hC).cpb
          have k0 := (HCC.out _ hC).ckb
          have kx : wr.cell? ⟨nb, i, none⟩ = some (.int .i64 (n : Int)) := by
            rw [HKN.out]
            exact (HCC.out _ hC).cks i hki
          have ho : wr.cell? ⟨ob, 0, none⟩ = some (.slice Ao m co) := (box_cell (M.out.pull 2 (by simp)) (j := 0) rfl).1
          have htl : l[i].2.take l[i].2.length = l[i].2 := List.take_length
          have hMM := M.out
          have hHI := HI.out
          rw [htl] at hMM hHI
          have hml : m = (kidsT (shT l kd k) s l[i].2).1.out.length := by
            have := congrArg List.length hHI
            rw [List.length_map] at this
            omega
          clear M HI hC hNx htl
          have M := Aside0.mk hMM
          have HI := Aside0.mk hHI
          have HML := Aside0.mk hml
          have hmle : m + 1 ≤ 4194304 := by omega
          clear hMM hHI hml hfin3
          go_wp2_with fail
          go_still_tail 7, (by kernel_rfl)
          change wpList _ _ _ _ _ wr.drew
          have M3 := M.out.drawn (w' := wr.drew) ⟨1, rfl⟩
          refine wp_store (m := mI) (s := n) (v := m) rfl _ _ _ rfl rfl rfl rfl (map_at (M3.pull 1 (by simp))) (by show n ≤ _; omega) HFar.out (by unfold maxLen; omega) (by omega) ?_
          intro w4 hm4 hg4
          have hM4 := at_ M3 1 (by simp) (fun rs h => map_turn h hm4 hg4)
          clear M M3 hm4 hg4 p0 k0 kx ho
          have M := Aside0.mk hM4
          clear hM4
          obtain ⟨ho, hof⟩ : w4.cell? ⟨ob, 0, none⟩ = some (.slice Ao m co) ∧ _ := box_cell (M.out.pull 2 (by simp)) (j := 0) rfl
          obtain ⟨x0, _⟩ : w4.cell? ⟨wo.heap.size, 0, none⟩ = some (.string l[i].1) ∧ _ := box_cell (M.out.pull 5 (by simp)) (j := 0) rfl
          obtain ⟨x1, _⟩ : w4.cell? ⟨wo.heap.size, 1, none⟩ = some (.slice A12 l[i].2.length c12) ∧ _ := box_cell (M.out.pull 5 (by simp)) (j := 1) rfl
          go_wp2_with (at_builtin; refine wp_node ((M.out.pull 3 (by simp)).alloc (.cells #[.string l[i].1, .slice A12 l[i].2.length c12] 27)) rfl (.tmp 56) (.tmp 58) rfl rfl rfl (box_at (box_fresh M.out 27 #[.string l[i].1, .slice A12 l[i].2.length c12])) rfl rfl (by omega) ?_; intro A6 c6 w6 hc6 hm6; clear M ho hof x0 x1; have M := Aside0.mk hm6; clear hm6; obtain ⟨ho, hof⟩ : w6.cell? ⟨ob, 0, none⟩ = some (.slice Ao m co) ∧ w6.frozen? ⟨ob, 0, none⟩ = false := box_cell (M.out.pull 3 (by simp)) (j := 0) rfl)
          have hb := at_ M.out 3 (by simp) (fun rs h => box_set h 0 (.slice A6 (m + 1) c6))
          have hb2 := ((hb.pull 6 (by simp)).pull 5 (by simp)).pull 2 (by simp)
          have hb3 := item_more (items := items) (q := ⟨⟨l[i].1, (kidsT (shT l kd k) s l[i].2).2, 0⟩, 0, A12, c12⟩) (v := .slice A6 (m + 1) c6) (rs := readR W (fun w' => C w' ∧ w'.cell? ⟨(ad.add (i * 2)).block, (ad.add (i * 2)).off + 1, none⟩ = some (.slice Ak l[i].2.length ck)) :: mapR mI mp (m + 1) (m + 1) (upd (kidsT (shT l kd k) s l[i].2).1.place n m) :: boxR ob 24 #[.slice A6 (m + 1) c6] :: boxR wo.heap.size 27 #[.string l[i].1, .slice A12 l[i].2.length c12] :: rs) (by
            simp only [PartM.kv, kidsT_len, hil]
            exact hb2)
          have hlen : (items ++ [(⟨⟨l[i].1, (kidsT (shT l kd k) s l[i].2).2, 0⟩, 0, A12, c12⟩ : PartM)]).length = m + 1 := by simp [hil]
          rw [hlen] at hb3
          have hb4 := (((((hb3.pull 5 (by simp)).tail).pull 4 (by simp)).pull 4 (by simp)).pull 4 (by simp)).told (r := readR W C) (fun f hf w' h1 h2 => (hf w' h1 h2).1)
          clear hb hb2 hb3
          go_ret
          rw [HSH.out]
          refine ⟨A6, c6, items ++ [⟨⟨l[i].1, (kidsT (shT l kd k) s l[i].2).2, 0⟩, 0, A12, c12⟩], ?_, ?_, ?_⟩
          · show Ending.returned (.int .i64 (m : Int)) = .returned (nat (kidsT (shT l kd k) s l[i].2).1.out.length)
            rw [← HML.out]
            rfl
          · rw [List.map_append, HI.out]
            rfl
          · rw [hlen]
            unfold putT
            rw [← HML.out]
            exact hb4
end Go.Proofs.Ytkonloadedbpkaa.ShareW

namespace Go.Proofs.Ytkonloadedbpkaa.ShareQ
open Go.Proofs.Ytkonloadedbpkaa.FoldPure Go.Proofs.Ytkonloadedbpkaa.KindsP Go.Proofs.Ytkonloadedbpkaa.KindsS Go.Proofs.Ytkonloadedbpkaa.ShareP Go.Proofs.Ytkonloadedbpkaa.FMaps
set_option linter.unusedVariables false

structure Ext (s s' : ShS) : Prop where
  out : ∃ t, s'.out = s.out ++ t
  place : ∀ n p, s.place n = some p → s'.place n = some p
theorem Ext.refl (s : ShS) : Ext s s := ⟨⟨[], by simp⟩, fun _ _ h => h⟩
theorem Ext.trans {a b c : ShS} (h : Ext a b) (k : Ext b c) : Ext a c := by
  obtain ⟨t, ht⟩ := h.out
  obtain ⟨u, hu⟩ := k.out
  exact ⟨⟨t ++ u, by rw [hu, ht, List.append_assoc]⟩, fun n p hp => k.place n p (h.place n p hp)⟩
theorem Ext.get {s s' : ShS} (h : Ext s s') {p : Nat} {x : Nd} (hp : s.out[p]? = some x) : s'.out[p]? = some x := by
  obtain ⟨t, ht⟩ := h.out
  rw [ht, List.getElem?_append_left (List.getElem?_eq_some_iff.1 hp).1]
  exact hp
theorem Ext.len {s s' : ShS} (h : Ext s s') : s.out.length ≤ s'.out.length := by
  obtain ⟨t, ht⟩ := h.out
  rw [ht, List.length_append]
  omega
def placesOf (kd : List Nat) (s : ShS) (ks : List Nat) : List (Option Nat) := ks.map (fun k => s.place (kd.getD k 0))
theorem places_mono {kd : List Nat} {s s' : ShS} (h : ∀ n p, s.place n = some p → s'.place n = some p) : ∀ {ks ps : List Nat}, placesOf kd s ks = ps.map some → placesOf kd s' ks = ps.map some
  | [], ps, e => by simpa [placesOf] using e
  | k :: ks, ps, e => by
    cases ps with
    | nil => simp [placesOf] at e
    | cons p ps =>
      simp only [placesOf, List.map_cons, List.cons.injEq] at e ⊢
      exact ⟨h _ _ e.1, places_mono h e.2⟩
structure InvS (l : List Nd) (kd : List Nat) (s : ShS) : Prop where
  here : ∀ i (hi : i < l.length) p, s.place (kd.getD i 0) = some p → ∃ x, s.out[p]? = some x ∧ x.1 = l[i].1 ∧ placesOf kd s l[i].2 = x.2.map some ∧ ∀ q ∈ x.2, q < p
  from_ : ∀ p, p < s.out.length → ∃ i, i < l.length ∧ s.place (kd.getD i 0) = some p
  inj : ∀ n m p, s.place n = some p → s.place m = some p → n = m
  dom : ∀ n p, s.place n = some p → ∃ i, i < l.length ∧ kd.getD i 0 = n
theorem InvS.lt {l : List Nd} {kd : List Nat} {s : ShS} (h : InvS l kd s) {n p : Nat} (hp : s.place n = some p) : p < s.out.length := by
  obtain ⟨i, hi, rfl⟩ := h.dom n p hp
  obtain ⟨x, hx, _⟩ := h.here i hi p hp
  exact (List.getElem?_eq_some_iff.1 hx).1
theorem inv_start (l : List Nd) (kd : List Nat) : InvS l kd ⟨fun _ => none, []⟩ := ⟨fun i hi p h => by simp at h, fun p h => by simp at h, fun n m p h => by simp at h, fun n p h => by simp at h⟩
/-- Same numbers: same labels, same kids' numbers. -/
def Kinds (l : List Nd) (kd : List Nat) : Prop := ∀ i j (hi : i < l.length) (hj : j < l.length), kd.getD i 0 = kd.getD j 0 → l[i].1 = l[j].1 ∧ kidsK kd l[i] = kidsK kd l[j]
theorem places_kids {l : List Nd} {kd : List Nat} {s : ShS} {i j : Nat} (hi : i < l.length) (hj : j < l.length) (h : kidsK kd l[i] = kidsK kd l[j]) : placesOf kd s l[i].2 = placesOf kd s l[j].2 := by
  have e : ∀ x : Nd, placesOf kd s x.2 = (kidsK kd x).map s.place := fun x => by simp [placesOf, kidsK]
  rw [e, e, h]
theorem inv_put {l : List Nd} {kd : List Nat} {s : ShS} {i : Nat} {ps : List Nat} (hK : Kinds l kd) (hS : StrictN l kd) (h : InvS l kd s) (hi : i < l.length) (hn : s.place (kd.getD i 0) = none) (hps : placesOf kd s l[i].2 = ps.map some) :
    InvS l kd (putT s (kd.getD i 0) (l[i].1, ps)) ∧ Ext s (putT s (kd.getD i 0) (l[i].1, ps)) := by
  have hmono : ∀ n p, s.place n = some p → (putT s (kd.getD i 0) (l[i].1, ps)).place n = some p := by
    intro n p hp
    show upd _ _ _ _ = _
    unfold upd
    rw [if_neg]
    · exact hp
    · rintro rfl
      rw [hn] at hp
      cases hp
  have hext : Ext s (putT s (kd.getD i 0) (l[i].1, ps)) := ⟨⟨_, rfl⟩, hmono⟩
  have hpq : ∀ q ∈ ps, q < s.out.length := by
    intro q hq
    have : some q ∈ placesOf kd s l[i].2 := by rw [hps]; exact List.mem_map_of_mem hq
    obtain ⟨k, _, hk⟩ := List.mem_map.1 this
    exact h.lt hk
  have hplace : ∀ n p, (putT s (kd.getD i 0) (l[i].1, ps)).place n = some p → (n = kd.getD i 0 ∧ p = s.out.length) ∨ (n ≠ kd.getD i 0 ∧ s.place n = some p) := by
    intro n p hp
    change upd _ _ _ _ = _ at hp
    unfold upd at hp
    split at hp
    · exact .inl ⟨by assumption, (Option.some.inj hp).symm⟩
    · exact .inr ⟨by assumption, hp⟩
  refine ⟨⟨fun j hj p hp => ?_, fun p hp => ?_, fun n m p h1 h2 => ?_, fun n p hp => ?_⟩, hext⟩
  · rcases hplace _ _ hp with ⟨e, rfl⟩ | ⟨_, hp⟩
    · obtain ⟨e1, e2⟩ := hK j i hj hi e
      refine ⟨(l[i].1, ps), ?_, e1.symm, ?_, hpq⟩
      · show (s.out ++ [_])[s.out.length]? = _
        simp
      · rw [places_kids hj hi e2]
        exact places_mono hmono hps
    · obtain ⟨x, h1, h2, h3, h4⟩ := h.here j hj p hp
      exact ⟨x, hext.get h1, h2, places_mono hmono h3, h4⟩
  · have : p < s.out.length + 1 := by simpa [putT] using hp
    by_cases e : p = s.out.length
    · subst e
      refine ⟨i, hi, ?_⟩
      show upd _ _ _ _ = _
      unfold upd
      rw [if_pos rfl]
    · obtain ⟨j, hj, hjp⟩ := h.from_ p (by omega)
      exact ⟨j, hj, hmono _ _ hjp⟩
  · rcases hplace _ _ h1 with ⟨e1, e2⟩ | ⟨_, h1⟩ <;> rcases hplace _ _ h2 with ⟨e3, e4⟩ | ⟨_, h2⟩
    · rw [e1, e3]
    · have := h.lt h2
      omega
    · have := h.lt h1
      omega
    · exact h.inj n m p h1 h2
  · rcases hplace _ _ hp with ⟨e, _⟩ | ⟨_, hp⟩
    · exact ⟨i, hi, e.symm⟩
    · exact h.dom n p hp
/-- What a visit does. -/
structure Vis (l : List Nd) (kd : List Nat) (i : Nat) (s : ShS) (r : ShS × Nat) : Prop where
  ext : Ext s r.1
  inv : InvS l kd r.1
  at_ : r.1.place (kd.getD i 0) = some r.2
  led : ∀ p, s.out.length ≤ p → p < r.1.out.length → p = r.2 ∨ ∃ x ∈ r.1.out, p ∈ x.2
  last : s.place (kd.getD i 0) = none → r.2 + 1 = r.1.out.length
structure VisK (l : List Nd) (kd : List Nat) (ks : List Nat) (s : ShS) (r : ShS × List Nat) : Prop where
  ext : Ext s r.1
  inv : InvS l kd r.1
  at_ : placesOf kd r.1 ks = r.2.map some
  led : ∀ p, s.out.length ≤ p → p < r.1.out.length → p ∈ r.2 ∨ ∃ x ∈ r.1.out, p ∈ x.2
theorem vis_kids {l : List Nd} {kd : List Nat} {f : Nat → ShS → ShS × Nat} {ks : List Nat} {s : ShS} (h : InvS l kd s) (hf : ∀ k ∈ ks, ∀ s, InvS l kd s → Vis l kd k s (f k s)) : ∀ j, j ≤ ks.length → VisK l kd (ks.take j) s (kidsT f s (ks.take j)) := by
  intro j
  induction j with
  | zero => exact fun _ => ⟨Ext.refl s, h, by simp [placesOf, kidsT], fun p h1 h2 => by simp [kidsT] at h2; omega⟩
  | succ j ih =>
    intro hj
    have hlt : j < ks.length := by omega
    have a := ih (by omega)
    have v := hf ks[j] (List.getElem_mem hlt) _ a.inv
    rw [kidsT_succ f s ks hlt, List.take_succ_eq_append_getElem hlt]
    refine ⟨a.ext.trans v.ext, v.inv, ?_, fun p h1 h2 => ?_⟩
    · unfold placesOf
      rw [List.map_append, List.map_append]
      congr 1
      · exact places_mono v.ext.place a.at_
      · simp only [List.map_cons, List.map_nil, List.cons.injEq, and_true]
        exact v.at_
    · rcases Nat.lt_or_ge p (kidsT f s (ks.take j)).1.out.length with hlt2 | hge
      · rcases a.led p h1 hlt2 with h3 | ⟨x, hx, hp⟩
        · exact .inl (List.mem_append_left _ h3)
        · obtain ⟨t, ht⟩ := v.ext.out
          exact .inr ⟨x, by rw [ht]; exact List.mem_append_left _ hx, hp⟩
      · rcases v.led p hge h2 with rfl | h3
        · exact .inl (List.mem_append_right _ (by simp))
        · exact .inr h3
theorem visit {l : List Nd} {kd : List Nat} (hv : Valid l) (hK : Kinds l kd) (hS : StrictN l kd) : ∀ (k i : Nat) (s : ShS), i < k → i < l.length → InvS l kd s → Vis l kd i s (shT l kd k i s) := by
  intro k
  induction k with
  | zero => intro i s h; omega
  | succ k ih =>
    intro i s hik hi h
    unfold shT
    cases hp : s.place (kd.getD i 0) with
    | some a => exact ⟨Ext.refl s, h, hp, fun p h1 h2 => by simp only at h2; omega, fun h => by rw [hp] at h; cases h⟩
    | none =>
      simp only
      rw [nodeAt_eq hi]
      have a := vis_kids (f := shT l kd k) (ks := l[i].2) h (fun j hj s' hs' => by
        have := hv i l[i] (List.getElem?_eq_getElem hi) j hj
        exact ih j s' (by omega) (by omega) hs') l[i].2.length (Nat.le_refl _)
      rw [List.take_length] at a
      have hn : (kidsT (shT l kd k) s l[i].2).1.place (kd.getD i 0) = none := by rw [kids_far hS hv k i s hi]; exact hp
      obtain ⟨h1, h2⟩ := inv_put hK hS a.inv hi hn a.at_
      refine ⟨a.ext.trans h2, h1, ?_, fun p hp1 hp2 => ?_, fun _ => by simp [putT]⟩
      · show upd _ _ _ _ = _
        unfold upd
        rw [if_pos rfl]
      · have hp3 : p < (kidsT (shT l kd k) s l[i].2).1.out.length + 1 := by simpa [putT] using hp2
        by_cases e : p = (kidsT (shT l kd k) s l[i].2).1.out.length
        · exact .inl e
        · right
          rcases a.led p hp1 (by omega) with h3 | ⟨x, hx, hp⟩
          · exact ⟨_, List.mem_append_right _ (List.mem_singleton.2 rfl), h3⟩
          · exact ⟨x, List.mem_append_left _ hx, hp⟩

/-! ### two runs side by side -/
end Go.Proofs.Ytkonloadedbpkaa.ShareQ

namespace Go.Proofs.Ytkonloadedbpkaa.ShareR
open Go.Proofs.Ytkonloadedbpkaa.FoldPure Go.Proofs.Ytkonloadedbpkaa.KindsP Go.Proofs.Ytkonloadedbpkaa.KindsS Go.Proofs.Ytkonloadedbpkaa.ShareP Go.Proofs.Ytkonloadedbpkaa.ShareQ Go.Proofs.Ytkonloadedbpkaa.FMaps Go.Proofs.Ytkonloadedbpkaa.FoldSame
set_option linter.unusedVariables false

theorem kinds_of {l : List Nd} (hv : Valid l) : Kinds l (kN l) := fun i j hi hj h => (kN_eq hv hi hj).1 h
theorem strictN {l : List Nd} (hv : Valid l) : StrictN l (kN l) := fun i hi k hk => kN_strict hv hi k hk
theorem kN_len (l : List Nd) : (kN l).length = l.length := kTo_len l [] l.length
def shareS (l : List Nd) : ShS × Nat := shT l (kN l) l.length (l.length - 1) ⟨fun _ => none, []⟩
def shareN (l : List Nd) : List Nd := (shareS l).1.out
theorem share_vis {l : List Nd} (hv : Valid l) (h0 : 0 < l.length) : Vis l (kN l) (l.length - 1) ⟨fun _ => none, []⟩ (shareS l) :=
  visit hv (kinds_of hv) (strictN hv) l.length (l.length - 1) _ (by omega) (by omega) (inv_start l (kN l))
/-- A node, and what became of it. -/
def Came (l : List Nd) (i p : Nat) : Prop := i < l.length ∧ (shareS l).1.place ((kN l).getD i 0) = some p
theorem came_from {l : List Nd} (hv : Valid l) (h0 : 0 < l.length) {p : Nat} (hp : p < (shareN l).length) : ∃ i, Came l i p := by
  obtain ⟨i, hi, h⟩ := (share_vis hv h0).inv.from_ p hp
  exact ⟨i, hi, h⟩
/-- Two lists of nodes with nodes that are alike: labels the same, kids alike, place by place. -/
def Bis (a b : List Nd) (R : Nat → Nat → Prop) : Prop := ∀ i p, R i p → ∃ (hi : i < a.length) (hp : p < b.length), a[i].1 = b[p].1 ∧ a[i].2.length = b[p].2.length ∧ ∀ t (h1 : t < a[i].2.length) (h2 : t < b[p].2.length), R a[i].2[t] b[p].2[t]
theorem Bis.symm {a b : List Nd} {R : Nat → Nat → Prop} (h : Bis a b R) : Bis b a (fun p i => R i p) := by
  intro p i hr
  obtain ⟨hi, hp, h1, h2, h3⟩ := h i p hr
  exact ⟨hp, hi, h1.symm, h2.symm, fun t k1 k2 => h3 t k2 k1⟩
theorem came_bis {l : List Nd} (hv : Valid l) (h0 : 0 < l.length) : Bis l (shareN l) (Came l) := by
  rintro i p ⟨hi, hp⟩
  obtain ⟨x, h1, h2, h3, h4⟩ := (share_vis hv h0).inv.here i hi p hp
  obtain ⟨hpl, hx⟩ := List.getElem?_eq_some_iff.1 h1
  have hx2 : (shareN l)[p] = x := hx
  have hl : l[i].2.length = x.2.length := by
    have := congrArg List.length h3
    simpa [placesOf] using this
  refine ⟨hi, hpl, by rw [hx2]; exact h2.symm, by rw [hx2]; exact hl, fun t k1 k2 => ⟨?_, ?_⟩⟩
  · have := hv i l[i] (List.getElem?_eq_getElem hi) _ (List.getElem_mem k1)
    omega
  · have h5 := congrArg (·[t]?) h3
    simp only [placesOf, List.getElem?_map] at h5
    rw [List.getElem?_eq_getElem k1, List.getElem?_eq_getElem (by omega)] at h5
    simp only [Option.map_some, Option.some.injEq] at h5
    rw [h5]
    congr 1
    simp only [hx2]
/-! ### how many -/
theorem pigeon : ∀ (m n : Nat) (f : Nat → Option Nat), (∀ p, p < n → ∃ i, i < m ∧ f i = some p) → n ≤ m := by
  intro m
  induction m with
  | zero =>
    intro n f h
    rcases Nat.eq_zero_or_pos n with h0 | h0
    · omega
    · obtain ⟨i, hi, _⟩ := h 0 h0
      omega
  | succ m ih =>
    intro n f h
    by_cases hq : ∃ q, f m = some q ∧ q < n
    · obtain ⟨q, hq, hqn⟩ := hq
      have := ih (n - 1) (fun i => if f i = some (n - 1) then some q else f i) (fun p hp => by
        by_cases e : p = q
        · subst e
          obtain ⟨i, hi, hf⟩ := h (n - 1) (by omega)
          have him : i ≠ m := by
            rintro rfl
            rw [hq] at hf
            have := Option.some.inj hf
            omega
          exact ⟨i, by omega, by simp [hf]⟩
        · obtain ⟨i, hi, hf⟩ := h p (by omega)
          have him : i ≠ m := by
            rintro rfl
            rw [hq] at hf
            exact e (Option.some.inj hf).symm
          refine ⟨i, by omega, ?_⟩
          show (if f i = some (n - 1) then some q else f i) = some p
          rw [if_neg]
          · exact hf
          · rw [hf]
            intro h
            have := Option.some.inj h
            omega)
      omega
    · have := ih n f (fun p hp => by
        obtain ⟨i, hi, hf⟩ := h p hp
        refine ⟨i, ?_, hf⟩
        have : i ≠ m := by
          rintro rfl
          exact hq ⟨p, hf, hp⟩
        omega)
      omega
theorem share_le {l : List Nd} (hv : Valid l) (h0 : 0 < l.length) : (shareN l).length ≤ l.length :=
  pigeon l.length _ (fun i => (shareS l).1.place ((kN l).getD i 0)) fun p hp => came_from hv h0 hp
theorem kT_le (l : List Nd) (T0 : List Kt) : ∀ i, (kTo l T0 i).1.length ≤ T0.length + i := by
  intro i
  induction i with
  | zero => exact Nat.le_refl _
  | succ i ih =>
    unfold kTo
    split
    · unfold kStep placeT
      split
      · simp only; omega
      · simp only [List.length_append, List.length_singleton]; omega
    · omega
theorem kN_lt {l : List Nd} (hv : Valid l) : ∀ n ∈ kN l, n < l.length := by
  intro n hn
  obtain ⟨j, hj, rfl⟩ := List.mem_iff_getElem.1 hn
  have hjl : j < l.length := by rw [kN_len] at hj; exact hj
  have h1 := (List.getElem?_eq_some_iff.1 ((ks_of hv).at_ j hjl hjl)).1
  rw [List.getD_eq_getElem?_getD, List.getElem?_eq_getElem hj] at h1
  have h2 : (kT l).length ≤ 0 + l.length := kT_le l [] l.length
  simp only [Option.getD_some] at h1
  omega
/-! ### once more -/
end Go.Proofs.Ytkonloadedbpkaa.ShareR

namespace Go.Proofs.Ytkonloadedbpkaa.ShareL
open Go.RowKit Go.Maps Go.Proofs.Ytkonloadedbpkaa.Sep Go.Proofs.Ytkonloadedbpkaa.FMaps Go.Proofs.Ytkonloadedbpkaa.FoldPure Go.Proofs.Ytkonloadedbpkaa.FoldMem Go.Proofs.Ytkonloadedbpkaa.Gather Go.Proofs.Ytkonloadedbpkaa.KindsP Go.Proofs.Ytkonloadedbpkaa.KindsS Go.Proofs.Ytkonloadedbpkaa.ShareP Go.Proofs.Ytkonloadedbpkaa.ShareR Go.Proofs.Ytkonloadedbpkaa.NodesMem Go.Proofs.Ytkonloadedbpkaa.NodeMem Go.Proofs.Ytkonloadedbpkaa.KindsW Go.Proofs.Ytkonloadedbpkaa.TreeW Go.Proofs.Ytkonloadedbpkaa.ShareW
open Go.Proofs.YtkonloadedbpkaaW.PrintWords
open Go.Proofs.YtkonloadedbpkaaW.PrintLast
set_option linter.unusedVariables false
set_option linter.unusedSimpArgs false
attribute [local go_sem ↓] Go.wp_at_zero Go.wp_at_succ
set_option maxRecDepth 100000

theorem sink4 {W w : World} {x a b c d : Res} {rs : List Res} (h : Sep W w (x :: a :: b :: c :: d :: rs)) : Sep W w (a :: b :: c :: d :: x :: rs) :=
  h.perm ((List.perm_middle (l₁ := [a, b, c, d]) (l₂ := rs)).symm)
theorem way_old {W w : World} {g bn be P T gP gE nP kb nb c : Nat} {v : Value} {A : Option Addr} {l : List Nd} {f : TEdge → Option Nat} {f' : Nat → Option Nat} {lb n2 n3 : Nat} {C : World → Prop} {rs : List Res}
    (h : Sep W w (boxR g 99 #[.map (some bn), .map (some be), nat P, nat T] :: mapR mE bn gP nP f :: mapR mI be gE n2 f' :: rowR 3 1 (.slice (some ⟨nb, 0, none⟩) l.length l.length) l.length ((kN l).map nat) :: readR W C :: boxR kb 25 #[v] :: boxR lb 24 #[.slice A n3 c] :: rs)) :
    Sep W (w.setCell ⟨kb, 0, none⟩ (.slice (some ⟨nb, 0, none⟩) l.length l.length)) (boxR kb 25 #[.slice (some ⟨nb, 0, none⟩) l.length l.length] :: rowR 3 1 (.slice (some ⟨nb, 0, none⟩) l.length l.length) l.length ((kN l).map nat) :: boxR lb 24 #[.slice A n3 c] :: readR W C :: rs) := by
  have h1 := h.tail.tail.tail
  have h2 := at_ h1 2 (by simp) (fun rs h => box_set h 0 (.slice (some ⟨nb, 0, none⟩) l.length l.length))
  have h3 := (h2.pull 3 (by simp)).pull 1 (by simp)
  exact h3.pull 3 (by simp)
theorem way_new {W w : World} {g bn be P T gP gE nP nb c : Nat} {A : Option Addr} {l : List Nd} {f : TEdge → Option Nat} {f' : Nat → Option Nat} {lb n2 n3 : Nat} {C : World → Prop} {rs : List Res}
    (h : Sep W w (boxR g 99 #[.map (some bn), .map (some be), nat P, nat T] :: mapR mE bn gP nP f :: mapR mI be gE n2 f' :: rowR 3 1 (.slice (some ⟨nb, 0, none⟩) l.length l.length) l.length ((kN l).map nat) :: readR W C :: boxR lb 24 #[.slice A n3 c] :: rs)) :
    Sep W (w.alloc (.cells #[.slice (some ⟨nb, 0, none⟩) l.length l.length] 25)) (boxR w.heap.size 25 #[.slice (some ⟨nb, 0, none⟩) l.length l.length] :: rowR 3 1 (.slice (some ⟨nb, 0, none⟩) l.length l.length) l.length ((kN l).map nat) :: boxR lb 24 #[.slice A n3 c] :: readR W C :: rs) := by
  have h1 := (h.tail.tail.tail.pull 2 (by simp)).pull 1 (by simp)
  exact box_fresh h1 25 #[.slice (some ⟨nb, 0, none⟩) l.length l.length]
/-- A thing and what is read, read together from now on. -/
theorem join_read {W w : World} {a : Res} {C : World → Prop} {rs : List Res} (D : World → Prop) (h : Sep W w (a :: readR W C :: rs)) (ha : ∀ w f, a.at_ w f → D w) : Sep W w (readR W (fun w' => D w' ∧ C w') :: rs) := by
  refine h.join fun f g hf hg w' h1 h2 => ⟨?_, hg w' h1 (fun k hk hl => h2 k (.inr hk) hl)⟩
  exact ha w' _ (a.move (a.bound hf) fun k hk => h2 k (.inl hk.1) hk.2)
theorem box_reads (b : Nat) (t : TypeId) (v : Value) : ∀ w f, (boxR b t #[v]).at_ w f → w.cell? ⟨b, 0, none⟩ = some v := fun w f h => (blk_cell h.1 0)
theorem row_reads (nb n : Nat) (kd : List Nat) : ∀ w f, (rowR 3 1 (.slice (some ⟨nb, 0, none⟩) n n) n (kd.map nat)).at_ w f → ∀ j (h : j < kd.length), w.cell? ⟨nb, j, none⟩ = some (nat kd[j]) := by
  intro w f h j hj
  have hl := h.1.1
  simp at hl
  obtain ⟨g, cap, e, _, hc, _⟩ := row_some h.1 (by omega)
  simp only [Value.slice.injEq, Option.some.injEq, Addr.mk.injEq, and_true, true_and] at e
  rw [e.1]
  exact hc j _ (by rw [List.getElem?_map, List.getElem?_eq_getElem hj]; rfl)
set_option maxHeartbeats 16000000 in
theorem share_calls {W w : World} {rs : List Res} {A : Option Addr} {c : Nat} {l : List Nd} {C : World → Prop} (hM : Sep W w (readR W C :: rs)) (hCC : ∀ w', C w' → NodesC A l w') (h0 : 0 < l.length) (hl : l.length ≤ 4194304) (hv : Valid l) (he : (l.map (·.2.length)).sum ≤ 4194304) (hlab : ∀ x ∈ l, x.1.size ≤ maxLen) :
    Calls Try.prog 27 #[.slice A l.length c] w fun e w' => ∃ (A' : Option Addr) (c' : Nat) (items : List PartM), e = .returned (.slice A' items.length c') ∧ items.map nd = shareN l ∧ items.length ≤ c' ∧ Sep W w' (rowR 27 2 (.slice A' items.length c') items.length (nodeCells items) :: kidsR items :: readR W C :: rs) := by
  have M := Aside0.mk (box_fresh hM 24 #[.slice A l.length c])
  have HV := Aside0.mk hv
  have HE := Aside0.mk he
  have HLab := Aside0.mk hlab
  have HKD : Aside0 (∀ n ∈ kN l, n ≤ 33554432) := ⟨fun n hn => by have := kN_lt hv n hn; omega⟩
  have hfin : (shareN l).length ≤ 4194304 := by have := share_le hv h0; omega
  have HCC := Aside0.mk hCC
  clear hM hv he hlab hCC
  have l0 := (box_cell M.out (j := 0) rfl).1
  go_enter Try.func27, Try.ntmps27
  go_wp2_with fail
  refine (none_calls (M.out.pull 1 (by simp)) HCC.out h0 hl HV.out HE.out).mono ?_
  rintro e w1 ⟨rfl, hm1⟩
  replace hm1 : Sep W w1 (readR W C :: boxR w.heap.size 24 #[.slice A l.length c] :: rs) := hm1
  clear M l0
  have M := Aside0.mk hm1.swap
  clear hm1
  have l0 : w1.cell? ⟨w.heap.size, 0, none⟩ = some (.slice A l.length c) := (box_cell M.out (j := 0) rfl).1
  go_upto_region 3 with fail
  go_cut [3] (fun s3 wx => ∃ kb nb, s3 = .pointer (some ⟨kb, 0, none⟩) ∧ Aside0 (Sep W wx (boxR kb 25 #[.slice (some ⟨nb, 0, none⟩) l.length l.length] :: rowR 3 1 (.slice (some ⟨nb, 0, none⟩) l.length l.length) l.length ((kN l).map nat) :: boxR w.heap.size 24 #[.slice A l.length c] :: readR W C :: rs)))
  case first =>
    have hll := World.block_lt_of_cell? _ _ l0
    go_region_held3 (fun w' => w'.cell? ⟨w.heap.size, 0, none⟩ = some (.slice A l.length c)) (first | assumption | exact (box_cell ((way_old M6.out).pull 2 (by simp)) (j := 0) rfl).1 | go_keep)
      (first
        | (go_at_call 48; first
          | (refine (newKinds_calls (M.out.swap.drawn (w' := w1.drew) ⟨1, rfl⟩)).mono ?_; rintro e w5 ⟨g, bn, be, rfl, hm5⟩; have M5 := Aside0.mk hm5; have l5 : w5.cell? ⟨w.heap.size, 0, none⟩ = some (.slice A l.length c) := (box_cell (hm5.pull 4 (by simp)) (j := 0) rfl).1; clear hm5)
          | (refine (newKinds_calls ((box_fresh M.out.swap 25 #[.slice none 0 0]).swap.drawn (w' := (w1.alloc (.cells #[.slice none 0 0] 25)).drew) ⟨1, rfl⟩)).mono ?_; rintro e w5 ⟨g, bn, be, rfl, hm5⟩; have M5 := Aside0.mk hm5; have l5 : w5.cell? ⟨w.heap.size, 0, none⟩ = some (.slice A l.length c) := (box_cell (hm5.pull 5 (by simp)) (j := 0) rfl).1; clear hm5))
        | (go_at_call 49; first
          | (refine (of_calls (PL := []) (T := []) M5.out HCC.out h0 hl HV.out HE.out HLab.out pths_nil (fun c hc => by simp at hc) (by simp) (by simp) (by simp) (by simp)).mono ?_; rintro e w6 ⟨b, gP', gE', PL', rfl, _, _, _, _, _, _, hm6⟩; have M6 := Aside0.mk hm6; have l5 : w6.cell? ⟨w.heap.size, 0, none⟩ = some (.slice A l.length c) := (box_cell (hm6.pull 6 (by simp)) (j := 0) rfl).1; obtain ⟨kb0, kbf⟩ := box_cell (hm6.pull 5 (by simp)) (j := 0) rfl; clear hm6)
          | (refine (of_calls (PL := []) (T := []) (sink4 (box_fresh M5.out 25 #[.slice none 0 0])) HCC.out h0 hl HV.out HE.out HLab.out pths_nil (fun c hc => by simp at hc) (by simp) (by simp) (by simp) (by simp)).mono ?_; rintro e w6 ⟨b, gP', gE', PL', rfl, _, _, _, _, _, _, hm6⟩; have M6 := Aside0.mk hm6; have l5 : w6.cell? ⟨w.heap.size, 0, none⟩ = some (.slice A l.length c) := (box_cell (hm6.pull 6 (by simp)) (j := 0) rfl).1; obtain ⟨kb0, kbf⟩ := box_cell (hm6.pull 5 (by simp)) (j := 0) rfl; clear hm6)
          | (refine (of_calls (PL := []) (T := []) M5.out HCC.out h0 hl HV.out HE.out HLab.out pths_nil (fun c hc => by simp at hc) (by simp) (by simp) (by simp) (by simp)).mono ?_; rintro e w6 ⟨b, gP', gE', PL', rfl, _, _, _, _, _, _, hm6⟩; have M6 := Aside0.mk hm6; have l5 : w6.cell? ⟨w.heap.size, 0, none⟩ = some (.slice A l.length c) := (box_cell (hm6.pull 5 (by simp)) (j := 0) rfl).1; clear hm6)))
    all_goals go_wp2_with fail
    all_goals go_meet
    all_goals (first
      | exact ⟨_, b, rfl, ⟨way_old M6.out⟩⟩
      | exact ⟨_, b, rfl, ⟨way_new M6.out⟩⟩)
  case rest =>
    obtain ⟨kb, nb, rfl, M⟩ := hcut
    clear l0
    have m1 := box_fresh (map_fresh M.out mI) 82 #[.map (some wc.heap.size)]
    have m2 := box_fresh m1 24 #[.slice none 0 0]
    have m3 := box_fresh m2 75 #[.func (.func 50) #[] #[.pointer (some ⟨wc.heap.size + 1, 0, none⟩), .pointer (some ⟨kb, 0, none⟩), .pointer (some ⟨w.heap.size, 0, none⟩), .pointer (some ⟨wc.heap.size + 1 + 1 + 1, 0, none⟩), .pointer (some ⟨wc.heap.size + 1 + 1, 0, none⟩)]]
    simp only [World.size_alloc] at m3
    clear m1 m2
    clear M
    have M := Aside0.mk m3
    have l0 := (box_cell (M.out.pull 6 (by simp)) (j := 0) rfl).1
    have v0 := (box_cell (M.out) (j := 0) rfl).1
    have hl0 := World.block_lt_of_cell? _ _ l0
    clear m3
    have hmm := @run_makeMap Try.prog
    have i0 : ((l.length : Int) - 1) = ((l.length - 1 : Nat) : Int) := by omega
    go_wp2_with fail
    have j1 := join_read (fun w' => w'.cell? ⟨w.heap.size, 0, none⟩ = some (.slice A l.length c)) ((((M.out.pull 1 (by simp)).pull 3 (by simp)).pull 7 (by simp)).pull 7 (by simp)) (box_reads _ _ _)
    have j2 := join_read (fun w' => ∀ j (h : j < (kN l).length), w'.cell? ⟨nb, j, none⟩ = some (nat (kN l)[j])) (j1.pull 6 (by simp)) (row_reads _ _ _)
    have j3 := join_read (fun w' => w'.cell? ⟨kb, 0, none⟩ = some (.slice (some ⟨nb, 0, none⟩) l.length l.length)) (j2.pull 5 (by simp)) (box_reads _ _ _)
    have j4 := join_read (fun w' => w'.cell? ⟨wc.heap.size + 1, 0, none⟩ = some (.map (some wc.heap.size))) (j3.pull 4 (by simp)) (box_reads _ _ _)
    have j5 := join_read (fun w' => w'.cell? ⟨wc.heap.size + 1 + 1 + 1, 0, none⟩ = some (.func (.func 50) #[] #[.pointer (some ⟨wc.heap.size + 1, 0, none⟩), .pointer (some ⟨kb, 0, none⟩), .pointer (some ⟨w.heap.size, 0, none⟩), .pointer (some ⟨wc.heap.size + 1 + 1 + 1, 0, none⟩), .pointer (some ⟨wc.heap.size + 1 + 1, 0, none⟩)])) (j4.pull 3 (by simp)) (box_reads _ _ _)
    have j6 := read_weak (C' := fun w' => ShC A l (kN l) c kb nb (wc.heap.size + 1) w.heap.size (wc.heap.size + 1 + 1 + 1) (wc.heap.size + 1 + 1) wc.heap.size w' ∧ C w') j5 (fun w' ⟨h1, h2, h3, h4, h5, h6⟩ => ⟨⟨h3, h4, h5, HCC.out _ h6, h1, h2⟩, h6⟩)
    have j7 := (((row_nil (kids_none j6) 27 2).pull 4 (by simp)).pull 4 (by simp)).pull 4 (by simp)
    clear M l0 v0 j1 j2 j3 j4 j5 j6
    refine (visit_calls hl HV.out HE.out (kN_len l) HKD.out (strictN HV.out) l.length (l.length - 1) ⟨fun _ => none, []⟩ 0 0 none [] rs _ _ (fun w' h => h.1) (by omega) (by omega) hfin rfl rfl j7).mono ?_
    rintro e w9 ⟨A', c', items, rfl, hI, hm9⟩
    clear j7
    obtain ⟨o0, _⟩ : w9.cell? ⟨wc.heap.size + 1 + 1, 0, none⟩ = some (.slice A' items.length c') ∧ _ := box_cell (hm9.pull 2 (by simp)) (j := 0) rfl
    have M := Aside0.mk hm9
    have HI := Aside0.mk hI
    clear hm9 hI
    go_wp2_with fail
    go_ret
    obtain ⟨_, _, er, hrc⟩ := row_slice (M.out.pull 3 (by simp)).row
    simp only [Value.slice.injEq, true_and] at er
    have h1 := (read_weak (C' := C) M.out (fun w' h => h.2)).pull 1 (by simp)
    have h2 := (h1.tail.pull 1 (by simp)).tail
    exact ⟨A', c', items, rfl, HI.out, by omega, (h2.pull 2 (by simp)).pull 2 (by simp)⟩
end Go.Proofs.Ytkonloadedbpkaa.ShareL
