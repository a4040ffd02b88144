/- RefW, RefS. -/
import Derived.Test.YtkonloadedbpkaaZ12
import Derived.Test.YtkonloadedbpkaaZ4
import Derived.Test.YtkonloadedbpkaaZ6
import Derived.Test.YtkonloadedbpkaaZ7
import Derived.Test.YtkonloadedbpkaaZ9
namespace Go.Proofs.Ytkonloadedbpkaa.RefW
open Go.RowKit Go.Maps Go.Proofs.Ytkonloadedbpkaa.Sep Go.Proofs.Ytkonloadedbpkaa.FMaps Go.Proofs.Ytkonloadedbpkaa.FoldPure Go.Proofs.Ytkonloadedbpkaa.FoldMem Go.Proofs.Ytkonloadedbpkaa.Gather Go.Proofs.Ytkonloadedbpkaa.NodeMem Go.Proofs.Ytkonloadedbpkaa.RowsOf Go.Proofs.Ytkonloadedbpkaa.Spare Go.Proofs.Ytkonloadedbpkaa.CutW Go.Proofs.Ytkonloadedbpkaa.Kept Go.Proofs.Ytkonloadedbpkaa.Lits Go.Proofs.Ytkonloadedbpkaa.KindsP Go.Proofs.Ytkonloadedbpkaa.TreeP Go.Proofs.Ytkonloadedbpkaa.ListsP
open Go.Proofs.YtkonloadedbpkaaW.PrintWords
set_option linter.unusedVariables false
set_option linter.unusedSimpArgs false
set_option maxRecDepth 100000

theorem toList_inj {s t : ByteArray} (h : s.toList = t.toList) : s = t := by
  rw [ByteArray.toList_eq, ByteArray.toList_eq] at h
  exact ByteArray.ext (Array.toList_inj.1 h)
theorem ints_inj {a b : List Nat} (h : ints a = ints b) : a = b := (List.map_inj_right (fun x y e => by omega)).1 h
theorem ix_first {α : Type} [DecidableEq α] : ∀ {T : List α} {c : α} {i : Nat} (hi : i < T.length), ix (T.take i) c = none → T[i] = c → ix T c = some i
  | [], _, _, hi, _, _ => by simp at hi
  | x :: T, c, 0, _, _, h => by
    have h2 : x = c := h
    unfold ix
    rw [if_pos h2]
  | x :: T, c, i + 1, hi, hn, h => by
    rw [List.take_succ_cons] at hn
    unfold ix at hn ⊢
    split at hn
    · cases hn
    · rename_i hx
      rw [if_neg hx, ix_first (by simpa using hi) (by
        cases h2 : ix (T.take i) c with
        | none => rfl
        | some j => rw [h2] at hn; cases hn) (by simpa using h)]
      rfl
theorem ix_next {α : Type} [DecidableEq α] {T : List α} {c : α} {i : Nat} (hi : i < T.length) (hn : ix (T.take i) c = none) (h : T[i] ≠ c) : ix (T.take (i + 1)) c = none := by
  rw [List.take_succ_eq_append_getElem hi, ix_none]
  intro hm
  rcases List.mem_append.1 hm with hm | hm
  · exact ix_none.1 hn hm
  · exact h (List.mem_singleton.1 hm).symm
theorem build27k (s : ByteArray) (A : Option Addr) (n c : Nat) (w : World) : (Instr.build 27 #[(0, .string s), (1, .slice A n c)]).run Try.prog w = .ok (.agg #[.string s, .slice A n c]) w := by kernel_rfl
/-- The table: where it lies, and its rows. -/
def tabR (p : Nat) (A : Option Addr) (c : Nat) (items : List PartM) (rs : List Res) : List Res := boxR p 72 #[.slice A items.length c] :: rowR 27 2 (.slice A items.length c) items.length (nodeCells items) :: kidsR items :: rs
theorem kids_own {W w : World} {rs : List Res} {items : List PartM} (h : Sep W w (kidsR items :: rs)) {i : Nat} (hi : i < items.length) (hk : items[i].part.kids.length ≤ 4194304) : items[i].part.kids.length ≤ items[i].c ∧ Kd.C (Kd.int .i64) w items[i].A items[i].part.kids.length (ints items[i].part.kids) := by
  obtain ⟨f, hf, _⟩ := h.head
  exact kid_reads (hf items[i] (List.getElem_mem hi)) (by omega)
theorem ints_num (ks : List Nat) : ks.map nat = (ints ks).map num := by
  unfold ints
  rw [List.map_map]
  rfl
set_option maxHeartbeats 8000000 in
theorem number_calls {W w : World} {rs : List Res} {p c ck : Nat} {A Ak : Option Addr} {items : List PartM} {s : ByteArray} {ks : List Nat} (hs : items.length ≤ 4194304) (hkl : ks.length ≤ 4194304) (hik : ∀ q ∈ items, q.part.kids.length ≤ 4194304)
    (hM : Sep W w (rowR 3 1 (.slice Ak ks.length ck) ks.length (ks.map nat) :: tabR p A c items rs)) :
    Calls Try.prog 52 #[.pointer (some ⟨p, 0, none⟩), .string s, .slice Ak ks.length ck] w fun e w' => ∃ items' A' c', e = .returned (nat (placeT (items.map nd) (s, ks)).2) ∧ items'.map nd = (placeT (items.map nd) (s, ks)).1 ∧ Sep W w' (tabR p A' c' items' rs) := by
  have M := Aside0.mk hM
  have HIK := Aside0.mk hik
  clear hM hik
  unfold tabR at M
  go_enter Try.func52, Try.ntmps52
  go_wp2_with fail
  go_loopw [7] (fun v7 wr => ∃ i : Nat, i ≤ items.length ∧ v7 = .int .i64 i ∧ Aside0 (ix ((items.map nd).take i) (s, ks) = none) ∧ Aside0 (Sep W wr (rowR 3 1 (.slice Ak ks.length ck) ks.length (ks.map nat) :: boxR p 72 #[.slice A items.length c] :: rowR 27 2 (.slice A items.length c) items.length (nodeCells items) :: kidsR items :: rs))) (fun v7 _ => items.length - (intOf v7).toNat)
  case atStart => exact ⟨0, by omega, rfl, ⟨by simp [ix]⟩, M⟩
  case round =>
    clear M
    obtain ⟨i, hi, rfl, HX, M⟩ := hrel
    have p0 : wr.cell? ⟨p, 0, none⟩ = some (.slice A items.length c) := (box_cell (M.out.pull 1 (by simp)) (j := 0) rfl).1
    by_cases hlt : i < items.length
    · have hml : i < (items.map nd).length := by rw [List.length_map]; exact hlt
      have hix1 := Aside0.mk (ix_first (c := (s, ks)) hml HX.out)
      have hix2 := Aside0.mk (ix_next (c := (s, ks)) hml HX.out)
      have hnd : (items.map nd)[i] = (items[i].part.label, items[i].part.kids) := by rw [List.getElem_map]; rfl
      rw [hnd] at hix1 hix2
      clear hnd hml
      obtain ⟨g, cp, hv, _, hcell, _⟩ := row_some (M.out.pull 2 (by simp)).row (by omega)
      simp only [Value.slice.injEq, true_and] at hv
      obtain ⟨rfl, rfl⟩ := hv
      obtain ⟨n1, n2⟩ := nodes_at items hlt
      have x0 := hcell _ _ n1
      have x1 := hcell _ _ n2
      have hkb := HIK.out items[i] (List.getElem_mem hlt)
      obtain ⟨k1, k2⟩ := kids_own (M.out.pull 3 (by simp)) hlt hkb
      generalize items[i] = q at x0 x1 k1 k2 hix1 hix2 hkb
      replace x1 : wr.cell? ⟨g, i * 2 + 1, none⟩ = some (.slice q.A q.part.kids.length q.c) := x1
      have K2 := Aside0.mk k2
      have k3 := row_Ci (by have h := M.out.row; rw [ints_num] at h; exact h) (by omega)
      have K3 := Aside0.mk k3
      clear hcell n1 n2 k2 k3
      by_cases hlab : q.part.label = s
      · have e1 : (q.part.label.toList == s.toList) = true := by rw [hlab]; exact beq_self_eq_true _
        go_wp2_with fail
        obtain ⟨kf, hkf⟩ := equal_f (ints q.part.kids) (ints ks) (by simp [ints]; omega)
        have hl1 : (ints q.part.kids).length = q.part.kids.length := List.length_map ..
        have hl2 : (ints ks).length = ks.length := List.length_map ..
        have hcl := Go.Proofs.Ytkonloadedbpkaa.PTreeLists.lemmaref13_equal.calls kf q.A q.c (ints q.part.kids) Ak ck (ints ks) _ wr (by rw [hl1]; exact K2.out) (by rw [hl1]; exact k1) (by rw [hl2]; exact K3.out.2) (by rw [hl2]; exact K3.out.1) hkf
        rw [hl1, hl2] at hcl
        refine hcl.mono ?_
        clear hcl hkf hl1 hl2
        rintro e w1 ⟨rfl, hd⟩
        have hm1 := M.out.drawn hd
        clear M hd K2 K3
        have M := Aside0.mk hm1
        clear hm1
        by_cases hke : ints q.part.kids = ints ks
        · have hii := hix1.out (by rw [hlab, ints_inj hke])
          rw [decide_eq_true hke]
          have HII := Aside0.mk hii
          clear hii
          have M2 := Aside0.mk M.out.tail
          go_wp2_with fail
          go_ret
          refine ⟨items, some ⟨g, 0, none⟩, c, ?_, ?_, M2.out⟩
          · unfold placeT
            rw [HII.out]
            rfl
          · unfold placeT
            rw [HII.out]
        · have hii := hix2.out (fun h => hke (by rw [(Prod.mk.inj h).2]))
          rw [decide_eq_false hke]
          go_wp2_with fail
          exact ⟨⟨i + 1, by omega, by go_num, ⟨hii⟩, M⟩, by simp [intOf]; omega⟩
      · have e1 : (q.part.label.toList == s.toList) = false := by rw [beq_eq_false_iff_ne]; exact fun h => hlab (toList_inj h)
        have hii := hix2.out (fun h => hlab (Prod.mk.inj h).1)
        have HII := Aside0.mk hii
        clear hii
        go_wp2_with fail
        exact ⟨⟨i + 1, by omega, by go_num, HII, M⟩, by simp [intOf]; omega⟩
    · have hie : i = items.length := by omega
      subst hie
      have hxn := HX.out
      rw [List.take_of_length_le (by simp)] at hxn
      have HXN := Aside0.mk hxn
      clear hxn HX
      have hbk := build27k s Ak ks.length ck
      have pf0 := (box_cell (M.out.pull 1 (by simp)) (j := 0) rfl).2
      have hnw := Aside0.mk (box_at (box_fresh M.out 27 #[.string s, .slice Ak ks.length ck]))
      go_upto_region 7 with (at_builtin; refine wp_node ((M.out.pull 2 (by simp)).alloc (.cells #[.string s, .slice Ak ks.length ck] 27)) rfl (.tmp 44) (.tmp 48) rfl rfl rfl hnw.out rfl rfl (by omega) ?_; intro A6 c6 w6 hc6 hm6; clear M p0 pf0 hnw; have M := Aside0.mk hm6; clear hm6; obtain ⟨p0, pf0⟩ := box_cell (M.out.pull 2 (by simp)) (j := 0) rfl)
      have hm7 := at_ M.out 2 (by simp) (fun rs h => box_set h 0 (.slice A6 (items.length + 1) c6))
      clear M p0 pf0
      generalize w6.setCell ⟨p, 0, none⟩ (.slice A6 (items.length + 1) c6) = w7 at hm7 ⊢
      have hm8 : Sep W w7 (rowR 27 2 (.slice A6 (items.length + 1) c6) (items.length + 1) (nodeCells items ++ [.string s, .slice Ak ks.length ck]) :: kidsR items :: rowR 3 1 (.slice Ak ks.length ck) ks.length (ks.map nat) :: boxR p 72 #[.slice A6 (items.length + 1) c6] :: rs) := (hm7.pull 3 (by simp)).swap
      have hm9 := item_more (items := items) (q := ⟨⟨s, ks, 0⟩, 0, Ak, ck⟩) hm8
      have hlen : (items ++ [(⟨⟨s, ks, 0⟩, 0, Ak, ck⟩ : PartM)]).length = items.length + 1 := by simp
      rw [hlen] at hm9
      have hm10 : Sep W w7 (boxR p 72 #[.slice A6 (items.length + 1) c6] :: rowR 27 2 (.slice A6 (items.length + 1) c6) (items.length + 1) (nodeCells (items ++ [(⟨⟨s, ks, 0⟩, 0, Ak, ck⟩ : PartM)])) :: kidsR (items ++ [(⟨⟨s, ks, 0⟩, 0, Ak, ck⟩ : PartM)]) :: rs) := hm9.pull 2 (by simp)
      have p0 : w7.cell? ⟨p, 0, none⟩ = some (.slice A6 (items.length + 1) c6) := (box_cell hm10 (j := 0) rfl).1
      have M3 := Aside0.mk hm10
      clear hm7 hm8 hm9 hm10
      go_wp2_with fail
      go_ret
      refine ⟨items ++ [⟨⟨s, ks, 0⟩, 0, Ak, ck⟩], A6, c6, ?_, ?_, ?_⟩
      · unfold placeT
        rw [HXN.out, List.length_map]
        rfl
      · unfold placeT
        rw [HXN.out, List.map_append]
        rfl
      · unfold tabR
        rw [hlen]
        exact M3.out
/-! ### numbers -/
def KB (T : List Kt) : Prop := ∀ x ∈ T, x.2.length ≤ 4194304
theorem kb_place {T : List Kt} {c : Kt} (h : KB T) (hc : c.2.length ≤ 4194304) : KB (placeT T c).1 := by
  unfold placeT
  split
  · exact h
  · intro x hx
    rcases List.mem_append.1 hx with hx | hx
    · exact h x hx
    · rw [List.mem_singleton.1 hx]
      exact hc
theorem place_le (T : List Kt) (c : Kt) : (placeT T c).1.length ≤ T.length + 1 := by
  unfold placeT
  split <;> simp
theorem take_set_succ {α : Type} {ns : List α} {i : Nat} {n : α} (h : i < ns.length) : (ns.set i n).take (i + 1) = ns.take i ++ [n] := by
  rw [List.take_succ_eq_append_getElem (by simpa using h), List.getElem_set_self]
  congr 1
  apply List.ext_getElem?
  intro j
  rw [List.getElem?_take, List.getElem?_take]
  by_cases hj : j < i
  · rw [if_pos hj, if_pos hj, List.getElem?_set_ne (by omega)]
  · rw [if_neg hj, if_neg hj]
theorem kidsK_len (ns : List Nat) (x : Nd) : (kidsK ns x).length = x.2.length := by simp [kidsK]
theorem kidsK_more {ns : List Nat} {x : Nd} {j : Nat} (h : j < x.2.length) : (kidsK ns x).take (j + 1) = (kidsK ns x).take j ++ [ns.getD x.2[j] 0] := by
  rw [List.take_succ_eq_append_getElem (by rw [kidsK_len]; exact h)]
  simp [kidsK]
set_option maxHeartbeats 8000000 in
theorem numbers_calls {W w : World} {rs : List Res} {p c0 cl : Nat} {A0 Al : Option Addr} {items : List PartM} {l : List Nd} {C : World → Prop} (hs : items.length + l.length ≤ 4194304) (hl : l.length ≤ 2097152) (hv : Valid l) (hkl : ∀ x ∈ l, x.2.length ≤ 4194304) (hkb : KB (items.map nd))
    (hM : Sep W w (tabR p A0 c0 items (readR W C :: rs))) (hCC : ∀ w', C w' → NodesC Al l w') :
    Calls Try.prog 42 #[.pointer (some ⟨p, 0, none⟩), .slice Al l.length cl] w fun e w' => ∃ items' A' c' An cn, e = .returned (.slice An l.length cn) ∧ items'.map nd = (kTo l (items.map nd) l.length).1 ∧ l.length ≤ cn ∧ KB (items'.map nd) ∧
      Sep W w' (rowR 3 1 (.slice An l.length cn) l.length ((kTo l (items.map nd) l.length).2.map nat) :: tabR p A' c' items' (readR W C :: rs)) := by
  obtain ⟨T0, hT0⟩ : ∃ T0, T0 = items.map nd := ⟨_, rfl⟩
  have hsT : T0.length + l.length ≤ 4194304 := by rw [hT0, List.length_map]; exact hs
  rw [← hT0] at hkb ⊢
  have HT0 := Aside0.mk hT0.symm
  have M := Aside0.mk (row_nil hM 3 1)
  have HV := Aside0.mk hv
  have HKL := Aside0.mk hkl
  have HKB := Aside0.mk hkb
  have HCC := Aside0.mk hCC
  clear hM hv hkl hkb hCC hT0 hs
  go_enter Try.func42, Try.ntmps42
  go_wp2_with fail
  go_loopw [5, 6] (fun v5 v6 wr => ∃ (i : Nat) (items : List PartM) (A0 A5 : Option Addr) (c0 c5 : Nat), i ≤ l.length ∧ i ≤ c5 ∧ v5 = .slice A5 i c5 ∧ v6 = .int .i64 i ∧ Aside0 (items.map nd = (kTo l T0 i).1) ∧ Aside0 (KB (items.map nd)) ∧ items.length ≤ T0.length + i ∧
    Aside0 (Sep W wr (rowR 3 1 (.slice A5 i c5) i (((kTo l T0 i).2.take i).map nat) :: tabR p A0 c0 items (readR W C :: rs)))) (fun _ v6 _ => l.length - (intOf v6).toNat)
  case atStart => exact ⟨0, items, A0, none, c0, 0, by omega, by omega, rfl, rfl, HT0, ⟨by rw [HT0.out]; exact HKB.out⟩, by rw [← HT0.out, List.length_map]; omega, M⟩
  case round =>
    clear M HT0 HKB
    obtain ⟨i, items, A0, A5, c0, c5, hi, hc5, rfl, rfl, HT, HKB, hit, M⟩ := hrel
    by_cases hlt : i < l.length
    · have hks := HKL.out l[i] (List.getElem_mem hlt)
      have hnl : (kTo l T0 i).2.length = l.length := kTo_len l T0 i
      have hstep := Aside0.mk (kTo_succ (T0 := T0) hlt)
      have HNL := Aside0.mk hnl
      clear hnl
      obtain ⟨ns, hns⟩ : ∃ ns, ns = (kTo l T0 i).2 := ⟨_, rfl⟩
      rw [← hns] at M HNL
      have HNS := Aside0.mk hns
      clear hns
      have M1 := Aside0.mk (row_nil M.out 3 1)
      clear M
      have M := M1
      clear M1
      go_wp2_with fail
      go_loopw [7, 8] (fun v7 v8 wq => ∃ (j : Nat) (A7 : Option Addr) (c7 : Nat), j ≤ l[i].2.length ∧ j ≤ c7 ∧ v7 = .slice A7 j c7 ∧ v8 = .int .i64 j ∧
        Aside0 (Sep W wq (rowR 3 1 (.slice A7 j c7) j (((kidsK ns l[i]).take j).map nat) :: rowR 3 1 (.slice A5 i c5) i ((ns.take i).map nat) :: tabR p A0 c0 items (readR W C :: rs)))) (fun _ v8 _ => l[i].2.length - (intOf v8).toNat)
      case atStart => exact ⟨0, none, 0, by omega, by omega, rfl, rfl, M⟩
      case round =>
        clear M
        obtain ⟨j, A7, c7, hj, hc7, rfl, rfl, M⟩ := hrel
        have hNC : NodesC Al l wr := HCC.out _ (read_at (M.out.pull 5 (by simp [tabR])))
        obtain ⟨ad, Ak, ck, rfl, x0, x1, hck, hCk⟩ := node_at hNC hlt
        clear hNC
        by_cases hjl : j < l[i].2.length
        · obtain ⟨ak, rfl, hk0⟩ := kid_at hCk rfl hjl
          have hkid := HV.out i l[i] (List.getElem?_eq_getElem hlt) _ (List.getElem_mem hjl)
          have hmore := Aside0.mk (kidsK_more (ns := ns) hjl)
          generalize l[i].2[j] = kid at hk0 hkid hmore
          have hnk : ns[kid]? = some (ns.getD kid 0) := by
            have : kid < ns.length := by rw [HNL.out]; omega
            rw [List.getD_eq_getElem?_getD, List.getElem?_eq_getElem this]
            rfl
          obtain ⟨g5, cp, hv5, _, hcell, _⟩ := row_some (M.out.pull 1 (by simp)).row (by omega)
          simp only [Value.slice.injEq, true_and] at hv5
          obtain ⟨rfl, rfl⟩ := hv5
          have r0 : wr.cell? ⟨g5, kid, none⟩ = some (nat (ns.getD kid 0)) := hcell _ _ (by rw [List.getElem?_map, List.getElem?_take, if_pos hkid, hnk]; rfl)
          replace hk0 : wr.cell? (ak.add j) = some (.int .i64 (kid : Int)) := hk0
          generalize ns.getD kid 0 = nk at r0 hmore
          unfold nat at r0
          clear hcell hnk hCk
          go_wp2_with (at_builtin; refine wp_one24 (M.out.alloc (.cells #[.int .i64 (nk : Int)] 3)) rfl (.tmp 25) (.tmp 37) 25 rfl Try.underlying25 info3 rfl rfl rfl (new_cell _ _ _) rfl (by omega) (by omega) ?_; intro A6 c6 w6 hc6 hm6; clear M r0 hk0 x0 x1; have M := Aside0.mk hm6; clear hm6)
          go_roundw
          case rel => exact ⟨j + 1, A6, c6, by omega, by omega, rfl, by go_num, ⟨by rw [hmore.out, List.map_append]; exact M.out⟩⟩
          case measure => simp [intOf]; omega
        · have hje : j = l[i].2.length := by omega
          subst hje
          have hm2 : Sep W wr (rowR 3 1 (.slice A7 l[i].2.length c7) l[i].2.length ((kidsK ns l[i]).map nat) :: rowR 3 1 (.slice A5 i c5) i ((ns.take i).map nat) :: tabR p A0 c0 items (readR W C :: rs)) := by
            have h := M.out
            rw [List.take_of_length_le (by rw [kidsK_len]; exact Nat.le_refl _)] at h
            exact h
          have hm3 := ShareL.sink4 hm2.swap
          have hcl := number_calls (s := l[i].1) (ks := kidsK ns l[i]) (rs := rowR 3 1 (.slice A5 i c5) i ((ns.take i).map nat) :: readR W C :: rs) (W := W) (w := wr) (p := p) (c := c0) (ck := c7) (A := A0) (Ak := A7) (items := items) (by omega) (by rw [kidsK_len]; exact hks) (fun q hq => HKB.out (nd q) (List.mem_map_of_mem hq)) (by
            rw [kidsK_len]
            exact hm3)
          rw [kidsK_len] at hcl
          have hT1 : (kTo l T0 (i + 1)).1 = (placeT (items.map nd) (l[i].1, kidsK ns l[i])).1 := by
            rw [hstep.out, HT.out, HNS.out]
            rfl
          have hT2 : (kTo l T0 (i + 1)).2.take (i + 1) = ns.take i ++ [(placeT (items.map nd) (l[i].1, kidsK ns l[i])).2] := by
            rw [hstep.out, HT.out, HNS.out]
            exact take_set_succ (by rw [← HNS.out, HNL.out]; exact hlt)
          have hkb2 := kb_place (c := (l[i].1, kidsK ns l[i])) HKB.out (by rw [kidsK_len]; exact hks)
          have hple := place_le (items.map nd) (l[i].1, kidsK ns l[i])
          rw [List.length_map] at hple
          have HT1 := Aside0.mk hT1
          have HT2 := Aside0.mk hT2
          have HKB2 := Aside0.mk hkb2
          have HCL := Aside0.mk hcl
          clear hm2 hm3 M hcl hT1 hT2 hkb2 hCk
          go_wp2_with fail
          refine HCL.out.mono ?_
          clear HCL
          rintro e w1 ⟨items1, A1, c1, rfl, hI1, hm1⟩
          generalize (placeT (items.map nd) (l[i].1, kidsK ns l[i])).2 = n1 at HT2
          have hit1 : items1.length ≤ items.length + 1 := by
            have := congrArg List.length hI1
            rw [List.length_map] at this
            omega
          have M := Aside0.mk (show Sep W w1 (rowR 3 1 (.slice A5 i c5) i ((ns.take i).map nat) :: tabR p A1 c1 items1 (readR W C :: rs)) from hm1.pull 3 (by simp [tabR]))
          have HI1 := Aside0.mk (hI1.trans HT1.out.symm)
          have HKB3 := Aside0.mk (show KB (items1.map nd) by rw [hI1]; exact HKB2.out)
          clear hm1 hI1 HT1 HKB2 hple
          unfold nat
          go_wp2_with (at_builtin; refine wp_one24 (M.out.alloc (.cells #[.int .i64 (n1 : Int)] 3)) rfl (.tmp 39) (.tmp 48) 25 rfl Try.underlying25 info3 rfl rfl rfl (new_cell _ _ _) rfl (by omega) (by omega) ?_; intro A6 c6 w6 hc6 hm6; clear M; have M := Aside0.mk hm6; clear hm6)
          go_roundw
          case rel => exact ⟨i + 1, items1, A1, A6, c1, c6, by omega, by omega, rfl, by go_num, HI1, HKB3, by omega, ⟨by rw [HT2.out, List.map_append]; exact M.out⟩⟩
          case measure => simp [intOf]; omega
    · have hie : i = l.length := by omega
      subst hie
      have hm2 := M.out
      rw [List.take_of_length_le (by rw [kTo_len]; exact Nat.le_refl _)] at hm2
      have M2 := Aside0.mk hm2
      clear hm2 M
      go_wp2_with fail
      go_ret
      exact ⟨items, A0, c0, A5, c5, rfl, HT.out, hc5, HKB.out, M2.out⟩
end Go.Proofs.Ytkonloadedbpkaa.RefW

namespace Go.Proofs.Ytkonloadedbpkaa.RefS
open Go.RowKit Go.Maps Go.Proofs.Ytkonloadedbpkaa.Sep Go.Proofs.Ytkonloadedbpkaa.FMaps Go.Proofs.Ytkonloadedbpkaa.FoldPure Go.Proofs.Ytkonloadedbpkaa.FoldMem Go.Proofs.Ytkonloadedbpkaa.Gather Go.Proofs.Ytkonloadedbpkaa.NodeMem Go.Proofs.Ytkonloadedbpkaa.RowsOf Go.Proofs.Ytkonloadedbpkaa.NodesIn Go.Proofs.Ytkonloadedbpkaa.Spare Go.Proofs.Ytkonloadedbpkaa.CutW Go.Proofs.Ytkonloadedbpkaa.Kept Go.Proofs.Ytkonloadedbpkaa.Lits Go.Proofs.Ytkonloadedbpkaa.KindsP Go.Proofs.Ytkonloadedbpkaa.KindsS Go.Proofs.Ytkonloadedbpkaa.SameW Go.Proofs.Ytkonloadedbpkaa.TreeW Go.Proofs.Ytkonloadedbpkaa.TreeP Go.Proofs.Ytkonloadedbpkaa.ListsP Go.Proofs.Ytkonloadedbpkaa.RefW
open Go.Proofs.YtkonloadedbpkaaW.PrintWords
set_option linter.unusedVariables false
set_option linter.unusedSimpArgs false
set_option maxRecDepth 100000

abbrev ZN := ByteArray × List Int
def toZ (z : ZN) : PTreeLists.S27 := ⟨z.1, z.2⟩
/-- What is asked of a list of nodes. -/
structure Fit (zs : List ZN) : Prop where
  few : zs.length ≤ 1048576
  sum : (zs.map (·.2.length)).sum ≤ 1048576
  labs : ∀ z ∈ zs, z.1.size ≤ maxLen
def noneZ (zs : List ZN) : Bool := noneB (zs.map toZ)
theorem lo_z (zs : List ZN) (i : Nat) : lo (zs.map toZ) i = (zs.getD i (ByteArray.empty, [])).2 := by
  unfold lo PTreeLists.rd_T27
  rw [List.getD_eq_getElem?_getD, List.getD_eq_getElem?_getD, Int.toNat_natCast, List.getElem?_map]
  cases zs[i]? with
  | none => rfl
  | some z => rfl
theorem Fit.lo {zs : List ZN} (h : Fit zs) (i : Nat) : (lo (zs.map toZ) i).length ≤ 4194304 := by
  rw [lo_z, List.getD_eq_getElem?_getD]
  cases hz : zs[i]? with
  | none => simp
  | some z =>
    have := FoldSame.mem_le_sum (List.mem_map_of_mem (f := fun x : ZN => x.2.length) (List.mem_of_getElem? hz))
    have := h.sum
    simp only [Option.getD_some]
    omega
theorem z_nodes (l : List Nd) : (l.map toP).map toZ = l.map toL := by
  rw [List.map_map]
  rfl
/-- A list that is some: its nodes. -/
theorem some_z {zs : List ZN} (hf : Fit zs) (h : noneZ zs = false) : ∃ l : List Nd, zs = l.map toP ∧ Valid l ∧ 0 < l.length ∧ l.length ≤ 1048576 ∧ (l.map (·.2.length)).sum ≤ 1048576 ∧ (∀ x ∈ l, x.2.length ≤ 4194304) ∧ ∀ x ∈ l, x.1.size ≤ maxLen := by
  obtain ⟨l, h1, h2, h3⟩ := of_some h
  have e : zs = l.map toP := by
    have := congrArg (List.map (fun x : PTreeLists.S27 => (x.f0, x.f1))) h1
    rw [List.map_map, List.map_map] at this
    have e1 : ((fun x : PTreeLists.S27 => (x.f0, x.f1)) ∘ toZ) = id := rfl
    rw [e1, List.map_id] at this
    exact this
  subst e
  have hl := hf.few
  rw [List.length_map] at hl
  have hs := hf.sum
  rw [List.map_map] at hs
  have e2 : ((fun x : ZN => x.2.length) ∘ toP) = fun x : Nd => x.2.length := by
    funext x
    simp [toP, ints]
  rw [e2] at hs
  refine ⟨l, rfl, h2, h3, hl, hs, fun x hx => ?_, fun x hx => hf.labs (toP x) (List.mem_map_of_mem hx)⟩
  have := FoldSame.mem_le_sum (List.mem_map_of_mem (f := fun x : Nd => x.2.length) hx)
  omega
theorem none_nodes {l : List Nd} (hv : Valid l) (h0 : 0 < l.length) : noneZ (l.map toP) = false := by
  unfold noneZ
  rw [z_nodes]
  exact some_none hv h0
theorem zC {w : World} {A : Option Addr} {zs : List ZN} (h : Kd.C kP w A zs.length zs) : Kd.C PTreeLists.k27 w A (zs.map toZ).length (zs.map toZ) := by
  rw [List.length_map]
  exact iso_C (d := kP) (f := fun x : PTreeLists.S27 => (x.f0, x.f1)) (g := toZ) (fun x => rfl) h
theorem none_calls {w : World} {A : Option Addr} {c : Nat} {zs : List ZN} (hf : Fit zs) (hC : Kd.C kP w A zs.length zs) (hc : zs.length ≤ c) : Calls Try.prog 39 #[.slice A zs.length c] w fun e w' => e = .returned (.bool (noneZ zs)) ∧ Drawn0 w w' := by
  obtain ⟨K, hK⟩ := none_f (zs.map toZ) (by rw [List.length_map]; have := hf.few; omega) hf.lo
  have h := PTreeLists.lemmaref13_none.calls K A c (zs.map toZ) _ w (zC hC) (by rw [List.length_map]; exact hc) (hK K (Nat.le_refl _))
  rw [List.length_map] at h
  exact h
def sizeZ (zs : List ZN) : Nat := if noneZ zs then 0 else sizeN (zs.map (fun z => (z.1, z.2.map Int.toNat)))
def depthZ (zs : List ZN) : Nat := if noneZ zs then 0 else depthN (zs.map (fun z => (z.1, z.2.map Int.toNat)))
def labZ (zs : List ZN) : List ByteArray × Bool := if noneZ zs then ([], false) else labAns (zs.map (fun z => (z.1, z.2.map Int.toNat)))
theorem back_nodes (l : List Nd) : (l.map toP).map (fun z => (z.1, z.2.map Int.toNat)) = l := by
  rw [List.map_map]
  conv => rhs; rw [← List.map_id l]
  refine List.map_congr_left fun x _ => ?_
  obtain ⟨s, ks⟩ := x
  show (s, (ints ks).map Int.toNat) = (s, ks)
  unfold ints
  rw [List.map_map]
  congr 1
  conv => rhs; rw [← List.map_id ks]
  exact List.map_congr_left fun k _ => rfl
theorem size_z {l : List Nd} (hv : Valid l) (h0 : 0 < l.length) : sizeZ (l.map toP) = sizeN l := by
  unfold sizeZ
  rw [none_nodes hv h0, back_nodes]
  rfl
theorem depth_z {l : List Nd} (hv : Valid l) (h0 : 0 < l.length) : depthZ (l.map toP) = depthN l := by
  unfold depthZ
  rw [none_nodes hv h0, back_nodes]
  rfl
theorem lab_z {l : List Nd} (hv : Valid l) (h0 : 0 < l.length) : labZ (l.map toP) = labAns l := by
  unfold labZ
  rw [none_nodes hv h0, back_nodes]
  rfl
theorem rsize_calls {w : World} {A : Option Addr} {c : Nat} {zs : List ZN} (hf : Fit zs) (hC : Kd.C kP w A zs.length zs) (hc : zs.length ≤ c) : Calls Try.prog 16 #[.slice A zs.length c] w fun e w' => e = .returned (nat (sizeZ zs)) ∧ Below w.heap.size w w' := by
  have hk : ∃ K, PTreeLists.lemmaref13_Size.f K (zs.map toZ) = some ((sizeZ zs : Nat) : Int) := by
    cases hn : noneZ zs with
    | true =>
      obtain ⟨K, hK⟩ := size_none hn (by rw [List.length_map]; have := hf.few; omega) hf.lo
      exact ⟨K, by have := hK K (Nat.le_refl _); simp only at this; rw [this]; unfold sizeZ; rw [hn]; rfl⟩
    | false =>
      obtain ⟨l, rfl, hv, h0, hl, _, hks, _⟩ := some_z hf hn
      obtain ⟨K, hK⟩ := size_ev hv h0 (by omega) hks
      exact ⟨K, by rw [z_nodes, size_z hv h0]; exact hK K (Nat.le_refl _)⟩
  obtain ⟨K, hK⟩ := hk
  have h := PTreeLists.lemmaref13_Size.calls K A c (zs.map toZ) _ w (zC hC) (by rw [List.length_map]; exact hc) hK
  rw [List.length_map] at h
  exact h
theorem rdepth_calls {w : World} {A : Option Addr} {c : Nat} {zs : List ZN} (hf : Fit zs) (hC : Kd.C kP w A zs.length zs) (hc : zs.length ≤ c) : Calls Try.prog 17 #[.slice A zs.length c] w fun e w' => e = .returned (nat (depthZ zs)) ∧ Below w.heap.size w w' := by
  have hk : ∃ K, PTreeLists.lemmaref13_Depth.f K (zs.map toZ) = some ((depthZ zs : Nat) : Int) := by
    cases hn : noneZ zs with
    | true =>
      obtain ⟨K, hK⟩ := depth_none hn (by rw [List.length_map]; have := hf.few; omega) hf.lo
      exact ⟨K, by have := hK K (Nat.le_refl _); simp only at this; rw [this]; unfold depthZ; rw [hn]; rfl⟩
    | false =>
      obtain ⟨l, rfl, hv, h0, hl, _, hks, _⟩ := some_z hf hn
      obtain ⟨K, hK⟩ := depth_ev hv h0 (by omega) hks
      exact ⟨K, by rw [z_nodes, depth_z hv h0]; exact hK K (Nat.le_refl _)⟩
  obtain ⟨K, hK⟩ := hk
  have h := PTreeLists.lemmaref13_Depth.calls K A c (zs.map toZ) _ w (zC hC) (by rw [List.length_map]; exact hc) hK
  rw [List.length_map] at h
  exact h
theorem reps_one {α : Type} (P : α → List Value → Prop) (enc : α → Value) (hP : ∀ x cs, P x cs → cs = [enc x]) (xs : List α) (cs : List Value) (h : Reps P 1 xs cs) : cs = xs.map enc := by
  apply List.ext_getElem?
  intro j
  rw [List.getElem?_map]
  have hl : cs.length = xs.length := by have := h.1; simpa using this
  cases hx : xs[j]? with
  | none =>
    have := List.getElem?_eq_none_iff.1 hx
    exact List.getElem?_eq_none (by omega)
  | some x =>
    have h2 := hP _ _ (h.2 j x hx)
    rw [Nat.mul_one] at h2
    have h3 : cs[j]? = some (enc x) := by
      have := congrArg (·[0]?) h2
      simp only [List.getElem?_take, List.getElem?_drop] at this
      simpa using this
    rw [h3]
    rfl
theorem rlabels_calls {W w : World} {rs : List Res} {A : Option Addr} {c : Nat} {zs : List ZN} (M : Sep W w rs) (hf : Fit zs) (hC : Kd.C kP w A zs.length zs) (hc : zs.length ≤ c) : Calls Try.prog 18 #[.slice A zs.length c] w fun e w' => ∃ A' c', e = .returned (.tuple #[.slice A' (labZ zs).1.length c', .bool (labZ zs).2]) ∧ (labZ zs).1.length ≤ c' ∧
    Sep W w' (rowR 9 1 (.slice A' (labZ zs).1.length c') (labZ zs).1.length ((labZ zs).1.map Value.string) :: rs) := by
  have hk : ∃ K, PTreeLists.lemmaref13_Labels.f K (zs.map toZ) = some (labZ zs) := by
    cases hn : noneZ zs with
    | true =>
      obtain ⟨K, hK⟩ := labs_none hn (by rw [List.length_map]; have := hf.few; omega) hf.lo
      exact ⟨K, by have := hK K (Nat.le_refl _); simp only at this; rw [this]; unfold labZ; rw [hn]; rfl⟩
    | false =>
      obtain ⟨l, rfl, hv, h0, hl, _, hks, _⟩ := some_z hf hn
      obtain ⟨K, hK⟩ := labs_ev hv h0 (by omega) hks
      exact ⟨K, by rw [z_nodes, lab_z hv h0]; exact hK K (Nat.le_refl _)⟩
  obtain ⟨K, hK⟩ := hk
  have h := PTreeLists.lemmaref13_Labels.calls K A c (zs.map toZ) (labZ zs).1 (labZ zs).2 w (zC hC) (by rw [List.length_map]; exact hc) hK
  rw [List.length_map] at h
  refine h.mono ?_
  rintro e w' ⟨v, rfl, hR, hb⟩
  obtain ⟨_, inner, ho, hr⟩ := hR
  have hi := reps_one _ Value.string (fun x cs h => h) _ inner hr
  subst hi
  obtain ⟨A', c', ev, hc'⟩ := row_slice ho
  subst ev
  exact ⟨A', c', rfl, hc', M.fresh (f := fun k => w.heap.size ≤ k) ⟨hb.os, hb.tape, hb.output, hb.size, fun k hk _ => hb.block k hk⟩ ⟨owns_zero ho, fun k hk => own_base ho k hk⟩ (fun _ hk => hk)⟩
/-! ### Same -/
theorem cell_heap {w w' : World} (h : ∀ k, k < w.heap.size → w'.heap[k]? = w.heap[k]?) {a : Addr} {u : Value} (hu : w.cell? a = some u) : w'.cell? a = some u :=
  (cell_far (h _ (World.block_lt_of_cell? w a hu))).1.trans hu
theorem int_heap {w w' : World} (h : ∀ k, k < w.heap.size → w'.heap[k]? = w.heap[k]?) {A : Option Addr} {n : Nat} {ks : List Int} (hC : Kd.C (Kd.int .i64) w A n ks) : Kd.C (Kd.int .i64) w' A n ks := by
  obtain ⟨h1, h2, h3⟩ := hC
  refine ⟨h1, h2, fun hp => ?_⟩
  obtain ⟨ad, e, hc⟩ := h3 hp
  refine ⟨ad, e, fun j p hj => ?_⟩
  obtain ⟨cs, c1, c2, c3⟩ := hc j p hj
  exact ⟨cs, c1, c2, fun i u hu => cell_heap h (c3 i u hu)⟩
/-- Nodes that came in, in every world that has what was there. -/
theorem kP_heap {w w' : World} (h : ∀ k, k < w.heap.size → w'.heap[k]? = w.heap[k]?) {A : Option Addr} {n : Nat} {zs : List ZN} (hC : Kd.C kP w A n zs) : Kd.C kP w' A n zs := by
  obtain ⟨h1, h2, h3⟩ := hC
  refine ⟨h1, h2, fun hp => ?_⟩
  obtain ⟨ad, e, hc⟩ := h3 hp
  refine ⟨ad, e, fun j p hj => ?_⟩
  obtain ⟨cs, c1, c2, c3⟩ := hc j p hj
  obtain ⟨a0, a1, e2, m0, ⟨A', c', e3, hle, hCi⟩⟩ := c2
  exact ⟨cs, c1, ⟨a0, a1, e2, m0, ⟨A', c', e3, hle, int_heap h hCi⟩⟩, fun i u hu => cell_heap h (c3 i u hu)⟩
def sameZ (za zb : List ZN) : Bool := if noneZ za || noneZ zb then false else decide (lastA (za.map (fun z => (z.1, z.2.map Int.toNat))) = lastB (za.map (fun z => (z.1, z.2.map Int.toNat))) (zb.map (fun z => (z.1, z.2.map Int.toNat))))
theorem build72 (w : World) : (Instr.build 72 #[]).run Try.prog w = .ok (.agg #[.slice none 0 0]) w := by kernel_rfl
theorem eq_nat (a b : Nat) : ((a : Int) == (b : Int)) = decide (a = b) := by
  by_cases h : a = b
  · subst h
    simp
  · rw [decide_eq_false h, beq_eq_false_iff_ne]
    omega
set_option maxHeartbeats 8000000 in
theorem rsame_calls {w : World} {A B : Option Addr} {ca cb : Nat} {za zb : List ZN} (hfa : Fit za) (hfb : Fit zb) (hA : Kd.C kP w A za.length za) (hca : za.length ≤ ca) (hB : Kd.C kP w B zb.length zb) (hcb : zb.length ≤ cb) :
    Calls Try.prog 20 #[.slice A za.length ca, .slice B zb.length cb] w fun e w' => e = .returned (.bool (sameZ za zb)) ∧ Below w.heap.size w w' := by
  have h1 := none_calls hfa hA hca
  have HA := Aside0.mk hA
  have HB := Aside0.mk hB
  clear hA hB
  have hb72 := build72
  go_enter Try.func20, Try.ntmps20
  go_wp2_with fail
  refine h1.mono ?_
  clear h1
  rintro e w1 ⟨rfl, ⟨n1, rfl⟩⟩
  cases hna : noneZ za with
  | true =>
    have HS := Aside0.mk (show sameZ za zb = false by unfold sameZ; rw [hna]; rfl)
    go_wp2_with fail
    go_ret
    exact ⟨by rw [HS.out]; rfl, Drawn0.below ⟨_, rfl⟩⟩
  | false =>
    have h2 := none_calls hfb (Kd.C_drewN HB.out n1) hcb
    go_wp2_with fail
    refine h2.mono ?_
    clear h2
    rintro e w2 ⟨rfl, ⟨n2, rfl⟩⟩
    cases hnb : noneZ zb with
    | true =>
      have HS := Aside0.mk (show sameZ za zb = false by unfold sameZ; rw [hnb, Bool.or_true]; rfl)
      go_wp2_with fail
      go_ret
      exact ⟨by rw [HS.out]; rfl, Drawn0.below ⟨_, rfl⟩⟩
    | false =>
      obtain ⟨a, rfl, hva, h0a, hla, hsa, hka, _⟩ := some_z hfa hna
      obtain ⟨b, rfl, hvb, h0b, hlb, hsb, hkb, _⟩ := some_z hfb hnb
      have hsm : sameZ (a.map toP) (b.map toP) = decide (lastA a = lastB a b) := by
        unfold sameZ
        rw [hna, hnb, back_nodes, back_nodes]
        rfl
      have HS := Aside0.mk hsm
      have hla2 : (a.map toP).length = a.length := List.length_map ..
      have hlb2 : (b.map toP).length = b.length := List.length_map ..
      rw [hla2] at HA hca ⊢
      rw [hlb2] at HB hcb ⊢
      have hpast : ∀ w', (∀ k, k < w.heap.size → w'.heap[k]? = w.heap[k]?) → NodesC A a w' ∧ NodesC B b w' := by
        intro w' hw
        refine ⟨?_, ?_⟩
        · show Kd.C kP w' A a.length (a.map toP)
          exact kP_heap hw HA.out
        · show Kd.C kP w' B b.length (b.map toP)
          exact kP_heap hw HB.out
      have hM0 := Aside0.mk (read_old (C := fun w' => NodesC A a w' ∧ NodesC B b w') (Sep.start w) hpast)
      clear hpast hsm hla2 hlb2 HA HB
      have hM1 : Sep w ((w.drewN (n1 + n2)).alloc (.cells #[.slice none 0 0] 72)) (tabR w.heap.size none 0 [] (readR w (fun w' => NodesC A a w' ∧ NodesC B b w') :: [])) := by
        have h1 := hM0.out.drawn (w' := w.drewN (n1 + n2)) ⟨_, rfl⟩
        have h2 := box_fresh (row_nil (kids_none h1) 27 2) 72 #[.slice none 0 0]
        rw [show (w.drewN (n1 + n2)).heap.size = w.heap.size from rfl] at h2
        exact h2
      have HK := Aside0.mk (show KB (([] : List PartM).map nd) from fun x hx => by simp at hx)
      have HVa := Aside0.mk hva
      have HVb := Aside0.mk hvb
      have HKa := Aside0.mk hka
      have HKb := Aside0.mk hkb
      have M1 := Aside0.mk hM1
      clear hM1 hM0 hva hvb hka hkb
      go_wp2_with fail
      refine (numbers_calls (cl := ca) (by simp; omega) (by omega) HVa.out HKa.out HK.out M1.out (fun _ h => h.1)).mono ?_
      rintro e w3 ⟨items3, A3, c3, Ax, cx, rfl, hI3, hcx, hkb3, hm3⟩
      have hI3' : items3.map nd = kT a := hI3
      have hil : items3.length ≤ a.length := by
        have h1 := congrArg List.length hI3'
        rw [List.length_map] at h1
        have h2 := ShareR.kT_le a [] a.length
        have h3 : (kT a).length ≤ 0 + a.length := h2
        omega
      have hm4 : Sep w w3 (tabR w.heap.size A3 c3 items3 (readR w (fun w' => NodesC A a w' ∧ NodesC B b w') :: rowR 3 1 (.slice Ax a.length cx) a.length ((kN a).map nat) :: [])) := ShareL.sink4 hm3
      have M := Aside0.mk hm4
      have HKB3 := Aside0.mk hkb3
      have HI3 := Aside0.mk hI3'
      clear hm3 hm4 hkb3 hI3 hI3' M1
      go_wp2_with fail
      have hcl := numbers_calls (cl := cb) (by omega) (by omega) HVb.out HKb.out HKB3.out M.out (fun _ h => h.2)
      rw [HI3.out] at hcl
      refine hcl.mono ?_
      clear hcl
      rintro e w4 ⟨items4, A4, c4, Ay, cy, rfl, _, hcy, _, hm4⟩
      have hnx : (kN a)[a.length - 1]? = some (lastA a) := by
        have hl : (kN a).length = a.length := kTo_len a [] a.length
        unfold lastA
        rw [List.getD_eq_getElem?_getD, List.getElem?_eq_getElem (by omega)]
        rfl
      have hny : (kTo b (kT a) b.length).2[b.length - 1]? = some (lastB a b) := by
        have hl : (kTo b (kT a) b.length).2.length = b.length := kTo_len b (kT a) b.length
        unfold lastB
        rw [List.getD_eq_getElem?_getD, List.getElem?_eq_getElem (by omega)]
        rfl
      obtain ⟨gy, cp, hvy, _, hcelly, _⟩ := row_some hm4.row (by omega)
      simp only [Value.slice.injEq, true_and] at hvy
      obtain ⟨rfl, rfl⟩ := hvy
      obtain ⟨gx, cp, hvx, _, hcellx, _⟩ := row_some (hm4.pull 5 (by simp [tabR])).row (by omega)
      simp only [Value.slice.injEq, true_and] at hvx
      obtain ⟨rfl, rfl⟩ := hvx
      have r0 : w4.cell? ⟨gx, a.length - 1, none⟩ = some (.int .i64 (lastA a : Int)) := hcellx _ _ (by rw [List.getElem?_map, hnx]; rfl)
      have r1 : w4.cell? ⟨gy, b.length - 1, none⟩ = some (.int .i64 (lastB a b : Int)) := hcelly _ _ (by rw [List.getElem?_map, hny]; rfl)
      have HBL := Aside0.mk hm4.1
      have i0 : (a.length : Int) - 1 = ((a.length - 1 : Nat) : Int) := by omega
      have i1 : (b.length : Int) - 1 = ((b.length - 1 : Nat) : Int) := by omega
      clear hm4 M hcellx hcelly hnx hny
      generalize lastA a = na at r0 HS
      generalize lastB a b = nb at r1 HS
      go_wp2_with fail
      go_quiet (fail)
      go_wp2_with fail
      trace_state
      go_ret
      exact ⟨by rw [HS.out, ← eq_nat]; rfl, HBL.out.trans ((Drawn0.below ⟨_, rfl⟩).mono HBL.out.size)⟩
end Go.Proofs.Ytkonloadedbpkaa.RefS
