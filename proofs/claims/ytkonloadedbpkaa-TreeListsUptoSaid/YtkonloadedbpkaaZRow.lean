/- For every two lists of nodes, of at most 1048576 values and letters together: Size, Depth, Labels, Share and Same answer as the reference does, and leave what they are given as it was (TreeLists answers true, its arguments as they were). -/
import Derived.Test.YtkonloadedbpkaaZ18
import Derived.Test.YtkonloadedbpkaaZ17
import Derived.Test.YtkonloadedbpkaaRows
import Derived.Test.YtkonloadedbpkaaZ7
import Derived.WalkKit
import Derived.ProofKit
import Derived.OpenShut
import Derived.JoinedCond
import Derived.ChangeOld
import Derived.Carry
import Derived.SliceStrings
namespace Go.Proofs.Ytkonloadedbpkaa.TreeZ
open Go.RowKit Go.Maps Go.Proofs.Ytkonloadedbpkaa.Lits Go.Proofs.Ytkonloadedbpkaa.LabX Go.Proofs.Ytkonloadedbpkaa.Sep Go.Proofs.Ytkonloadedbpkaa.FMaps Go.Proofs.Ytkonloadedbpkaa.FoldPure Go.Proofs.Ytkonloadedbpkaa.FoldMem Go.Proofs.Ytkonloadedbpkaa.Gather Go.Proofs.Ytkonloadedbpkaa.NodeMem Go.Proofs.Ytkonloadedbpkaa.Kept Go.Proofs.Ytkonloadedbpkaa.KindsP Go.Proofs.Ytkonloadedbpkaa.KindsS Go.Proofs.Ytkonloadedbpkaa.TreeW Go.Proofs.Ytkonloadedbpkaa.TreeP Go.Proofs.Ytkonloadedbpkaa.ListsP Go.Proofs.Ytkonloadedbpkaa.ShareP Go.Proofs.Ytkonloadedbpkaa.ShareR Go.Proofs.Ytkonloadedbpkaa.RefS Go.Proofs.Ytkonloadedbpkaa.RefH Go.Proofs.Ytkonloadedbpkaa.NoneT Go.Proofs.Ytkonloadedbpkaa.SameW
open Go.Proofs.YtkonloadedbpkaaW.PrintWords
set_option linter.unusedVariables false
set_option linter.unusedSimpArgs false

theorem sep_below {W w w' : World} {rs : List Res} (M : Sep W w rs) (hb : Below w.heap.size w w') : Sep W w' rs :=
  (M.fresh (r := kidsR []) (w' := w') (f := fun k => w.heap.size ≤ k) ⟨hb.os, hb.tape, hb.output, hb.size, fun k hk _ => hb.block k hk⟩ (fun q hq => by simp at hq) (fun _ hk => hk)).tail
theorem size_none_z {zs : List ZN} (hn : noneZ zs = true) : sizeZ zs = 0 := by unfold sizeZ; rw [hn]; rfl
theorem depth_none_z {zs : List ZN} (hn : noneZ zs = true) : depthZ zs = 0 := by unfold depthZ; rw [hn]; rfl
theorem lab_none_z {zs : List ZN} (hn : noneZ zs = true) : labZ zs = ([], false) := by unfold labZ; rw [hn]; rfl
theorem share_none_z {zs : List ZN} (hn : noneZ zs = true) : shareZ zs = [] := by unfold shareZ; rw [hn]; rfl
theorem tsize_calls {W w : World} {rs : List Res} {A : Option Addr} {c : Nat} {zs : List ZN} {C : World → Prop} (hf : Fit zs) (hM : Sep W w (readR W C :: rs)) (hCC : ∀ w', C w' → Kd.C kP w' A zs.length zs) (hc : zs.length ≤ c) :
    Calls Try.prog 23 #[.slice A zs.length c] w fun e w' => e = .returned (nat (sizeZ zs)) ∧ Sep W w' (readR W C :: rs) := by
  cases hn : noneZ zs with
  | true =>
    refine (nsize_calls hf (hCC _ (read_at hM)) hc hn).mono ?_
    rintro e w' ⟨rfl, hb⟩
    exact ⟨by rw [size_none_z hn]; rfl, sep_below hM hb⟩
  | false =>
    obtain ⟨l, rfl, hv, h0, hl, hs, hks, _⟩ := some_z hf hn
    have hl2 : (l.map toP).length = l.length := List.length_map ..
    rw [size_z hv h0]
    rw [hl2] at hCC ⊢
    exact size_calls hM hCC h0 (by omega) hv (by omega)
theorem tdepth_calls {W w : World} {rs : List Res} {A : Option Addr} {c : Nat} {zs : List ZN} {C : World → Prop} (hf : Fit zs) (hM : Sep W w (readR W C :: rs)) (hCC : ∀ w', C w' → Kd.C kP w' A zs.length zs) (hc : zs.length ≤ c) :
    Calls Try.prog 24 #[.slice A zs.length c] w fun e w' => e = .returned (nat (depthZ zs)) ∧ Sep W w' (readR W C :: rs) := by
  cases hn : noneZ zs with
  | true =>
    refine (ndepth_calls hf (hCC _ (read_at hM)) hc hn).mono ?_
    rintro e w' ⟨rfl, hb⟩
    exact ⟨by rw [depth_none_z hn]; rfl, sep_below hM hb⟩
  | false =>
    obtain ⟨l, rfl, hv, h0, hl, hs, hks, _⟩ := some_z hf hn
    have hl2 : (l.map toP).length = l.length := List.length_map ..
    rw [depth_z hv h0]
    rw [hl2] at hCC ⊢
    exact depth_calls hM hCC h0 (by omega) hv (by omega)
theorem lab_z_len (zs : List ZN) : (labZ zs).1.length ≤ 2000 := by
  unfold labZ
  split
  · simp
  · unfold labAns
    split
    · assumption
    · simp
theorem labs_read {W w : World} {rs : List Res} {A' : Option Addr} {c' : Nat} {ls : List ByteArray} {C : World → Prop} (hl : ls.length ≤ 4194304) (h : Sep W w (rowR 9 1 (.slice A' ls.length c') ls.length (ls.map Value.string) :: readR W C :: rs)) :
    Sep W w (readR W (fun w' => Kd.C Kd.string w' A' ls.length ls ∧ C w') :: rs) :=
  ShareL.join_read (fun w' => Kd.C Kd.string w' A' ls.length ls) h (fun w f h => (row_Cs h.1 (by omega)).2)
theorem tlabels_calls {W w : World} {rs : List Res} {A : Option Addr} {c : Nat} {zs : List ZN} {C : World → Prop} (hf : Fit zs) (hM : Sep W w (readR W C :: rs)) (hCC : ∀ w', C w' → Kd.C kP w' A zs.length zs) (hc : zs.length ≤ c) :
    Calls Try.prog 22 #[.slice A zs.length c] w fun e w' => ∃ A' c', e = .returned (.tuple #[.slice A' (labZ zs).1.length c', .bool (labZ zs).2]) ∧ (labZ zs).1.length ≤ c' ∧ Sep W w' (readR W (fun w' => Kd.C Kd.string w' A' (labZ zs).1.length (labZ zs).1 ∧ C w') :: rs) := by
  cases hn : noneZ zs with
  | true =>
    refine (nlabels_calls hf (hCC _ (read_at hM)) hc hn).mono ?_
    rintro e w' ⟨rfl, hb⟩
    rw [lab_none_z hn]
    exact ⟨none, 0, rfl, Nat.le_refl _, read_weak (sep_below hM hb) (fun w' h => ⟨Kd.C_nil _ _, h⟩)⟩
  | false =>
    obtain ⟨l, rfl, hv, h0, hl, hs, hks, _⟩ := some_z hf hn
    have hl2 : (l.map toP).length = l.length := List.length_map ..
    rw [lab_z hv h0]
    rw [hl2] at hCC ⊢
    refine (LabX.labels_calls (c := c) hM hCC h0 (by omega) hv (by omega)).mono ?_
    intro e w' h
    unfold LabOut at h
    unfold labAns
    by_cases h2 : (labN l).length ≤ 2000
    · rw [if_pos h2] at h
      simp only [if_pos h2]
      obtain ⟨v, rfl, hm⟩ := h
      obtain ⟨A', c', rfl, hc'⟩ := row_slice hm.row
      exact ⟨A', c', rfl, hc', labs_read (by omega) hm⟩
    · rw [if_neg h2] at h
      simp only [if_neg h2]
      obtain ⟨rfl, hm⟩ := h
      exact ⟨none, 0, rfl, Nat.le_refl _, read_weak hm (fun w' h => ⟨Kd.C_nil _ _, h⟩)⟩
theorem rlabs_calls {W w : World} {rs : List Res} {A : Option Addr} {c : Nat} {zs : List ZN} {C : World → Prop} (hf : Fit zs) (hM : Sep W w (readR W C :: rs)) (hCC : ∀ w', C w' → Kd.C kP w' A zs.length zs) (hc : zs.length ≤ c) :
    Calls Try.prog 18 #[.slice A zs.length c] w fun e w' => ∃ A' c', e = .returned (.tuple #[.slice A' (labZ zs).1.length c', .bool (labZ zs).2]) ∧ (labZ zs).1.length ≤ c' ∧ Sep W w' (readR W (fun w' => Kd.C Kd.string w' A' (labZ zs).1.length (labZ zs).1 ∧ C w') :: rs) := by
  refine (rlabels_calls hM hf (hCC _ (read_at hM)) hc).mono ?_
  rintro e w' ⟨A', c', rfl, hc', hm⟩
  exact ⟨A', c', rfl, hc', labs_read (by have := lab_z_len zs; omega) hm⟩
/-! ### Share -/
theorem share_key {l : List Nd} (hv : Valid l) (h0 : 0 < l.length) : ∀ x ∈ shareN l, ∃ y ∈ l, y.1 = x.1 ∧ y.2.length = x.2.length := by
  intro x hx
  obtain ⟨p, hpl, rfl⟩ := List.mem_iff_getElem.1 hx
  obtain ⟨i, hi⟩ := came_from hv h0 hpl
  obtain ⟨hil, _, e, e2, _⟩ := came_bis hv h0 i p hi
  exact ⟨l[i], List.getElem_mem hil, e, e2⟩
theorem share_fits {zs : List ZN} (hf : Fit zs) : (shareZ zs).length ≤ 1048576 ∧ ∀ x ∈ shareZ zs, x.2.length ≤ 4194304 := by
  cases hn : noneZ zs with
  | true => rw [share_none_z hn]; simp
  | false =>
    obtain ⟨l, rfl, hv, h0, hl, hs, hks, _⟩ := some_z hf hn
    rw [share_z hv h0]
    refine ⟨by have := share_le hv h0; omega, fun x hx => ?_⟩
    obtain ⟨y, hy, _, e⟩ := share_key hv h0 x hx
    rw [← e]
    exact hks y hy
theorem share_rows {W w : World} {rs : List Res} {A' : Option Addr} {c' : Nat} {items : List PartM} {zs : List ZN} {C : World → Prop} (hf : Fit zs) (hI : items.map nd = shareZ zs) (hm : Sep W w (rowR 27 2 (.slice A' items.length c') items.length (nodeCells items) :: kidsR items :: readR W C :: rs)) :
    Sep W w (readR W (fun w' => NodesC A' (shareZ zs) w' ∧ C w') :: rs) := by
  obtain ⟨f1, f2⟩ := share_fits hf
  have hlen : items.length = (shareZ zs).length := by rw [← hI, List.length_map]
  have h1 := nodes_read (c := c') hm (by omega) (fun q hq => f2 (nd q) (by rw [← hI]; exact List.mem_map_of_mem hq))
  rw [hI] at h1
  exact SharesW.read_both h1
theorem tshare_calls {W w : World} {rs : List Res} {A : Option Addr} {c : Nat} {zs : List ZN} {C : World → Prop} (hf : Fit zs) (hM : Sep W w (readR W C :: rs)) (hCC : ∀ w', C w' → Kd.C kP w' A zs.length zs) (hc : zs.length ≤ c) :
    Calls Try.prog 27 #[.slice A zs.length c] w fun e w' => ∃ A' c', e = .returned (.slice A' (shareZ zs).length c') ∧ (shareZ zs).length ≤ c' ∧ Sep W w' (readR W (fun w' => NodesC A' (shareZ zs) w' ∧ C w') :: rs) := by
  cases hn : noneZ zs with
  | true =>
    refine (nshare_calls hf (fun w' hw => hCC _ (read_hold hM w' hw)) hc hn).mono ?_
    rintro e w' ⟨rfl, hb⟩
    rw [share_none_z hn]
    exact ⟨none, 0, rfl, Nat.le_refl _, read_weak (sep_below hM hb) (fun w' h => ⟨Kd.C_nil _ _, h⟩)⟩
  | false =>
    obtain ⟨l, rfl, hv, h0, hl, hs, hks, hlab⟩ := some_z hf hn
    have hl2 : (l.map toP).length = l.length := List.length_map ..
    rw [hl2] at hCC ⊢
    refine (ShareL.share_calls (c := c) hM hCC h0 (by omega) hv (by omega) hlab).mono ?_
    rintro e w' ⟨A', c', items, rfl, hI, hc', hm⟩
    rw [← share_z hv h0] at hI
    have hlen : items.length = (shareZ (l.map toP)).length := by rw [← hI, List.length_map]
    rw [← hlen]
    exact ⟨A', c', rfl, hc', share_rows hf hI hm⟩
theorem rshares_calls {W w : World} {rs : List Res} {A : Option Addr} {c : Nat} {zs : List ZN} {C : World → Prop} (hf : Fit zs) (hM : Sep W w (readR W C :: rs)) (hCC : ∀ w', C w' → Kd.C kP w' A zs.length zs) (hc : zs.length ≤ c) :
    Calls Try.prog 19 #[.slice A zs.length c] w fun e w' => ∃ A' c', e = .returned (.slice A' (shareZ zs).length c') ∧ (shareZ zs).length ≤ c' ∧ Sep W w' (readR W (fun w' => NodesC A' (shareZ zs) w' ∧ C w') :: rs) := by
  refine (rshare_calls (c := c) hf hM hCC hc).mono ?_
  rintro e w' ⟨A', c', items, rfl, hI, hc', hm⟩
  have hlen : items.length = (shareZ zs).length := by rw [← hI, List.length_map]
  rw [← hlen]
  exact ⟨A', c', rfl, hc', share_rows hf hI hm⟩
/-! ### Same -/
theorem same_none_z {za zb : List ZN} (hn : (noneZ za || noneZ zb) = true) : sameZ za zb = false := by unfold sameZ; rw [hn]; rfl
theorem tsame_calls {W w : World} {rs : List Res} {A B : Option Addr} {ca cb : Nat} {za zb : List ZN} {C : World → Prop} (hfa : Fit za) (hfb : Fit zb) (hM : Sep W w (readR W C :: rs)) (hCA : ∀ w', C w' → Kd.C kP w' A za.length za) (hCB : ∀ w', C w' → Kd.C kP w' B zb.length zb) (hca : za.length ≤ ca) (hcb : zb.length ≤ cb) :
    Calls Try.prog 28 #[.slice A za.length ca, .slice B zb.length cb] w fun e w' => e = .returned (.bool (sameZ za zb)) ∧ Sep W w' (readR W C :: rs) := by
  cases hn : (noneZ za || noneZ zb) with
  | true =>
    refine (nsame_calls hfa (hCA _ (read_at hM)) hca hfb (fun w' hw => hCB _ (read_hold hM w' hw)) hcb hn).mono ?_
    rintro e w' ⟨rfl, hb⟩
    exact ⟨by rw [same_none_z hn], sep_below hM hb⟩
  | false =>
    rw [Bool.or_eq_false_iff] at hn
    obtain ⟨hna, hnb⟩ := hn
    obtain ⟨a, rfl, hva, h0a, hla, hsa, hka, hlaba⟩ := some_z hfa hna
    obtain ⟨b, rfl, hvb, h0b, hlb, hsb, hkb, hlabb⟩ := some_z hfb hnb
    have hsm : sameZ (a.map toP) (b.map toP) = decide (lastA a = lastB a b) := by
      unfold sameZ
      rw [hna, hnb, back_nodes, back_nodes]
      rfl
    rw [hsm]
    have hla2 : (a.map toP).length = a.length := List.length_map ..
    have hlb2 : (b.map toP).length = b.length := List.length_map ..
    rw [hla2] at hCA ⊢
    rw [hlb2] at hCB ⊢
    exact same_calls hM hCA hCB h0a (by omega) hva (by omega) hlaba h0b (by omega) hvb (by omega) hlabb
end Go.Proofs.Ytkonloadedbpkaa.TreeZ

namespace Go.Proofs.Ytkonloadedbpkaa.ListsW
open Go.RowKit Go.Maps Go.Proofs.Ytkonloadedbpkaa.Lits Go.Proofs.Ytkonloadedbpkaa.Sep Go.Proofs.Ytkonloadedbpkaa.FMaps Go.Proofs.Ytkonloadedbpkaa.FoldPure Go.Proofs.Ytkonloadedbpkaa.FoldMem Go.Proofs.Ytkonloadedbpkaa.Gather Go.Proofs.Ytkonloadedbpkaa.NodeMem Go.Proofs.Ytkonloadedbpkaa.Kept Go.Proofs.Ytkonloadedbpkaa.Spare Go.Proofs.Ytkonloadedbpkaa.RefS Go.Proofs.Ytkonloadedbpkaa.RefH Go.Proofs.Ytkonloadedbpkaa.LentW Go.Proofs.Ytkonloadedbpkaa.StillW Go.Proofs.Ytkonloadedbpkaa.TreeZ
open Go.Proofs.YtkonloadedbpkaaW.PrintWords
set_option linter.unusedVariables false
set_option linter.unusedSimpArgs false
set_option maxRecDepth 100000

theorem spare_z {x y : Int} {A : Option Addr} {its : List SpM} {tl : List Value} {w : World} {zs : List ZN} (h : SpareC x y A its tl w) (hI : its.map pr = zs) : Kd.C kP w A zs.length zs := by
  subst hI
  rw [List.length_map]
  exact h.nodes
theorem nodes_of {w : World} {A B : Option Addr} {ca cb : Nat} {m : List Nd} (h1 : m.length ≤ 4194304) (h2 : ∀ x ∈ m, x.2.length ≤ 4194304) (hA : NodesC A m w) (ha : m.length ≤ ca) (hB : NodesC B m w) (hb : m.length ≤ cb) :
    Calls Try.prog 26 #[.slice A m.length ca, .slice B m.length cb] w fun e w' => e = .returned (.bool true) ∧ Drawn0 w w' := by
  have hl : (m.map toP).length = m.length := List.length_map ..
  have h := nodesw_calls (w := w) (A := A) (B := B) (ca := ca) (cb := cb) (zs := m.map toP) (by omega) (fun z hz => by
    obtain ⟨x, hx, rfl⟩ := List.mem_map.1 hz
    have := h2 x hx
    show (ints x.2).length ≤ _
    simpa using this) (by rw [hl]; exact hA) (by omega) (by rw [hl]; exact hB) (by omega)
  rw [hl] at h
  exact h
set_option maxHeartbeats 16000000 in
theorem lists_calls {w : World} {A B : Option Addr} {ca cb : Nat} {za zb : List ZN} (hfa : Fit za) (hfb : Fit zb) (hA : Kd.C kP w A za.length za) (hca : za.length ≤ ca) (hB : Kd.C kP w B zb.length zb) (hcb : zb.length ≤ cb) :
    Calls Try.prog 5 #[.slice A za.length ca, .slice B zb.length cb] w fun e w' => e = .returned (.bool true) ∧ Below w.heap.size w w' := by
  have M := Aside0.mk (read_old (C := fun w' => Kd.C kP w' A za.length za ∧ Kd.C kP w' B zb.length zb) (Sep.start w) (fun w' hw => ⟨kP_heap hw hA, kP_heap hw hB⟩))
  have FA := Aside0.mk hfa
  have FB := Aside0.mk hfb
  have hna := hfa.few
  have hnb := hfb.few
  have HShF := Aside0.mk (share_fits hfa)
  have HLb := lab_z_len za
  clear hA hB hfa hfb
  go_enter Try.func5, Try.ntmps5
  go_wp2_with fail
  refine (rsize_calls FA.out (read_at M.out).1 hca).mono ?_
  rintro e w1 ⟨rfl, hb⟩
  have hm := sep_below M.out hb
  clear M hb
  have M := Aside0.mk hm
  clear hm
  go_wp2_with fail
  refine (rdepth_calls FA.out (read_at M.out).1 hca).mono ?_
  rintro e w2 ⟨rfl, hb⟩
  have hm := sep_below M.out hb
  clear M hb
  have M := Aside0.mk hm
  clear hm
  go_wp2_with fail
  refine (rlabs_calls FA.out M.out (fun _ h => h.1) hca).mono ?_
  rintro e w3 ⟨A3, c3, rfl, hc3, hm⟩
  clear M
  have M := Aside0.mk hm
  clear hm
  go_wp2_with fail
  refine (rshares_calls FA.out M.out (fun _ h => h.2.1) hca).mono ?_
  rintro e w4 ⟨A4, c4, rfl, hc4, hm⟩
  clear M
  have M := Aside0.mk hm
  clear hm
  go_wp2_with fail
  refine (rsame_calls FA.out FB.out (read_at M.out).2.2.1 hca (read_at M.out).2.2.2 hcb).mono ?_
  rintro e w5 ⟨rfl, hb⟩
  have hm := sep_below M.out hb
  clear M hb
  have M := Aside0.mk hm
  clear hm
  go_wp2_with fail
  refine (lent_calls (c := ca) FA.out M.out (fun _ h => h.2.2.1)).mono ?_
  rintro e w6 ⟨ga, c6, ita, rfl, hIa, hc6, hm⟩
  clear M
  have M := Aside0.mk (SharesW.read_both hm)
  have HIA := Aside0.mk hIa
  clear hm hIa
  go_wp2_with fail
  refine (lent_calls (c := cb) FB.out M.out (fun _ h => h.2.2.2.2)).mono ?_
  rintro e w7 ⟨gb, c7, itb, rfl, hIb, hc7, hm⟩
  clear M
  have M := Aside0.mk (SharesW.read_both hm)
  have HIB := Aside0.mk hIb
  clear hm hIb
  have hca6 : za.length ≤ c6 := by omega
  have hcb7 : zb.length ≤ c7 := by omega
  go_wp2_with fail
  refine (tlabels_calls (c := c6) FA.out M.out (fun _ h => spare_z h.2.1 HIA.out) hca6).mono ?_
  rintro e w8 ⟨A8, c8, rfl, hc8, hm⟩
  clear M
  have M := Aside0.mk hm
  clear hm
  have HS := Aside0.mk (tsize_calls (c := c6) FA.out M.out (fun _ h => spare_z h.2.2.1 HIA.out) hca6)
  clear M
  have hneq : ((za.length : Int) + 2 != (za.length : Int) + 2) = false := by simp
  generalize hsz : sizeZ za = sz at *
  generalize hdp : depthZ za = dp at *
  unfold nat at *
  go_wp2_with fail
  refine HS.out.mono ?_
  clear HS
  rintro e w9 ⟨rfl, hm⟩
  have M := Aside0.mk hm
  clear hm
  have HD := tdepth_calls (c := c6) FA.out M.out (fun _ h => spare_z h.2.2.1 HIA.out) hca6
  rw [hdp] at HD
  unfold nat at *
  go_wp2_with fail
  refine HD.mono ?_
  clear HD
  rintro e w10 ⟨rfl, hm⟩
  clear M
  have M := Aside0.mk hm
  clear hm
  go_wp2_with fail
  have hcc := read_at M.out
  refine (SharesQ.texts_calls hcc.1 hc8 hcc.2.2.2.2.1 hc3 (by omega)).mono ?_
  clear hcc
  rintro e w11 ⟨rfl, hd⟩
  have hm := M.out.drawn hd
  clear M hd
  have M := Aside0.mk hm
  clear hm
  go_wp2_with fail
  refine (tshare_calls (c := c6) FA.out M.out (fun _ h => spare_z h.2.2.1 HIA.out) hca6).mono ?_
  rintro e w12 ⟨A12, c12, rfl, hc12, hm⟩
  clear M
  have M := Aside0.mk hm
  clear hm
  go_wp2_with fail
  have hcc := read_at M.out
  refine (nodes_of (by have := HShF.out.1; omega) HShF.out.2 hcc.1 hc12 hcc.2.2.2.2.1 hc4).mono ?_
  clear hcc
  rintro e w13 ⟨rfl, hd⟩
  have hm := M.out.drawn hd
  clear M hd
  have M := Aside0.mk hm
  clear hm
  go_wp2_with fail
  have HSm := tsame_calls (ca := c6) (cb := c7) FA.out FB.out M.out (fun _ h => spare_z h.2.2.2.1 HIA.out) (fun _ h => spare_z h.2.2.1 HIB.out) hca6 hcb7
  generalize sameZ za zb = sm at *
  refine HSm.mono ?_
  clear HSm
  rintro e w14 ⟨rfl, hm⟩
  clear M
  have M := Aside0.mk hm
  clear hm
  have hbb : (sm != sm) = false := by simp
  go_wp2_with fail
  refine (still_calls (c := ca) FA.out M.out (fun _ h => h.2.2.2.1) (fun _ h => h.2.2.2.2.2.2.1) HIA.out hca hc6).mono ?_
  rintro e w15 ⟨rfl, hm⟩
  clear M
  have M := Aside0.mk hm
  clear hm
  go_wp2_with fail
  refine (still_calls (c := cb) FB.out M.out (fun _ h => h.2.2.1) (fun _ h => h.2.2.2.2.2.2.2) HIB.out hcb hc7).mono ?_
  rintro e w16 ⟨rfl, hm⟩
  clear M
  have M := Aside0.mk hm
  clear hm
  go_wp2_with fail
  go_ret
  exact ⟨rfl, M.out.1⟩
end Go.Proofs.Ytkonloadedbpkaa.ListsW

namespace Go.Proofs.Ytkonloadedbpkaa.treeLists
open Go.ChangeShapes Go.WideShapes Go.ChangeAt Go.RowKit
open Go.Proofs.YtkonloadedbpkaaW.PrintWords
set_option linter.unusedVariables false

theorem own : ownKnob Try.prog.godebug = none := by kernel_rfl
theorem laidOut : laidOutB Try.prog = true := by kernel_rfl
set_option maxRecDepth 100000 in
/-- What the walk gives. -/
theorem contract (H : Type) (enc : TypeId × Value → H) (W : World) (base : Nat) (args : Array Value) (ds gs : List (DataW H)) (before : List MemPlace)
    (hval : ∀ (j : Nat) t v, Try.f5.params[j]? = some t → args[j]? = some v → Value.okWide Try.prog W .any base t v)
    (hW : DataW.Whole enc Try.prog Try.f5.params.toList Rows.treeListsSpec.vars false W args.toList ds gs before) (hk : Rows.uptoSmall H (ds ++ gs) = true) :
    Calls Try.prog 5 args W fun e W' => ∃ v, e = .returned v ∧ Rows.treeListsSpec.post enc Try.prog Try.f5 false true false false W args v W' := by
  have hW' := hW
  obtain ⟨p, q, hA0, hV, rfl, hfz, hnd⟩ := hW
  have hA : DataW.TrodAll enc Try.prog W 0 (fun _ => true) true Try.f5.params.toList args.toList ds p := hA0
  rw [Try.params5] at hA hval
  obtain ⟨v0, vs0, d0, ds0, p0, q0, hargs, rfl, rfl, h0, r0⟩ := trodAll_cons hA
  obtain ⟨v1, vs1, d1, ds1, p1, q1, rfl, rfl, rfl, h1, r1⟩ := trodAll_cons r0
  obtain ⟨rfl, rfl, rfl⟩ := trodAll_nil r1
  obtain rfl : args = #[v0, v1] := by cases args; simp_all
  obtain ⟨rfl, rfl⟩ := trodVars_none hV
  obtain ⟨a0, len0, cap0, rfl⟩ := okWide_slice Try.underlying24 (hval 0 24 v0 rfl rfl)
  obtain ⟨a1, len1, cap1, rfl⟩ := okWide_slice Try.underlying24 (hval 1 24 v1 rfl rfl)
  have k0 := h0
  have k1 := h1
  have lt1 : ∀ x ∈ p1, x.block < W.heap.size := by obtain ⟨m, hm⟩ := k1; exact DataW.trod_lt m _ _ _ hm
  have lt0 : ∀ x ∈ p0, x.block < W.heap.size := by obtain ⟨m, hm⟩ := k0; exact DataW.trod_lt m _ _ _ hm
  obtain ⟨za, rfl, hc0, hn0, hC0, hlab, hb1, hb2, hs0⟩ := NodesIn.nodes_in h0
  obtain ⟨zb, rfl, hc1, hn1, hC1, hlab1, hb11, hb12, hs1⟩ := NodesIn.nodes_in h1
  have hbd := bulks.bound hk
  simp only [List.append_nil] at hbd
  have hm0 := bulks.part_le (H := H) (d := d0) (l := [d0, d1]) (by simp)
  have hm1 := bulks.part_le (H := H) (d := d1) (l := [d0, d1]) (by simp)
  clear hA0
  refine (ListsW.lists_calls (ca := cap0) (cb := cap1) ⟨by omega, Nat.le_trans hb2 (by omega), hlab⟩ ⟨by omega, Nat.le_trans hb12 (by omega), hlab1⟩ hC0 hc0 hC1 hc1).mono fun e W' ⟨he, bel⟩ => ?_
  subst he
  exact ⟨_, rfl, _, _, _, [], _, [], hW', trodAll_mk1 (shut_bool Try.underlying4 _), (trodAll_cons_mk (Below.trod laidOut (by kernel_rfl) (of_decide_eq_true (by kernel_rfl)) k0 bel lt0) (trodAll_cons_mk (Below.trod laidOut (by kernel_rfl) (of_decide_eq_true (by kernel_rfl)) k1 bel lt1) trodAll_mk0)), rfl, bel.frame _, fun h => by cases h⟩

set_option maxRecDepth 100000 in
theorem lifted (os : Os) (started : os.Started) (H : Type) (enc : TypeId × Value → H) (F : Stop.Interp) :
    ReturnsInHanded {} Try.checked os 5 .any ((Rows.OpenSpec.upto Rows.treeListsSpec).pre6 enc Try.prog Try.f5 Rows.treeListsUptoRow.domain false) (((Rows.OpenSpec.upto Rows.treeListsSpec).at F).post enc Try.prog Try.f5 false true false false) := by
  refine returnsInHanded_of_cond (C := Try.checked) (s := Rows.OpenSpec.upto Rows.treeListsSpec) (k := Rows.uptoSmall) rfl own started (by kernel_rfl) Try.func5
    (OpenSpec.witness (enc := enc) (C := Try.checked) (s := Rows.OpenSpec.upto Rows.treeListsSpec) (k := Rows.uptoSmall) rfl false ⟨#[], #[.slice none 0 0, .slice none 0 0], []⟩ 8 (by kernel_rfl) (by kernel_rfl) (by kernel_rfl)
      (x := ([.nil, .nil], [], [])) (by kernel_rfl) rfl (by kernel_rfl)) ?_
  intro W base args ds gs before hval hW _ hk _
  exact contract H enc W base args ds gs before hval hW hk

theorem over : Rows.treeListsUptoRow.holds Try.pinned (Rows.OpenSpec.upto Rows.treeListsSpec) :=
  OpenClaim.holds_of_cond 5 Try.f5 rfl rfl rfl rfl rfl rfl rfl ⟨rfl, rfl, rfl, rfl, rfl⟩ rfl rfl rfl rfl rfl (by kernel_rfl) Try.func5 (by kernel_rfl)
    (of_decide_eq_true (by kernel_rfl)) (by unfold Func.isWrapper; first | (rw [if_pos (by decide +kernel)]; kernel_rfl) | (rw [if_neg (by decide +kernel)]; exact ⟨rfl, rfl⟩))
    (fun os started H enc _ F => lifted os started H enc F)

theorem proved : Rows.TreeListsUptoSaid := over
#print axioms proved
end Go.Proofs.Ytkonloadedbpkaa.treeLists
