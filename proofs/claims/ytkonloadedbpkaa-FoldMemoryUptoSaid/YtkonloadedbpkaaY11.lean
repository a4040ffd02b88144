/- AliveP, AliveW. -/
import Derived.Test.YtkonloadedbpkaaY5
import Derived.Test.YtkonloadedbpkaaY4
import Derived.Test.YtkonloadedbpkaaY10
import Derived.Deep.RegionHeld3
import Derived.Deep.DeepCutAuto
import Derived.Deep.DrawnRows
namespace Go.Proofs.Ytkonloadedbpkaa.AliveP
open Go.Proofs.Ytkonloadedbpkaa.FoldPure Go.Proofs.Ytkonloadedbpkaa.NodesPure Go.Proofs.Ytkonloadedbpkaa.FoldRun
def wpS : ByteArray := { data := #[119, 112] }
def wiS : ByteArray := { data := #[119, 105] }
def aliveN : List Nd := [(wpS, []), (wiS, [0, 0]), (wiS, [1, 1]), (wiS, [2, 2])]
theorem alive_codes : (codesL [wpS] aliveN).codes = [0, 0, 1, -1, 2, 1, -1, 3, 1] := by decide +kernel
theorem alive_names : (namesL [wpS] aliveN).labels = [wiS] := by decide +kernel
end Go.Proofs.Ytkonloadedbpkaa.AliveP

namespace Go.Proofs.Ytkonloadedbpkaa.AliveW
open Go.RowKit Go.Proofs.Ytkonloadedbpkaa.Sep Go.Proofs.Ytkonloadedbpkaa.FoldPure Go.Proofs.Ytkonloadedbpkaa.FoldMem Go.Proofs.Ytkonloadedbpkaa.NodesPure Go.Proofs.Ytkonloadedbpkaa.NodesMem Go.Proofs.Ytkonloadedbpkaa.NodesW Go.Proofs.Ytkonloadedbpkaa.FoldCount Go.Proofs.Ytkonloadedbpkaa.NodeMem Go.Proofs.Ytkonloadedbpkaa.AliveP Go.Proofs.Ytkonloadedbpkaa.Lits
open Go.Proofs.YtkonloadedbpkaaW.PrintWords
open Go.Proofs.YtkonloadedbpkaaW.PrintLast
open Go.Proofs.Ytkonloadedbpkaa.PFoldLossless
set_option linter.unusedVariables false
attribute [local go_sem ↓] Go.wp_at_zero Go.wp_at_succ
theorem build42 (s : ByteArray) (w : World) : (Instr.build 42 #[(0, .string s)]).run Try.prog w = .ok (.agg #[.string s, .bool false, .int .i64 0, .slice none 0 0]) w := by kernel_rfl
theorem build35m (A : Option Addr) (n c : Nat) (w : World) : (Instr.build 35 #[(2, .slice A n c)]).run Try.prog w = .ok (.agg #[.slice none 0 0, .slice none 0 0, .slice A n c, .int .i64 0, .slice none 0 0]) w := by kernel_rfl
/-- node makes one block. -/
theorem node_any (s : ByteArray) (A : Option Addr) (n c : Nat) (w : World) : Calls Try.prog 10 #[.string s, .slice A n c] w fun e w' => e = .returned (.agg #[.string s, .slice A n c]) ∧ w' = w.alloc (.cells #[.string s, .slice A n c] 27) := by
  go_enter Try.func10, Try.ntmps10
  go_wp2_with fail
  exact bodyPost_ret (results_cell_row rfl _ _ w.heap.size 27 #[.string s, .slice A n c] (0, 0) _ rfl (box_at (box_fresh (Sep.start w) 27 #[.string s, .slice A n c])) Try.underlying27 rfl (by kernel_rfl)) rfl ⟨rfl, rfl⟩
def lit2 (x : Int) : Array Value := #[.int .i64 x, .int .i64 x]
structure Lies (w : World) (bm b1 b2 b3 b4 : Nat) : Prop where
  m : w.heap[bm]? = some (.cells #[.string wpS, .bool false, .int .i64 0, .slice none 0 0] 42 (0, 0))
  k1 : w.heap[b1]? = some (.cells #[.int .i64 0, .int .i64 0] 3 (0, 0))
  k2 : w.heap[b2]? = some (.cells #[.int .i64 1, .int .i64 1] 3 (0, 0))
  k3 : w.heap[b3]? = some (.cells #[.int .i64 2, .int .i64 2] 3 (0, 0))
  l : w.heap[b4]? = some (.cells #[.string wpS, .slice none 0 0, .string wiS, .slice (some ⟨b1, 0, none⟩) 2 2, .string wiS, .slice (some ⟨b2, 0, none⟩) 2 2, .string wiS, .slice (some ⟨b3, 0, none⟩) 2 2] 27 (0, 0))
theorem Lies.move {w w' : World} {bm b1 b2 b3 b4 : Nat} (h : Lies w bm b1 b2 b3 b4) (hm : ∀ k, k < w.heap.size → w'.heap[k]? = w.heap[k]?) : Lies w' bm b1 b2 b3 b4 := by
  have lt : ∀ {k : Nat} {o : Obj}, w.heap[k]? = some o → k < w.heap.size := fun h => (Array.getElem?_eq_some_iff.1 h).1
  exact ⟨(hm _ (lt h.m)).trans h.m, (hm _ (lt h.k1)).trans h.k1, (hm _ (lt h.k2)).trans h.k2, (hm _ (lt h.k3)).trans h.k3, (hm _ (lt h.l)).trans h.l⟩
theorem Lies.mand {w : World} {bm b1 b2 b3 b4 : Nat} (h : Lies w bm b1 b2 b3 b4) : MandC (some ⟨bm, 0, none⟩) [wpS] w := by
  intro i hi
  have hi0 : i = 0 := by simpa using hi
  subst hi0
  refine ⟨⟨bm, 0, none⟩, false, 0, none, 0, 0, rfl, ?_, ?_, ?_, ?_⟩
  all_goals
    rw [Nat.zero_mul, add0]
    exact (cell_at h.m _).1
theorem Lies.nodes {w : World} {bm b1 b2 b3 b4 : Nat} (h : Lies w bm b1 b2 b3 b4) : NodesC (some ⟨b4, 0, none⟩) aliveN w := by
  have c1 := lit_Ci (xs := [0, 0]) h.k1 rfl rfl (by simp)
  have c2 := lit_Ci (xs := [1, 1]) h.k2 rfl rfl (by simp)
  have c3 := lit_Ci (xs := [2, 2]) h.k3 rfl rfl (by simp)
  have h4 := fun j => (cell_at h.l j).1
  refine ⟨rfl, by decide, fun _ => ⟨_, rfl, fun j p hp => ?_⟩⟩
  have key : ∀ (s : ByteArray) (ks : List Nat) (A : Option Addr) (c : Nat), (j : Nat) → ks.length ≤ c → Kd.C (Kd.int .i64) w A ks.length (ints ks) → w.cell? ⟨b4, j * 2, none⟩ = some (.string s) → w.cell? ⟨b4, j * 2 + 1, none⟩ = some (.slice A ks.length c) →
      ∃ cs, cs.length = kP.sz ∧ kP.K w (toP (s, ks)) cs ∧ ∀ i u, cs[i]? = some u → w.cell? ((⟨b4, 0, none⟩ : Addr).add (j * kP.sz + i)) = some u := by
    intro s ks A c j hc hk e0 e1
    refine ⟨[.string s, .slice A ks.length c], rfl, ⟨[.string s], [.slice A ks.length c], rfl, rfl, ⟨A, c, ?_, ?_, ?_⟩⟩, fun i u hu => ?_⟩
    · show [Value.slice A ks.length c] = [Value.slice A (ints ks).length c]
      simp
    · show (ints ks).length ≤ c
      simpa using hc
    · show Kd.C (Kd.int .i64) w A (ints ks).length (ints ks)
      rw [List.length_map]
      exact hk
    · have e3 : (⟨b4, 0, none⟩ : Addr).add (j * kP.sz + i) = ⟨b4, j * 2 + i, none⟩ := add0 b4 (j * 2 + i)
      rw [e3]
      match i, hu with
      | 0, hu =>
        simp at hu
        subst hu
        exact e0
      | 1, hu =>
        simp at hu
        subst hu
        exact e1
      | i + 2, hu => simp at hu
  match j, hp with
  | 0, hp =>
    cases hp
    exact key _ _ none 0 0 (by simp) ⟨rfl, by simp, fun h => by simp at h⟩ (h4 0) (h4 1)
  | 1, hp =>
    cases hp
    exact key _ _ _ _ 1 (by simp) c1 (h4 2) (h4 3)
  | 2, hp =>
    cases hp
    exact key _ _ _ _ 2 (by simp) c2 (h4 4) (h4 5)
  | 3, hp =>
    cases hp
    exact key _ _ _ _ 3 (by simp) c3 (h4 6) (h4 7)
  | j + 4, hp => simp [aliveN] at hp
def AliveOut (w : World) (e : Ending) (w' : World) : Prop := ∃ A c A2 c2, e = .returned (.tuple #[.slice A 1 c, .slice A2 9 c2, .int .i64 0]) ∧ 1 ≤ c ∧ 9 ≤ c2 ∧ Kd.C Kd.string w' A 1 [wiS] ∧ Kd.C (Kd.int .i64) w' A2 9 [0, 0, 1, -1, 2, 1, -1, 3, 1] ∧ Below w.heap.size w w'
theorem alive_nodes {w : World} {bm b1 b2 b3 b4 : Nat} (h : Lies w bm b1 b2 b3 b4) :
    Calls Try.prog 11 #[.agg #[.slice none 0 0, .slice none 0 0, .slice (some ⟨bm, 0, none⟩) 1 1, .int .i64 0, .slice none 0 0], .slice (some ⟨b4, 0, none⟩) 4 4] w (AliveOut w) := by
  have hv : Valid aliveN := by
    intro i x hx k hk
    match i, hx with
    | 0, hx => cases hx; simp at hk
    | 1, hx => cases hx; simp at hk; omega
    | 2, hx => cases hx; simp at hk; omega
    | 3, hx => cases hx; simp at hk; omega
    | i + 4, hx => simp [aliveN] at hx
  have hlab : ∀ x ∈ aliveN, x.1.size ≤ maxLen := by
    intro x hx
    simp only [aliveN, List.mem_cons, List.not_mem_nil, or_false] at hx
    rcases hx with rfl | rfl | rfl | rfl <;> decide
  have M1 := read_old (C := MandC (some ⟨bm, 0, none⟩) [wpS]) (Sep.start w) (fun w' hm => (h.move hm).mand)
  have M2 := read_old (C := NodesC (some ⟨b4, 0, none⟩) aliveN) M1 (fun w' hm => (h.move hm).nodes)
  have hF : Fine [wpS] aliveN := fine_of (by decide) (by decide) hv (by decide) hlab
  have hc := nodes_calls (mc := 1) (c := 4) (v0 := .slice none 0 0) (v1 := .slice none 0 0) (v3 := .int .i64 0) (v4 := .slice none 0 0) M2 (by decide) (by decide) hv (by decide) hlab (by decide) (by decide) (by intro s hs; simp at hs; subst hs; decide) hF
  refine hc.mono ?_
  clear hc
  intro e w' hout
  unfold NodesOut at hout
  rw [if_neg (by rw [alive_codes]; decide), alive_codes, alive_names] at hout
  obtain ⟨lv, cv, rfl, hm⟩ := hout
  have h1 := hm.row
  have h2 := hm.tail.row
  obtain ⟨A, c, rfl, _⟩ := row_slice h1
  obtain ⟨A2, c2, rfl, _⟩ := row_slice h2
  obtain ⟨g1, g2⟩ := row_Cs (xs := [wiS]) h1 (by decide)
  obtain ⟨g3, g4⟩ := row_Ci (xs := [0, 0, 1, -1, 2, 1, -1, 3, 1]) h2 (by decide)
  exact ⟨A, c, A2, c2, rfl, g1, g3, g2, g4, hm.1⟩
theorem Lies.mk' {w : World} {bm b1 b2 b3 b4 : Nat} (l : w.heap[b4]? = some (.cells #[.string wpS, .slice none 0 0, .string wiS, .slice (some ⟨b1, 0, none⟩) 2 2, .string wiS, .slice (some ⟨b2, 0, none⟩) 2 2, .string wiS, .slice (some ⟨b3, 0, none⟩) 2 2] 27 (0, 0)))
    (m : w.heap[bm]? = some (.cells #[.string wpS, .bool false, .int .i64 0, .slice none 0 0] 42 (0, 0))) (k1 : w.heap[b1]? = some (.cells #[.int .i64 0, .int .i64 0] 3 (0, 0))) (k2 : w.heap[b2]? = some (.cells #[.int .i64 1, .int .i64 1] 3 (0, 0))) (k3 : w.heap[b3]? = some (.cells #[.int .i64 2, .int .i64 2] 3 (0, 0))) : Lies w bm b1 b2 b3 b4 := ⟨m, k1, k2, k3, l⟩
theorem heap_past {w : World} {o x : Obj} {k : Nat} (h : w.heap[k]? = some x) : (w.alloc o).heap[k]? = some x :=
  (Below.heap_alloc _ _ k (Array.getElem?_eq_some_iff.1 h).1).trans h
theorem heap_drew {w : World} {x : Obj} {k : Nat} (h : w.heap[k]? = some x) : w.drew.heap[k]? = some x := h
theorem heap_at_new {w : World} {o : Obj} {k : Nat} (hk : k = w.heap.size) : (w.alloc o).heap[k]? = some o := by subst hk; exact heap_alloc_new _ _
theorem below_al {W1 w' : World} {o : Obj} (h : Below W1.heap.size W1 w') : Below W1.heap.size W1 (w'.alloc o) := h.alloc h.size _
theorem below_drew {W1 w' : World} (h : Below W1.heap.size W1 w') : Below W1.heap.size W1 w'.drew := ⟨h.os, h.tape, h.output, h.size, h.block⟩
theorem below_then {W1 w' w'' : World} (h : Below W1.heap.size W1 w') (k : Below w'.heap.size w' w'') : Below W1.heap.size W1 w'' := h.trans (k.mono h.size)
theorem below_two {w w' : World} {o1 o2 : Obj} (h : Below ((w.alloc o1).alloc o2).heap.size ((w.alloc o1).alloc o2) w') : Below w.heap.size w w' :=
  (((Below.refl _ w).alloc (Nat.le_refl _) o1).alloc (by simp) o2).trans (h.mono (by simp; omega))
theorem below_dn {B : Nat} {W1 w' : World} (h : Below B W1 w') (n : Nat) : Below B W1 (w'.drewN n) := ⟨h.os, h.tape, h.output, h.size, h.block⟩
theorem keepSA {W1 w' : World} {H : Nat} {v0 v1 v2 v3 v4 : Value} (h0 : W1.heap[H]? = some (.cells #[v0, v1, v2, v3, v4] 35 (0, 0))) (hb : Below W1.heap.size W1 w') :
    w'.cell? ⟨H, 0, none⟩ = some v0 ∧ w'.cell? ⟨H, 1, none⟩ = some v1 ∧ w'.cell? ⟨H, 2, none⟩ = some v2 ∧ w'.cell? ⟨H, 3, none⟩ = some v3 ∧ w'.cell? ⟨H, 4, none⟩ = some v4 := by
  have h := (hb.block H (Array.getElem?_eq_some_iff.1 h0).1).trans h0
  exact ⟨(cell_at h 0).1, (cell_at h 1).1, (cell_at h 2).1, (cell_at h 3).1, (cell_at h 4).1⟩
theorem alive_nodes2 {w : World} {bm b4 : Nat} (h : ∃ b1 b2 b3, Lies w bm b1 b2 b3 b4) :
    Calls Try.prog 11 #[.agg #[.slice none 0 0, .slice none 0 0, .slice (some ⟨bm, 0, none⟩) 1 1, .int .i64 0, .slice none 0 0], .slice (some ⟨b4, 0, none⟩) 4 4] w (AliveOut w) := by
  obtain ⟨b1, b2, b3, h⟩ := h
  exact alive_nodes h
set_option maxHeartbeats 20000000 in
set_option maxRecDepth 100000 in
theorem alive_calls (w : World) : Calls Try.prog 12 #[] w fun e w' => e = .returned (.bool true) ∧ Below w.heap.size w w' := by
  have hb1 := build42
  have hb2 := build35m
  go_enter Try.func12, Try.ntmps12
  go_upto_region 2 with fail
  go_cut [2, 3, 4] (fun s2 s3 s4 wx => ∃ A c A2 c2, s2 = .slice A 1 c ∧ s3 = .slice A2 9 c2 ∧ s4 = .int .i64 0 ∧ 1 ≤ c ∧ 9 ≤ c2 ∧ Kd.C Kd.string wx A 1 [wiS] ∧ Kd.C (Kd.int .i64) wx A2 9 [0, 0, 1, -1, 2, 1, -1, 3, 1] ∧ Below w.heap.size w wx)
  case first =>
    have HW : Aside0 (((w.alloc (.cells #[.string wpS, .bool false, .int .i64 0, .slice none 0 0] 42)).alloc (.cells #[.slice none 0 0, .slice none 0 0, .slice (some ⟨w.heap.size, 0, none⟩) 1 1, .int .i64 0, .slice none 0 0] 35)).heap[w.heap.size + 1]? = some (.cells #[.slice none 0 0, .slice none 0 0, .slice (some ⟨w.heap.size, 0, none⟩) 1 1, .int .i64 0, .slice none 0 0] 35 (0, 0))) := ⟨heap_at_new (by simp)⟩
    go_region_held3 (fun w' => w'.cell? ⟨w.heap.size + 1, 0, none⟩ = some (.slice none 0 0) ∧ w'.cell? ⟨w.heap.size + 1, 1, none⟩ = some (.slice none 0 0) ∧ w'.cell? ⟨w.heap.size + 1, 2, none⟩ = some (.slice (some ⟨w.heap.size, 0, none⟩) 1 1) ∧ w'.cell? ⟨w.heap.size + 1, 3, none⟩ = some (.int .i64 0) ∧ w'.cell? ⟨w.heap.size + 1, 4, none⟩ = some (.slice none 0 0))
      (first | exact keepSA HW.out (HB.out) | (refine keepSA HW.out ?_; (try refine below_drew ?_); repeat (first | exact Below.refl _ _ | refine below_al ?_)))
      (first
        | (go_at_call 10; refine (node_any _ _ _ _ _).mono ?_; rintro e w' ⟨rfl, rfl⟩)
        | (go_at_call 11; refine (alive_nodes2 ⟨_, _, _, Lies.mk' (by ((try refine heap_drew ?_); (repeat (first | (exact heap_at_new (by simp)) | refine heap_past ?_)))) (by ((try refine heap_drew ?_); (repeat (first | (exact heap_at_new (by simp)) | refine heap_past ?_)))) (by ((try refine heap_drew ?_); (repeat (first | (exact heap_at_new (by simp)) | refine heap_past ?_)))) (by ((try refine heap_drew ?_); (repeat (first | (exact heap_at_new (by simp)) | refine heap_past ?_)))) (by ((try refine heap_drew ?_); (repeat (first | (exact heap_at_new (by simp)) | refine heap_past ?_))))⟩).mono ?_; rintro e w' ⟨A, c, A2, c2, rfl, hc, hc2, hA, hA2, hbel⟩; (have HB := Aside0.mk (below_then (W1 := (w.alloc (.cells #[.string wpS, .bool false, .int .i64 0, .slice none 0 0] 42)).alloc (.cells #[.slice none 0 0, .slice none 0 0, .slice (some ⟨w.heap.size, 0, none⟩) 1 1, .int .i64 0, .slice none 0 0] 35)) (by (try refine below_drew ?_); (repeat (first | exact Below.refl _ _ | refine below_al ?_))) hbel)); have HA := Aside0.mk hA; have HA2 := Aside0.mk hA2; clear hbel hA hA2))
    all_goals
      go_wp2_with fail
      go_meet
      exact ⟨A, c, A2, c2, rfl, rfl, rfl, hc, hc2, HA.out, HA2.out, below_two HB.out⟩
  case rest =>
    obtain ⟨A, c, A2, c2, rfl, rfl, rfl, hc, hc2, hA, hA2, hb⟩ := hcut
    have HB := Aside0.mk hb
    have HA := Aside0.mk hA
    have HA2 := Aside0.mk hA2
    clear hb hA hA2
    have HT : Aside0 (lemmalaw16_texts.f 5 [wiS] [wiS] = some true) := ⟨by decide +kernel⟩
    have HI : Aside0 (lemmalaw16_ints.f 15 [0, 0, 1, -1, 2, 1, -1, 3, 1] [0, 0, 1, -1, 2, 1, -1, 3, 1] = some true) := ⟨by decide +kernel⟩
    go_wp2_with fail
    refine (lemmalaw16_texts.calls 5 A c [wiS] (some ⟨wc.heap.size, 0, none⟩) 1 [wiS] true _ (Kd.C_alloc HA.out _) hc (lit_Cs (heap_at_new rfl) rfl rfl (by simp)) (by simp) HT.out).mono ?_
    rintro e w1 ⟨rfl, hd⟩
    have HA3 := Aside0.mk (Kd.C_alloc HA2.out (.cells #[.string wiS] 9))
    have HB2 := Aside0.mk (HB.out.alloc HB.out.size (.cells #[.string wiS] 9))
    clear HA HA2 HB
    obtain ⟨n1, rfl⟩ := hd.out
    clear hd
    go_wp2_with fail
    refine (lemmalaw16_ints.calls 15 A2 c2 [0, 0, 1, -1, 2, 1, -1, 3, 1] (some ⟨_, 0, none⟩) 9 [0, 0, 1, -1, 2, 1, -1, 3, 1] true _ ?_ hc2 (lit_Ci (heap_at_new ?_) rfl rfl (by simp)) (by simp) HI.out).mono ?_
    · exact Kd.C_alloc (Kd.C_drewN HA3.out n1) _
    · simp
    rintro e w2 ⟨rfl, hd⟩
    obtain ⟨n2, rfl⟩ := hd.out
    clear hd
    go_wp2_with fail
    go_ret
    refine ⟨rfl, ?_⟩
    repeat (first | exact HB2.out | refine below_dn ?_ _ | refine below_al ?_)
end Go.Proofs.Ytkonloadedbpkaa.AliveW
