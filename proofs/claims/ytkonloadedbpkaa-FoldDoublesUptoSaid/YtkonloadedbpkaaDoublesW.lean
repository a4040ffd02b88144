/- FoldDoubles walked. -/
import Derived.Test.YtkonloadedbpkaaNodeMem
import Derived.Test.YtkonloadedbpkaaDoublesN
namespace Go.Proofs.Ytkonloadedbpkaa.DoublesW
open Go.RowKit Go.Maps Go.Proofs.Ytkonloadedbpkaa.Sep Go.Proofs.Ytkonloadedbpkaa.FMaps Go.Proofs.Ytkonloadedbpkaa.FoldPure Go.Proofs.Ytkonloadedbpkaa.FoldMem Go.Proofs.Ytkonloadedbpkaa.FoldRun Go.Proofs.Ytkonloadedbpkaa.NodesPure Go.Proofs.Ytkonloadedbpkaa.NodesMem Go.Proofs.Ytkonloadedbpkaa.NodesW Go.Proofs.Ytkonloadedbpkaa.NodeMem Go.Proofs.Ytkonloadedbpkaa.FoldCount Go.Proofs.Ytkonloadedbpkaa.FoldChain Go.Proofs.Ytkonloadedbpkaa.DoublesN
open Go.Proofs.YtkonloadedbpkaaW.PrintWords
open Go.Proofs.YtkonloadedbpkaaW.PrintLast
set_option linter.unusedVariables false
set_option linter.unusedSimpArgs false

theorem strs_old {W : World} {A : Option Addr} {n : Nat} {ts : List ByteArray} (h : Kd.C Kd.string W A n ts) : ∀ w' : World, (∀ k, k < W.heap.size → w'.heap[k]? = W.heap[k]?) → Kd.C Kd.string w' A n ts := by
  intro w' hw
  refine ⟨h.1, h.2.1, fun hn => ?_⟩
  obtain ⟨ad, e, hc⟩ := h.2.2 hn
  refine ⟨ad, e, fun j p hp => ?_⟩
  obtain ⟨c, h1, h2, h3⟩ := hc j p hp
  refine ⟨c, h1, h2, fun i u hu => ?_⟩
  have := h3 i u hu
  have hl := World.block_lt_of_cell? _ _ this
  unfold World.cell? at this ⊢
  rw [hw _ hl]
  exact this
theorem u64_pos (n : Int) : 0 ≤ IntKind.u64.wrap n := by
  unfold IntKind.wrap
  simp only [IntKind.signed, IntKind.bits]
  simp
  omega
/-- The numbers that the law's first lines come to. -/
theorem mod_small (n : Int) (k a : Nat) (hk : 1 ≤ k) (hk2 : k ≤ 1000) (ha2 : a ≤ 10) : ∃ D : Nat, (a ≤ D ∧ D < a + k) ∧ wrap64 ((a : Int) + wrap64 ((IntKind.u64.wrap n).tmod (k : Int))) = (D : Int) := by
  have h1 := u64_pos n
  have h2 : (IntKind.u64.wrap n).tmod (k : Int) = (IntKind.u64.wrap n) % (k : Int) := Int.tmod_eq_emod_of_nonneg h1
  have h3 : 0 ≤ (IntKind.u64.wrap n) % (k : Int) := Int.emod_nonneg _ (by omega)
  have h4 : (IntKind.u64.wrap n) % (k : Int) < (k : Int) := Int.emod_lt_of_pos _ (by omega)
  rw [h2]
  generalize (IntKind.u64.wrap n) % (k : Int) = r at h3 h4
  refine ⟨a + r.toNat, by omega, ?_⟩
  unfold wrap64
  omega

theorem codes_small {C D K k : Nat} (hC : C = K * D + k + D) (hD : 1 ≤ D ∧ D ≤ 600) (hK : 2 ≤ K ∧ K ≤ 4) (hk : k ≤ 50) : C ≤ 100000 := by
  have hKD : K * D ≤ 4 * 600 := Nat.mul_le_mul hK.2 hD.2
  omega
theorem want_is {C D K k N : Nat} (hC : C = K * D + k + D) (hD : 1 ≤ D ∧ D ≤ 600) (hK : 2 ≤ K ∧ K ≤ 4) (hk : k ≤ 50) (hN : N = 1 + D + k) :
    wrap64 (wrap64 ((K : Int) + (D : Int) + wrap64 (((D : Int) - 1) * (K : Int))) + ((N : Int) - 1 - (D : Int))) = (C : Int) := by
  have hKD : K * D ≤ 4 * 600 := Nat.mul_le_mul hK.2 hD.2
  have e1 : ((D : Int) - 1) * (K : Int) = ((K * D : Nat) : Int) - (K : Int) := by
    rw [Int.sub_mul, Int.one_mul, Int.natCast_mul, Int.mul_comm]
  rw [e1]
  generalize K * D = p at hC hKD ⊢
  unfold wrap64
  omega

set_option maxHeartbeats 4000000 in
set_option maxRecDepth 100000 in
theorem doubles_calls {w : World} {A : Option Addr} {c : Nat} {ts : List ByteArray} (hT : Kd.C Kd.string w A ts.length ts) (hts : ∀ s ∈ ts, s.size ≤ 1048576) (n m : Int) :
    Calls Try.prog 3 #[.int .i64 n, .int .i64 m, .slice A ts.length c] w fun e w' => e = .returned (.bool true) ∧ Below w.heap.size w w' := by
  have M0 := read_old (C := fun w => Kd.C Kd.string w A ts.length ts) (Sep.start w) (strs_old hT)
  have M := Aside0.mk (row_nil (kids_none M0) 27 2)
  have HTs := Aside0.mk hts
  clear hT hts M0
  go_enter Try.func3, Try.ntmps3
  go_wp2_with fail
  refine (node_calls M.out leafS none 0 0).mono ?_
  rintro e w1 ⟨rfl, hm1⟩
  obtain ⟨D, hD, eD⟩ := mod_small n 600 1 (by omega) (by omega) (by omega)
  obtain ⟨K, hK, eK⟩ := mod_small m 3 2 (by omega) (by omega) (by omega)
  rw [show ((1 : Nat) : Int) = 1 from rfl, show ((600 : Nat) : Int) = 600 from rfl] at eD
  rw [show ((2 : Nat) : Int) = 2 from rfl, show ((3 : Nat) : Int) = 3 from rfl] at eK
  rw [eD, eK]
  clear eD eK M
  have hb27 := build27
  have M := Aside0.mk hm1
  clear hm1
  go_wp2_with (at_builtin; refine wp_node (M.out.alloc (.cells #[.string leafS, .slice none 0 0] 27)) rfl (.tmp 31) (.tmp 33) rfl rfl rfl (box_at (box_fresh M.out 27 #[.string leafS, .slice none 0 0])) rfl rfl (by omega) ?_; intro A1 c1 w2 hc1 hm2; clear M; have M := Aside0.mk hm2; clear hm2)
  have hm3 := item_more (items := []) (q := ⟨⟨leafS, [], 0⟩, 0, none, 0⟩) (((row_nil M.out 3 1).swap).perm ((List.Perm.swap _ _ _).cons _))
  clear M
  have M := Aside0.mk hm3
  clear hm3
  go_loopw [9, 10] (fun v9 v10 wr => ∃ (i : Nat) (A9 : Option Addr) (c9 : Nat) (items : List PartM), 1 ≤ i ∧ i ≤ D + 1 ∧ i ≤ c9 ∧ v9 = .slice A9 i c9 ∧ v10 = .int .i64 i ∧ items.length = i ∧ Aside0 (items.map nd = dbl D K (ts.take 50) i) ∧
    Aside0 (Sep w wr (rowR 27 2 (.slice A9 i c9) i (nodeCells items) :: kidsR items :: readR w (fun w => Kd.string.C w A ts.length ts) :: []))) (fun _ v10 _ => D + 1 - (intOf v10).toNat)
  case atStart => exact ⟨1, A1, c1, _, by omega, by omega, hc1, rfl, rfl, rfl, ⟨rfl⟩, M⟩
  case round =>
    clear M
    obtain ⟨i, A9, c9, items, hi1, hi, hc9, rfl, rfl, hil, HI, M⟩ := hrel
    by_cases hlt : i ≤ D
    · obtain ⟨wo, rfl⟩ : ∃ wo : World, wo = wr := ⟨_, rfl⟩
      have hX := box_fresh M.out 27 #[.string manyS, .slice none 0 0]
      have hX2 := (row_nil hX 3 1)
      clear M
      have M := Aside0.mk hX2
      clear hX hX2
      go_wp2_with fail
      go_loopw [12] (fun v12 wq => ∃ (j c12 : Nat) (A12 : Option Addr), j ≤ K ∧ j ≤ c12 ∧ v12 = .int .i64 j ∧
        Aside0 (Sep w wq (rowR 3 1 (.slice A12 j c12) j (List.replicate j (nat (i - 1))) :: boxR wo.heap.size 27 #[.string manyS, .slice A12 j c12] :: rowR 27 2 (.slice A9 i c9) i (nodeCells items) :: kidsR items :: readR w (fun w => Kd.string.C w A ts.length ts) :: []))) (fun v12 _ => K - (intOf v12).toNat)
      case atStart => exact ⟨0, 0, none, by omega, by omega, rfl, M⟩
      case round =>
        clear M
        obtain ⟨j, c12, A12, hj, hc12, rfl, M⟩ := hrel
        by_cases hjl : j < K
        · obtain ⟨p1, pf1⟩ : wr.cell? ⟨wo.heap.size, 1, none⟩ = some (.slice A12 j c12) ∧ wr.frozen? ⟨wo.heap.size, 1, none⟩ = false := box_cell (M.out.pull 1 (by simp)) (j := 1) rfl
          have hnum : Value.int .i64 ((i : Int) - 1) = nat (i - 1) := by unfold nat; rw [show (i : Int) - 1 = ((i - 1 : Nat) : Int) by omega]
          have Hnum := Aside0.mk hnum
          clear hnum
          go_wp2_with (at_builtin; refine wp_one (M.out.alloc (Obj.cells #[num ((i : Int) - 1)] 3)) rfl (.tmp 47) (.tmp 50) 25 rfl Try.underlying25 info3 rfl rfl rfl (new_cell' _ _ _ (by simp)) rfl (by omega) (by omega) ?_; intro A5 c5 w5 hc5 hm5; clear M p1 pf1; have M := Aside0.mk hm5; clear hm5; obtain ⟨p1, pf1⟩ : w5.cell? ⟨wo.heap.size, 1, none⟩ = some (.slice A12 j c12) ∧ w5.frozen? ⟨wo.heap.size, 1, none⟩ = false := box_cell (M.out.pull 1 (by simp)) (j := 1) rfl)
          have hm6 := at_ M.out 1 (by simp) (fun rs h => box_set h 1 (.slice A5 (j + 1) c5))
          rw [Hnum.out] at hm6
          go_wp2_with fail
          go_roundw
          case rel => exact ⟨j + 1, c5, A5, by omega, by omega, by go_num, ⟨by rw [List.replicate_succ']; exact hm6⟩⟩
          case measure => simp [intOf]; omega
        · have hje : K = j := by omega
          subst hje
          obtain ⟨p0, _⟩ : wr.cell? ⟨wo.heap.size, 0, none⟩ = some (.string manyS) ∧ _ := box_cell (M.out.pull 1 (by simp)) (j := 0) rfl
          obtain ⟨p1, _⟩ : wr.cell? ⟨wo.heap.size, 1, none⟩ = some (.slice A12 K c12) ∧ _ := box_cell (M.out.pull 1 (by simp)) (j := 1) rfl
          go_wp2_with (at_builtin; refine wp_node ((M.out.pull 2 (by simp)).alloc (.cells #[.string manyS, .slice A12 K c12] 27)) rfl (.tmp 53) (.tmp 55) rfl rfl rfl (box_at (box_fresh M.out 27 #[.string manyS, .slice A12 K c12])) rfl rfl (by omega) ?_; intro A6 c6 w6 hc6 hm6; clear M p0 p1; have M := Aside0.mk hm6; clear hm6)
          have hm7 := ((M.out.pull 1 (by simp)).pull 3 (by simp)).pull 2 (by simp)
          have hm8 := item_more (items := items) (q := ⟨⟨manyS, List.replicate K (i - 1), 0⟩, 0, A12, c12⟩) (v := .slice A6 (i + 1) c6) (rs := boxR wo.heap.size 27 #[.string manyS, .slice A12 K c12] :: readR w (fun w => Kd.string.C w A ts.length ts) :: []) (by
            simp only [PartM.kv, List.length_replicate, List.map_replicate, hil]
            exact hm7)
          have hm9 := (hm8.pull 2 (by simp)).tail
          clear hm7 hm8 M
          have M := Aside0.mk hm9
          clear hm9
          go_wp2_with fail
          go_roundw
          case rel => exact ⟨i + 1, A6, c6, items ++ [⟨⟨manyS, List.replicate K (i - 1), 0⟩, 0, A12, c12⟩], by omega, by omega, by omega, rfl, by go_num, by simp [hil], ⟨by
            rw [List.map_append, HI.out, dbl_succ]
            congr 1
            simp [nd, dblAt, labAt, wide, show i ≠ 0 by omega, hlt]⟩, ⟨by
            have h := M.out
            rw [List.length_append, List.length_singleton, hil] at h
            exact h⟩⟩
          case measure => simp [intOf]; omega
    · have hie : D + 1 = i := by omega
      subst hie
      go_wp2_with fail
      go_loopw [9, 13] (fun v9 v13 wr => ∃ (k N : Nat) (A9 : Option Addr) (c9 : Nat) (items : List PartM), k ≤ ts.length ∧ k ≤ 50 ∧ N ≤ 1 + D + k ∧ 1 + D + k ≤ N ∧ N ≤ c9 ∧ v9 = .slice A9 N c9 ∧ v13 = .int .i64 k ∧ items.length = N ∧ Aside0 (items.map nd = dbl D K (ts.take 50) N) ∧
        Aside0 (Sep w wr (rowR 27 2 (.slice A9 N c9) N (nodeCells items) :: kidsR items :: readR w (fun w => Kd.string.C w A ts.length ts) :: []))) (fun _ v13 _ => 50 - (intOf v13).toNat)
      case atStart => exact ⟨0, D + 1, A9, c9, items, by omega, by omega, by omega, by omega, hc9, rfl, rfl, hil, HI, M⟩
      case round =>
        clear M HI hil hc9
        obtain ⟨k, N, A9, c9, items, hk1, hk2, hN1, hN2, hc9, rfl, rfl, hil, HI, M⟩ := hrel
        by_cases h1 : k < ts.length
        · by_cases h2 : k < 50
          · have d1 : (k : Int) < (ts.length : Int) := by omega
            have d2 : (k : Int) < 50 := by omega
            have b1 : decide ((k : Int) < (ts.length : Int)) = true := decide_eq_true d1
            have b2 : decide ((k : Int) < 50) = true := decide_eq_true d2
            obtain ⟨adt, rfl, hct⟩ := (read_at (M.out.pull 2 (by simp))).2.2 (by omega)
            obtain ⟨cc, _, hcc, hcell⟩ := hct k ts[k] (List.getElem?_eq_getElem h1)
            have t0 : wr.cell? (adt.add k) = some (.string ts[k]) := by
              have hcc2 : cc = [.string ts[k]] := hcc
              have := hcell 0 (.string ts[k]) (by rw [hcc2]; rfl)
              rw [show k * Kd.string.sz + 0 = k from by show k * 1 + 0 = k; omega] at this
              exact this
            have hsz := HTs.out ts[k] (List.getElem_mem h1)
            have Hnum := Aside0.mk (show Value.int .i64 ((N : Int) - 1) = nat (N - 1) by unfold nat; rw [show (N : Int) - 1 = ((N - 1 : Nat) : Int) by omega])
            have Htk := Aside0.mk (show (ts.take 50).getD (N - D - 1) ByteArray.empty = ts[k] by
              rw [show N - D - 1 = k by omega, List.getD_eq_getElem?_getD, List.getElem?_take_of_lt h2, List.getElem?_eq_getElem h1]
              rfl)
            generalize ts[k] = tk at t0 hsz Htk
            clear hct hcc hcell
            have hnew := box_at (box_fresh (row_lit M.out (.int .i64 ((N : Int) - 1))) 27 #[.string (oneS ++ tk), .slice (some ⟨wr.heap.size, 0, none⟩) 1 1])
            rw [show (wr.alloc (.cells #[.int .i64 ((N : Int) - 1)] 3)).heap.size = wr.heap.size + 1 by simp] at hnew
            have HNew := Aside0.mk hnew
            clear hnew
            go_wp2_with (at_builtin; refine wp_node (b := wr.heap.size + 1) (u0 := .string (oneS ++ tk)) (u1 := .slice (some ⟨wr.heap.size, 0, none⟩) 1 1) (((row_lit M.out (.int .i64 ((N : Int) - 1))).pull 1 (by simp)).alloc (.cells #[.string (oneS ++ tk), .slice (some ⟨wr.heap.size, 0, none⟩) 1 1] 27)) rfl (.tmp 67) (.tmp 78) rfl rfl rfl HNew.out rfl rfl (by omega) ?_; intro A6 c6 w6 hc6 hm6; clear M t0 HNew; have M := Aside0.mk hm6; clear hm6)
            have hm7 := ((M.out.pull 1 (by simp)).pull 2 (by simp)).pull 2 (by simp)
            have hm8 := item_more (items := items) (q := ⟨⟨oneS ++ tk, [N - 1], 0⟩, 0, some ⟨wr.heap.size, 0, none⟩, 1⟩) (v := .slice A6 (N + 1) c6) (rs := readR w (fun w => Kd.string.C w (some adt) ts.length ts) :: []) (by
              simp only [PartM.kv, List.length_singleton, List.map_cons, List.map_nil, hil]
              rw [← Hnum.out]
              exact hm7)
            clear hm7 M
            have M := Aside0.mk hm8
            clear hm8
            go_wp2_with fail
            go_roundw
            case rel =>
              first | refine ⟨_, _, _, _, _, _, _, _, _, _, _, _, _, _, _, _, _, _, _, _, _, _, _, _, _, ?rel2, rfl⟩ | refine ⟨_, _, _, _, _, _, _, _, _, _, _, _, _, _, _, _, _, _, _, _, _, _, _, _, _, rfl, ?rel2⟩
              exact ⟨k + 1, N + 1, A6, c6, items ++ [⟨⟨oneS ++ tk, [N - 1], 0⟩, 0, some ⟨wr.heap.size, 0, none⟩, 1⟩], by omega, by omega, by omega, by omega, by omega, rfl, by go_num, by simp [hil], ⟨by
              rw [List.map_append, HI.out, dbl_succ]
              congr 1
              simp only [List.map_cons, List.map_nil, nd, dblAt, labAt, wide]
              rw [if_neg (by omega), if_neg (by omega), if_neg (by omega), if_neg (by omega), Htk.out]
              rfl⟩, ⟨by
              have h := M.out
              rw [List.length_append, List.length_singleton, hil] at h
              exact h⟩⟩
            case measure => simp [intOf]; omega
          · have d1 : (k : Int) < (ts.length : Int) := by omega
            have d2 : ¬ (k : Int) < 50 := by omega
            have b1 : decide ((k : Int) < (ts.length : Int)) = true := decide_eq_true d1
            have b2 : decide ((k : Int) < 50) = false := decide_eq_false d2
            have hb35 := build35
            go_wp2_with fail
            refine (chain_nodes M.out hil HI.out (by omega) hc9 ⟨by omega, by omega⟩ ⟨by omega, by omega⟩ hk2 HTs.out).mono ?_
            rintro e w9 ⟨b, L, c1', C, c2', A2, cs, rfl, hL, hcl, hC, hcnt, x0, x1, hm⟩
            clear M
            have M := Aside0.mk hm
            have HCnt := Aside0.mk hcnt
            have HCl := Aside0.mk hcl
            clear hm hcnt hcl
            replace x0 : w9.cell? ⟨b, 0, none⟩ = some (.string { data := #[108, 101, 97, 102] }) := x0
            replace x1 : w9.cell? ⟨b, 1, none⟩ = some (.string { data := #[109, 97, 110, 121] }) := x1
            have g1 : ¬ (L : Int) < 2 := by omega
            have g2 : decide ((L : Int) < 2) = false := decide_eq_false g1
            have g3 : (0 : Int) < (L : Int) := by omega
            have g4 : (1 : Int) < (L : Int) := by omega
            have hw := want_is (N := N) (k := k) hC ⟨by omega, by omega⟩ ⟨by omega, by omega⟩ hk2 (by omega)
            have hCpos : 0 < C := by omega
            have hCle : C ≤ 100000 := codes_small hC ⟨by omega, by omega⟩ ⟨by omega, by omega⟩ hk2
            have HC := Aside0.mk hC
            clear hC
            obtain ⟨gb, cb, eb, hcb, _⟩ := row_some M.out.row hCpos
            simp only [Value.slice.injEq, true_and] at eb
            obtain ⟨rfl, rfl⟩ := eb
            go_wp2_with fail
            go_loopw [19, 20] (fun v19 v20 wq => ∃ (i : Nat), i ≤ C ∧ v20 = .int .i64 i ∧ v19 = .int .i64 (((cs.take i).count (-1) : Nat) : Int) ∧ Aside0 (Sep w wq (rowR 3 1 (.slice (some ⟨gb, 0, none⟩) C c2') C (cs.map num) :: readR w (fun w => Kd.string.C w A ts.length ts) :: []))) (fun _ v20 _ => C - (intOf v20).toNat)
            case atStart => exact ⟨0, by omega, rfl, rfl, M⟩
            case round =>
              clear M x0 x1
              obtain ⟨i, hi, rfl, rfl, M⟩ := hrel
              by_cases hic : i < C
              · have hic2 : i < cs.length := by rw [HCl.out]; exact hic
                have t0 : wr.cell? ⟨gb, i, none⟩ = some (.int .i64 cs[i]) := row_cell M.out (by rw [List.getElem?_map, List.getElem?_eq_getElem hic2]; rfl)
                have hcount : (cs.take (i + 1)).count (-1) = (cs.take i).count (-1) + (if cs[i] = -1 then 1 else 0) := by
                  rw [List.take_succ_eq_append_getElem hic2, List.count_append, List.count_singleton]
                  simp
                have hcle : (cs.take i).count (-1) ≤ 100000 := by
                  have h1 := List.count_le_length (a := (-1 : Int)) (l := cs.take i)
                  rw [List.length_take] at h1
                  omega
                have Hcount := Aside0.mk hcount
                clear hcount
                generalize (cs.take i).count (-1) = sv at hcle Hcount
                by_cases hm1 : cs[i] = -1
                · rw [hm1] at t0
                  go_wp2_with fail
                  go_roundw
                  case rel => exact ⟨i + 1, by omega, by go_num, by rw [Hcount.out, if_pos hm1]; go_num, M⟩
                  case measure => simp [intOf]; omega
                · generalize cs[i] = x at t0 hm1 Hcount
                  have b5 : (x == -1) = false := by simpa using hm1
                  go_wp2_with fail
                  go_roundw
                  case rel => exact ⟨i + 1, by omega, by go_num, by rw [Hcount.out, if_neg hm1]; go_num, M⟩
                  case measure => simp [intOf]; omega
              · have hie : C = i := by omega
                subst hie
                rw [← HCl.out, List.take_length, HCnt.out]
                have e9 : (((D - 1 : Nat) : Int) == (D : Int) - 1) = true := by simp; omega
                go_wp2_with fail
                go_ret
                exact ⟨by first | rfl | rw [e9], M.out.1⟩
        · have d1 : ¬ (k : Int) < (ts.length : Int) := by omega
          have b1 : decide ((k : Int) < (ts.length : Int)) = false := decide_eq_false d1
          have hb35 := build35
          go_wp2_with fail
          refine (chain_nodes M.out hil HI.out (by omega) hc9 ⟨by omega, by omega⟩ ⟨by omega, by omega⟩ hk2 HTs.out).mono ?_
          rintro e w9 ⟨b, L, c1', C, c2', A2, cs, rfl, hL, hcl, hC, hcnt, x0, x1, hm⟩
          clear M
          have M := Aside0.mk hm
          have HCnt := Aside0.mk hcnt
          have HCl := Aside0.mk hcl
          clear hm hcnt hcl
          replace x0 : w9.cell? ⟨b, 0, none⟩ = some (.string { data := #[108, 101, 97, 102] }) := x0
          replace x1 : w9.cell? ⟨b, 1, none⟩ = some (.string { data := #[109, 97, 110, 121] }) := x1
          have g1 : ¬ (L : Int) < 2 := by omega
          have g2 : decide ((L : Int) < 2) = false := decide_eq_false g1
          have g3 : (0 : Int) < (L : Int) := by omega
          have g4 : (1 : Int) < (L : Int) := by omega
          have hw := want_is (N := N) (k := k) hC ⟨by omega, by omega⟩ ⟨by omega, by omega⟩ hk2 (by omega)
          have hCpos : 0 < C := by omega
          have hCle : C ≤ 100000 := codes_small hC ⟨by omega, by omega⟩ ⟨by omega, by omega⟩ hk2
          have HC := Aside0.mk hC
          clear hC
          obtain ⟨gb, cb, eb, hcb, _⟩ := row_some M.out.row hCpos
          simp only [Value.slice.injEq, true_and] at eb
          obtain ⟨rfl, rfl⟩ := eb
          go_wp2_with fail
          go_loopw [19, 20] (fun v19 v20 wq => ∃ (i : Nat), i ≤ C ∧ v20 = .int .i64 i ∧ v19 = .int .i64 (((cs.take i).count (-1) : Nat) : Int) ∧ Aside0 (Sep w wq (rowR 3 1 (.slice (some ⟨gb, 0, none⟩) C c2') C (cs.map num) :: readR w (fun w => Kd.string.C w A ts.length ts) :: []))) (fun _ v20 _ => C - (intOf v20).toNat)
          case atStart => exact ⟨0, by omega, rfl, rfl, M⟩
          case round =>
            clear M x0 x1
            obtain ⟨i, hi, rfl, rfl, M⟩ := hrel
            by_cases hic : i < C
            · have hic2 : i < cs.length := by rw [HCl.out]; exact hic
              have t0 : wr.cell? ⟨gb, i, none⟩ = some (.int .i64 cs[i]) := row_cell M.out (by rw [List.getElem?_map, List.getElem?_eq_getElem hic2]; rfl)
              have hcount : (cs.take (i + 1)).count (-1) = (cs.take i).count (-1) + (if cs[i] = -1 then 1 else 0) := by
                rw [List.take_succ_eq_append_getElem hic2, List.count_append, List.count_singleton]
                simp
              have hcle : (cs.take i).count (-1) ≤ 100000 := by
                have h1 := List.count_le_length (a := (-1 : Int)) (l := cs.take i)
                rw [List.length_take] at h1
                omega
              have Hcount := Aside0.mk hcount
              clear hcount
              generalize (cs.take i).count (-1) = sv at hcle Hcount
              by_cases hm1 : cs[i] = -1
              · rw [hm1] at t0
                go_wp2_with fail
                go_roundw
                case rel => exact ⟨i + 1, by omega, by go_num, by rw [Hcount.out, if_pos hm1]; go_num, M⟩
                case measure => simp [intOf]; omega
              · generalize cs[i] = x at t0 hm1 Hcount
                have b5 : (x == -1) = false := by simpa using hm1
                go_wp2_with fail
                go_roundw
                case rel => exact ⟨i + 1, by omega, by go_num, by rw [Hcount.out, if_neg hm1]; go_num, M⟩
                case measure => simp [intOf]; omega
            · have hie : C = i := by omega
              subst hie
              rw [← HCl.out, List.take_length, HCnt.out]
              have e9 : (((D - 1 : Nat) : Int) == (D : Int) - 1) = true := by simp; omega
              go_wp2_with fail
              go_ret
              exact ⟨by first | rfl | rw [e9], M.out.1⟩
end Go.Proofs.Ytkonloadedbpkaa.DoublesW
