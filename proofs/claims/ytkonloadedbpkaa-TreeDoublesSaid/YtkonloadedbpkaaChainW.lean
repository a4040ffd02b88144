/- TreeDoubles walked. -/
import Derived.Test.YtkonloadedbpkaaChainP
import Derived.Test.YtkonloadedbpkaaRowsOf
import Derived.Test.YtkonloadedbpkaaLabX
import Derived.Deep.AppendLies
import Derived.Deep.RegionHeld3
import Derived.Deep.DeepCutAuto
import Derived.Deep.DrawnRows
namespace Go.Proofs.Ytkonloadedbpkaa.ChainW
open Go.RowKit Go.Maps Go.Proofs.Ytkonloadedbpkaa.Sep Go.Proofs.Ytkonloadedbpkaa.FMaps Go.Proofs.Ytkonloadedbpkaa.FoldPure Go.Proofs.Ytkonloadedbpkaa.FoldMem Go.Proofs.Ytkonloadedbpkaa.Gather Go.Proofs.Ytkonloadedbpkaa.FoldSame Go.Proofs.Ytkonloadedbpkaa.NodeMem Go.Proofs.Ytkonloadedbpkaa.RowsOf Go.Proofs.Ytkonloadedbpkaa.KindsP Go.Proofs.Ytkonloadedbpkaa.KindsW Go.Proofs.Ytkonloadedbpkaa.TreeW Go.Proofs.Ytkonloadedbpkaa.KindsS Go.Proofs.Ytkonloadedbpkaa.ShareP Go.Proofs.Ytkonloadedbpkaa.ShareR Go.Proofs.Ytkonloadedbpkaa.ShareL Go.Proofs.Ytkonloadedbpkaa.SameW Go.Proofs.Ytkonloadedbpkaa.TreeP Go.Proofs.Ytkonloadedbpkaa.LabX Go.Proofs.Ytkonloadedbpkaa.ChainP
open Go.Proofs.YtkonloadedbpkaaW.PrintWords Go.Proofs.YtkonloadedbpkaaW.PrintLast Go.Proofs.YtkonloadedbpkaaW.PrintMore
set_option linter.unusedVariables false
set_option linter.unusedSimpArgs false
set_option maxRecDepth 100000

/-! ### two lists of nodes over the same kids -/
def KidsC (items : List PartM) (w : World) : Prop := ∀ q ∈ items, q.part.kids.length ≤ q.c ∧ Kd.C (Kd.int .i64) w q.A q.part.kids.length (ints q.part.kids)
theorem nodes_core {w : World} {A : Option Addr} {c : Nat} {items : List PartM} (h : w.ownsRow 0 27 2 (.slice A items.length c) items.length (nodeCells items)) (hl : items.length ≤ 4194304) (hk : KidsC items w) : NodesC A (items.map nd) w := by
  show Kd.C kP w A (items.map nd).length ((items.map nd).map toP)
  rw [List.length_map]
  refine ⟨by simp, by omega, fun hn => ?_⟩
  obtain ⟨b, cap, e, _, hcell, _⟩ := row_some h hn
  simp only [Value.slice.injEq, true_and] at e
  refine ⟨⟨b, 0, none⟩, e.1, fun j p hp => ?_⟩
  rw [List.map_map, List.getElem?_map] at hp
  obtain ⟨q, hq, rfl⟩ := Option.map_eq_some_iff.1 hp
  have hj := (List.getElem?_eq_some_iff.1 hq).1
  have hq2 : items[j] = q := (List.getElem?_eq_some_iff.1 hq).2
  obtain ⟨h1, h2⟩ := hk q (List.mem_of_getElem? hq)
  obtain ⟨n1, n2⟩ := nodes_at items hj
  rw [hq2] at n1 n2
  refine ⟨[.string q.part.label, q.kv], rfl, ⟨[.string q.part.label], [q.kv], rfl, rfl, ⟨q.A, q.c, ?_, ?_, ?_⟩⟩, fun i u hu => ?_⟩
  · show [q.kv] = [.slice q.A (ints q.part.kids).length q.c]
    simp [PartM.kv]
  · show (ints q.part.kids).length ≤ q.c
    simpa using h1
  · show Kd.C (Kd.int .i64) w q.A (ints q.part.kids).length (ints q.part.kids)
    rw [List.length_map]
    exact h2
  · have e3 : ∀ i, (⟨b, 0, none⟩ : Addr).add (j * kP.sz + i) = ⟨b, j * 2 + i, none⟩ := fun i => add0 b (j * 2 + i)
    rw [e3]
    match i, hu with
    | 0, hu => exact hcell _ u (by simp at hu; subst hu; exact n1)
    | 1, hu => exact hcell _ u (by simp at hu; subst hu; exact n2)
    | i + 2, hu => simp at hu
theorem two_read {W w : World} {rs : List Res} {A B : Option Addr} {c d n : Nat} {items items2 : List PartM} (hn : items.length = n) (hn2 : items2.length = n) (hl : n ≤ 4194304) (hk : ∀ q ∈ items, q.part.kids.length ≤ 4194304)
    (hsame : ∀ q ∈ items2, ∃ p ∈ items, p.A = q.A ∧ p.c = q.c ∧ p.part.kids = q.part.kids)
    (h : Sep W w (rowR 27 2 (.slice A n c) n (nodeCells items) :: rowR 27 2 (.slice B n d) n (nodeCells items2) :: kidsR items :: rs)) :
    Sep W w (readR W (fun w' => NodesC A (items.map nd) w' ∧ NodesC B (items2.map nd) w') :: rs) := by
  have h1 := h.pull 1 (by simp)
  have h2 := (h1.pull 2 (by simp)).pull 1 (by simp)
  have h3 : Sep W w (readR W (fun w' => NodesC B (items2.map nd) w' ∧ KidsC items w') :: rowR 27 2 (.slice A n c) n (nodeCells items) :: rs) := by
    refine h2.join fun f g hf hg w' _ hw => ?_
    have hf2 := (RowAt.bound hf).move (w' := w') fun k hk => hw k (.inl hk.1) hk.2
    have hg2 : ∀ q ∈ items, RowAt w' 3 1 q.kv q.part.kids.length (q.part.kids.map nat) (fun k => g k ∧ k < w.heap.size) := fun q hq => (RowAt.bound (hg q hq)).move fun k hk => hw k (.inr hk.1) hk.2
    have hK : KidsC items w' := fun q hq => kid_reads (hg2 q hq) (by have := hk q hq; omega)
    refine ⟨nodes_core (c := d) (by rw [hn2]; exact hf2.1) (by omega) fun q hq => ?_, hK⟩
    obtain ⟨p, hp, e1, e2, e3⟩ := hsame q hq
    have := hK p hp
    rw [e1, e2, e3] at this
    exact this
  refine (h3.pull 1 (by simp)).join fun f g hf hg w' hW hw => ?_
  have hf2 := (RowAt.bound hf).move (w' := w') fun k hk => hw k (.inl hk.1) hk.2
  obtain ⟨b1, b2⟩ := hg w' hW fun k hk hl => hw k (.inr hk) hl
  exact ⟨nodes_core (c := c) (by rw [hn]; exact hf2.1) (by omega) b2, b1⟩
theorem strs_old {W : World} {A : Option Addr} {n : Nat} {ts : List ByteArray} (h : Kd.C Kd.string W A n ts) : ∀ w' : World, (∀ k, k < W.heap.size → w'.heap[k]? = W.heap[k]?) → Kd.C Kd.string w' A n ts := by
  intro w' hw
  refine ⟨h.1, h.2.1, fun hn => ?_⟩
  obtain ⟨ad, e, hc⟩ := h.2.2 hn
  refine ⟨ad, e, fun j p hp => ?_⟩
  obtain ⟨c, h1, h2, h3⟩ := hc j p hp
  refine ⟨c, h1, h2, fun i u hu => ?_⟩
  have := h3 i u hu
  have hl := World.block_lt_of_cell? _ _ this
  unfold World.cell? at this ⊢
  rw [hw _ hl]
  exact this
theorem mod_there (n : Int) (k a : Nat) (hk : 1 ≤ k) (hk2 : k ≤ 1000) (ha2 : a ≤ 10) : ∃ D : Nat, (a ≤ D ∧ D < a + k) ∧ wrap64 ((a : Int) + (wrap64 (n.tmod (k : Int) + (k : Int))).tmod (k : Int)) = (D : Int) := by
  have h1 := Int.tmod_eq_emod (a := n) (b := (k : Int))
  have h3 : 0 ≤ n % (k : Int) := Int.emod_nonneg _ (by omega)
  have h4 : n % (k : Int) < (k : Int) := Int.emod_lt_of_pos _ (by omega)
  have h5 : 0 ≤ Int.tmod n k + k ∧ Int.tmod n k + k ≤ 2000 := by
    rw [h1]
    split
    · omega
    · simp; omega
  have h8 : wrap64 (n.tmod (k : Int) + (k : Int)) = n.tmod (k : Int) + (k : Int) := by unfold wrap64; omega
  rw [h8]
  replace h5 := h5.1
  rw [Int.tmod_eq_emod_of_nonneg h5]
  have h6 : 0 ≤ (Int.tmod n k + k) % (k : Int) := Int.emod_nonneg _ (by omega)
  have h7 : (Int.tmod n k + k) % (k : Int) < (k : Int) := Int.emod_lt_of_pos _ (by omega)
  generalize (Int.tmod n k + k) % (k : Int) = r at h6 h7
  exact ⟨a + r.toNat, by omega, by unfold wrap64; omega⟩
theorem row_stored {W w : World} {rs : List Res} {e size b c n j : Nat} {u : Value} {xs : List Value} (h : Sep W w (rowR e size (.slice (some ⟨b, 0, none⟩) n c) n xs :: rs)) :
    Sep W (w.setCell ⟨b, j, none⟩ u) (rowR e size (.slice (some ⟨b, 0, none⟩) n c) n (xs.set j u) :: rs) :=
  h.turn fun f ⟨h1, h2⟩ => ⟨⟨(h1.stored j u).1, fun k hk => .inl (h2 k hk)⟩, Turns.setCell w ⟨b, j, none⟩ u (h2 b rfl)⟩
theorem ch_tail (b : ByteArray) (t n : Nat) : chN b t (n + 1) = (b, []) :: (List.range n).map (fun i => chAt mS t (i + 1)) := by
  unfold chN
  rw [List.range_succ_eq_map, List.map_cons, List.map_map]
  congr 1
/-- The list whose first node has another label. -/
theorem other_first {items : List PartM} {t n : Nat} (h : items.map nd = chN mS t n) (hn : 0 < n) : ∃ items2 : List PartM, items2.length = items.length ∧ items2.map nd = chN otherS t n ∧ nodeCells items2 = (nodeCells items).set 0 (.string otherS) ∧ ∀ q ∈ items2, ∃ p ∈ items, p.A = q.A ∧ p.c = q.c ∧ p.part.kids = q.part.kids := by
  obtain ⟨k, rfl⟩ : ∃ k, n = k + 1 := ⟨n - 1, by omega⟩
  rw [ch_tail] at h
  cases items with
  | nil => simp at h
  | cons q rest =>
    simp only [List.map_cons, List.cons.injEq] at h
    obtain ⟨h1, h2⟩ := h
    have hk : q.part.kids = [] := congrArg Prod.snd h1
    refine ⟨⟨⟨otherS, q.part.kids, 0⟩, 0, q.A, q.c⟩ :: rest, rfl, ?_, rfl, fun p hp => ?_⟩
    · rw [ch_tail, List.map_cons, h2]
      show (otherS, q.part.kids) :: _ = _
      rw [hk]
    · rcases List.mem_cons.1 hp with rfl | hp
      · exact ⟨q, by simp, rfl, rfl, rfl⟩
      · exact ⟨p, by simp [hp], rfl, rfl, rfl⟩
def labR (l : List Nd) : List ByteArray := if (labN l).length ≤ 2000 then labN l else []
theorem labels_read {W w : World} {rs : List Res} {A : Option Addr} {c : Nat} {m : List Nd} {C : World → Prop} (hM : Sep W w (readR W C :: rs)) (hCC : ∀ w', C w' → NodesC A m w') (h0 : 0 < m.length) (hl : m.length ≤ 4194304) (hv : Valid m) (he : (m.map (·.2.length)).sum ≤ 4194304) :
    Calls Try.prog 22 #[.slice A m.length c] w fun e w' => ∃ (A' : Option Addr) (c' : Nat), e = .returned (.tuple #[.slice A' (labR m).length c', .bool (decide ((labN m).length ≤ 2000))]) ∧ Sep W w' (readR W C :: rs) := by
  refine (labels_calls (c := c) hM hCC h0 hl hv he).mono ?_
  intro e w' h
  unfold LabOut at h
  unfold labR
  by_cases h2 : (labN m).length ≤ 2000
  · rw [if_pos h2] at h
    simp only [if_pos h2]
    obtain ⟨v, rfl, hm⟩ := h
    obtain ⟨A', c', rfl, hc'⟩ := row_slice hm.row
    exact ⟨A', c', by rw [decide_eq_true h2], hm.tail⟩
  · rw [if_neg h2] at h
    simp only [if_neg h2]
    obtain ⟨rfl, hm⟩ := h
    exact ⟨none, 0, by rw [decide_eq_false h2]; rfl, hm⟩
theorem lab_cases {l : List Nd} (hv : Valid l) (h0 : 0 < l.length) : (decide ((labN l).length ≤ 2000) = true ∧ (labR l).length = sizeN l ∧ sizeN l ≤ 2000) ∨ (decide ((labN l).length ≤ 2000) = false ∧ (labR l).length = 0 ∧ ¬ sizeN l ≤ 2000) := by
  have h := sizeN_len hv h0
  by_cases h2 : (labN l).length ≤ 2000
  · exact .inl ⟨decide_eq_true h2, by unfold labR; rw [if_pos h2]; omega, by omega⟩
  · exact .inr ⟨decide_eq_false h2, by unfold labR; rw [if_neg h2]; rfl, by omega⟩
set_option maxHeartbeats 8000000 in
theorem doubles_calls {w : World} {A : Option Addr} {c : Nat} {ts : List ByteArray} (hT : Kd.C Kd.string w A ts.length ts) (hts : ∀ s ∈ ts, s.size ≤ maxLen) (hc : ts.length ≤ c) (n m : Int) :
    Calls Try.prog 7 #[.int .i64 n, .int .i64 m, .slice A ts.length c] w fun e w' => e = .returned (.bool true) ∧ Below w.heap.size w w' := by
  have M0 := read_old (C := fun w => Kd.C Kd.string w A ts.length ts) (Sep.start w) (strs_old hT)
  have M := Aside0.mk (kids_none (row_nil (row_nil M0 27 2) 27 2))
  have HTs := Aside0.mk hts
  clear hT hts M0
  obtain ⟨N, hN, eN⟩ := mod_there n 300 1 (by omega) (by omega) (by omega)
  obtain ⟨T, hT, eT⟩ := mod_there m 3 2 (by omega) (by omega) (by omega)
  rw [show ((1 : Nat) : Int) = 1 from rfl, show ((300 : Nat) : Int) = 300 from rfl] at eN
  rw [show ((2 : Nat) : Int) = 2 from rfl, show ((3 : Nat) : Int) = 3 from rfl] at eT
  go_enter Try.func7, Try.ntmps7
  have EN := Aside0.mk eN
  have ET := Aside0.mk eT
  clear eN eT
  go_wp2_with fail
  rw [EN.out, ET.out]
  clear EN ET
  have hb27 := build27
  go_loopw [7, 8, 9, 10] (fun v7 v8 v9 v10 wr => ∃ (i : Nat) (A7 A8 : Option Addr) (c7 c8 : Nat) (items : List PartM), i ≤ N ∧ i ≤ c7 ∧ i ≤ c8 ∧ v7 = .slice A7 i c7 ∧ v8 = .slice A8 i c8 ∧ v9 = .int .i64 (szC T (i - 1) : Nat) ∧ v10 = .int .i64 i ∧ items.length = i ∧ Aside0 (items.map nd = chN mS T i) ∧
    Aside0 (Sep w wr (rowR 27 2 (.slice A7 i c7) i (nodeCells items) :: rowR 27 2 (.slice A8 i c8) i (nodeCells items) :: kidsR items :: readR w (fun w => Kd.string.C w A ts.length ts) :: []))) (fun _ _ _ v10 _ => N - (intOf v10).toNat)
  case atStart => exact ⟨0, none, none, 0, 0, [], by omega, by omega, by omega, rfl, rfl, rfl, rfl, rfl, ⟨rfl⟩, ⟨(M.out.pull 2 (by simp)).pull 2 (by simp)⟩⟩
  case round =>
    clear M
    obtain ⟨i, A7, A8, c7, c8, items, hi, hc7, hc8, rfl, rfl, rfl, rfl, hil, HI, M⟩ := hrel
    by_cases hlt : i < N
    · obtain ⟨wo, rfl⟩ : ∃ wo : World, wo = wr := ⟨_, rfl⟩
      have hX2 := row_nil (box_fresh M.out 27 #[.string mS, .slice none 0 0]) 3 1
      clear M
      have M := Aside0.mk hX2
      clear hX2
      go_wp2_with fail
      obtain ⟨K, hK⟩ : ∃ K, K = if i = 0 then 0 else T := ⟨_, rfl⟩
      go_loopw [12] (fun v12 wq => ∃ (j c12 : Nat) (A12 : Option Addr), j ≤ K ∧ j ≤ c12 ∧ v12 = .int .i64 j ∧
        Aside0 (Sep w wq (rowR 3 1 (.slice A12 j c12) j (List.replicate j (nat (i - 1))) :: boxR wo.heap.size 27 #[.string mS, .slice A12 j c12] :: rowR 27 2 (.slice A7 i c7) i (nodeCells items) :: rowR 27 2 (.slice A8 i c8) i (nodeCells items) :: kidsR items :: readR w (fun w => Kd.string.C w A ts.length ts) :: []))) (fun v12 _ => K - (intOf v12).toNat)
      case atStart => exact ⟨0, 0, none, by omega, by omega, rfl, M⟩
      case round =>
        clear M
        obtain ⟨j, c12, A12, hj, hc12, rfl, M⟩ := hrel
        by_cases hjl : j < K
        · have hi0 : 0 < i := by
            refine Classical.byContradiction fun h => ?_
            rw [if_pos (by omega)] at hK
            omega
          have hKT : K = T := by rw [if_neg (by omega)] at hK; exact hK
          have d1 : decide ((j : Int) < (T : Int)) = true := decide_eq_true (by omega)
          have d2 : decide ((0 : Int) < (i : Int)) = true := decide_eq_true (by omega)
          obtain ⟨p1, pf1⟩ : wr.cell? ⟨wo.heap.size, 1, none⟩ = some (.slice A12 j c12) ∧ wr.frozen? ⟨wo.heap.size, 1, none⟩ = false := box_cell (M.out.pull 1 (by simp)) (j := 1) rfl
          have Hnum := Aside0.mk (show Value.int .i64 ((i : Int) - 1) = nat (i - 1) by unfold nat; rw [show (i : Int) - 1 = ((i - 1 : Nat) : Int) by omega])
          go_wp2_with (at_builtin; refine wp_one (M.out.alloc (Obj.cells #[num ((i : Int) - 1)] 3)) rfl (.tmp 43) (.tmp 46) 25 rfl Try.underlying25 info3 rfl rfl rfl (new_cell' _ _ _ (by simp)) rfl (by omega) (by omega) ?_; intro A5 c5 w5 hc5 hm5; clear M p1 pf1; have M := Aside0.mk hm5; clear hm5; obtain ⟨p1, pf1⟩ : w5.cell? ⟨wo.heap.size, 1, none⟩ = some (.slice A12 j c12) ∧ w5.frozen? ⟨wo.heap.size, 1, none⟩ = false := box_cell (M.out.pull 1 (by simp)) (j := 1) rfl)
          have hm6 := at_ M.out 1 (by simp) (fun rs h => box_set h 1 (.slice A5 (j + 1) c5))
          rw [Hnum.out] at hm6
          go_wp2_with fail
          go_roundw
          case rel => exact ⟨j + 1, c5, A5, by omega, by omega, by go_num, ⟨by rw [List.replicate_succ']; exact hm6⟩⟩
          case measure => simp [intOf]; omega
        · have hje : K = j := by omega
          subst hje
          have hS := szC_le T (i - 1)
          obtain ⟨p0, _⟩ : wr.cell? ⟨wo.heap.size, 0, none⟩ = some (.string mS) ∧ _ := box_cell (M.out.pull 1 (by simp)) (j := 0) rfl
          obtain ⟨p1, _⟩ : wr.cell? ⟨wo.heap.size, 1, none⟩ = some (.slice A12 K c12) ∧ _ := box_cell (M.out.pull 1 (by simp)) (j := 1) rfl
          have hKl : K ≤ 4 := by rw [hK]; split <;> omega
          by_cases h0 : i = 0
          · have hK0 : K = 0 := by rw [if_pos h0] at hK; exact hK
            have d1 : K < T := by omega
            have d2 : decide (0 < i) = false := decide_eq_false (by omega)
            have H0 := Aside0.mk (show i = 0 ∧ K = 0 from ⟨h0, hK0⟩)
            clear h0 hK0 hK
            go_wp2_with (first | (at_builtin; refine wp_node ((M.out.pull 2 (by simp)).alloc (.cells #[.string mS, .slice A12 K c12] 27)) rfl (.tmp 49) (.tmp 51) rfl rfl rfl (box_at (box_fresh M.out 27 #[.string mS, .slice A12 K c12])) rfl rfl (by omega) ?_; intro A6 c6 w6 hc6 hm6; clear M p0 p1; have p0 : w6.cell? ⟨wo.heap.size, 0, none⟩ = some (.string mS) := (box_cell (hm6.pull 2 (by simp)) (j := 0) rfl).1; have p1 : w6.cell? ⟨wo.heap.size, 1, none⟩ = some (.slice A12 K c12) := (box_cell (hm6.pull 2 (by simp)) (j := 1) rfl).1; have M := Aside0.mk hm6; clear hm6) | (at_builtin; refine wp_node ((M.out.pull 3 (by simp)).alloc (.cells #[.string mS, .slice A12 K c12] 27)) rfl (.tmp 53) (.tmp 55) rfl rfl rfl (box_at (box_fresh M.out 27 #[.string mS, .slice A12 K c12])) rfl rfl (by omega) ?_; intro A9 c9 w9 hc9 hm9; clear M p0 p1; have M := Aside0.mk hm9; clear hm9))
            all_goals (try (exfalso; first | omega | (simp at d2; omega)))
            have hm7 := ((((M.out.pull 1 (by simp)).pull 4 (by simp)).pull 3 (by simp)).pull 1 (by simp)).pull 2 (by simp)
            have hm8 := item_more (items := items) (q := ⟨⟨mS, List.replicate K (i - 1), 0⟩, 0, A12, c12⟩) (v := .slice A6 (i + 1) c6) (rs := rowR 27 2 (.slice A9 (i + 1) c9) (i + 1) (nodeCells items ++ [.string mS, .slice A12 K c12]) :: boxR wo.heap.size 27 #[.string mS, .slice A12 K c12] :: readR w (fun w => Kd.string.C w A ts.length ts) :: []) (by
              simp only [PartM.kv, List.length_replicate, List.map_replicate, hil]
              exact hm7)
            rw [List.length_append, List.length_singleton, hil] at hm8
            have hm9 := ((((hm8.pull 3 (by simp)).tail).pull 2 (by simp)).pull 1 (by simp))
            have hcells : nodeCells items ++ [.string mS, .slice A12 K c12] = nodeCells (items ++ [⟨⟨mS, List.replicate K (i - 1), 0⟩, 0, A12, c12⟩]) := by
              rw [← nodes_more]
              simp [cells2, PartM.kv]
            have hm10 : Sep w w9 (rowR 27 2 (.slice A6 (i + 1) c6) (i + 1) (nodeCells (items ++ [⟨⟨mS, List.replicate K (i - 1), 0⟩, 0, A12, c12⟩])) :: rowR 27 2 (.slice A9 (i + 1) c9) (i + 1) (nodeCells (items ++ [⟨⟨mS, List.replicate K (i - 1), 0⟩, 0, A12, c12⟩])) :: kidsR (items ++ [⟨⟨mS, List.replicate K (i - 1), 0⟩, 0, A12, c12⟩]) :: readR w (fun w => Kd.string.C w A ts.length ts) :: []) := by
              rw [← hcells]
              rw [← hcells] at hm9
              exact hm9
            clear hm7 hm8 hm9 M
            have M := Aside0.mk hm10
            clear hm10 hcells
            obtain ⟨h0, hK0⟩ := H0.out
            exact ⟨⟨i + 1, A6, A9, c6, c9, items ++ [⟨⟨mS, List.replicate K (i - 1), 0⟩, 0, A12, c12⟩], by omega, by omega, by omega, rfl, rfl, by rw [h0], by go_num, by simp [hil], ⟨by
              rw [List.map_append, HI.out, chN_succ]
              congr 1
              simp [nd, chAt, h0, hK0]⟩, M⟩, by simp [intOf]; omega⟩
          · have hK0 : K = T := by rw [if_neg h0] at hK; exact hK
            have d1 : ¬ K < T := by omega
            have d2 : 0 < i := by omega
            have hmul : T * szC T (i - 1) ≤ 4 * 2001 := Nat.mul_le_mul (by omega) hS
            have H0 := Aside0.mk (show 0 < i ∧ K = T from ⟨by omega, hK0⟩)
            clear h0 hK0 hK
            go_wp2_with (first | (at_builtin; refine wp_node ((M.out.pull 2 (by simp)).alloc (.cells #[.string mS, .slice A12 K c12] 27)) rfl (.tmp 49) (.tmp 51) rfl rfl rfl (box_at (box_fresh M.out 27 #[.string mS, .slice A12 K c12])) rfl rfl (by omega) ?_; intro A6 c6 w6 hc6 hm6; clear M p0 p1; have p0 : w6.cell? ⟨wo.heap.size, 0, none⟩ = some (.string mS) := (box_cell (hm6.pull 2 (by simp)) (j := 0) rfl).1; have p1 : w6.cell? ⟨wo.heap.size, 1, none⟩ = some (.slice A12 K c12) := (box_cell (hm6.pull 2 (by simp)) (j := 1) rfl).1; have M := Aside0.mk hm6; clear hm6) | (at_builtin; refine wp_node ((M.out.pull 3 (by simp)).alloc (.cells #[.string mS, .slice A12 K c12] 27)) rfl (.tmp 53) (.tmp 55) rfl rfl rfl (box_at (box_fresh M.out 27 #[.string mS, .slice A12 K c12])) rfl rfl (by omega) ?_; intro A9 c9 w9 hc9 hm9; clear M p0 p1; have M := Aside0.mk hm9; clear hm9))
            all_goals (try (exfalso; first | omega | (simp at d2; omega)))
            have hm7 := ((((M.out.pull 1 (by simp)).pull 4 (by simp)).pull 3 (by simp)).pull 1 (by simp)).pull 2 (by simp)
            have hm8 := item_more (items := items) (q := ⟨⟨mS, List.replicate K (i - 1), 0⟩, 0, A12, c12⟩) (v := .slice A6 (i + 1) c6) (rs := rowR 27 2 (.slice A9 (i + 1) c9) (i + 1) (nodeCells items ++ [.string mS, .slice A12 K c12]) :: boxR wo.heap.size 27 #[.string mS, .slice A12 K c12] :: readR w (fun w => Kd.string.C w A ts.length ts) :: []) (by
              simp only [PartM.kv, List.length_replicate, List.map_replicate, hil]
              exact hm7)
            rw [List.length_append, List.length_singleton, hil] at hm8
            have hm9 := ((((hm8.pull 3 (by simp)).tail).pull 2 (by simp)).pull 1 (by simp))
            have hcells : nodeCells items ++ [.string mS, .slice A12 K c12] = nodeCells (items ++ [⟨⟨mS, List.replicate K (i - 1), 0⟩, 0, A12, c12⟩]) := by
              rw [← nodes_more]
              simp [cells2, PartM.kv]
            have hm10 : Sep w w9 (rowR 27 2 (.slice A6 (i + 1) c6) (i + 1) (nodeCells (items ++ [⟨⟨mS, List.replicate K (i - 1), 0⟩, 0, A12, c12⟩])) :: rowR 27 2 (.slice A9 (i + 1) c9) (i + 1) (nodeCells (items ++ [⟨⟨mS, List.replicate K (i - 1), 0⟩, 0, A12, c12⟩])) :: kidsR (items ++ [⟨⟨mS, List.replicate K (i - 1), 0⟩, 0, A12, c12⟩]) :: readR w (fun w => Kd.string.C w A ts.length ts) :: []) := by
              rw [← hcells]
              rw [← hcells] at hm9
              exact hm9
            clear hm7 hm8 hm9 M
            have M := Aside0.mk hm10
            clear hm10 hcells
            obtain ⟨h0, hK0⟩ := H0.out
            have hsz : szC T i = min (1 + T * szC T (i - 1)) 2001 := by
              obtain ⟨k, rfl⟩ : ∃ k, i = k + 1 := ⟨i - 1, by omega⟩
              rfl
            exact ⟨⟨i + 1, A6, A9, c6, c9, items ++ [⟨⟨mS, List.replicate K (i - 1), 0⟩, 0, A12, c12⟩], by omega, by omega, by omega, rfl, rfl, by
              rw [show i + 1 - 1 = i by omega, hsz, ← Int.natCast_mul]
              generalize T * szC T (i - 1) = p
              congr 1
              split <;> omega, by go_num, by simp [hil], ⟨by
              rw [List.map_append, HI.out, chN_succ]
              congr 1
              simp [nd, chAt, show ¬ i = 0 by omega, hK0]⟩, M⟩, by simp [intOf]; omega⟩
    · have hie : N = i := by omega
      subst hie
      obtain ⟨items2, hil2, hI2, hcl2, hsame⟩ := other_first HI.out hN.1
      have h8 := M.out.pull 1 (by simp)
      obtain ⟨b8, cap8, hv8, _, hcell, hfz, _⟩ := row_some h8.row hN.1
      injection hv8 with hA8 _ _
      subst hA8
      obtain ⟨lb, r8⟩ : ∃ lb, wr.cell? ⟨b8, 0, none⟩ = some (.string lb) := ⟨_, hcell 0 _ (nodes_at items (k := 0) (by omega)).1⟩
      have f8 := hfz 0
      have hst := row_stored (j := 0) (u := .string otherS) h8
      rw [← hcl2] at hst
      have hrd := two_read (n := N) hil (hil2.trans hil) (by omega) (fun q hq => by
        have h1 : nd q ∈ chN mS T N := by rw [← HI.out]; exact List.mem_map_of_mem hq
        have := ch_kids mS T N _ h1
        show (nd q).2.length ≤ _
        omega) hsame (hst.pull 1 (by simp))
      rw [HI.out, hI2] at hrd
      clear h8 hcell hfz hst hsame hcl2 hI2 hil2 HI M
      have M := Aside0.mk hrd
      clear hrd
      have hLv := ch_valid mS T N
      have hLl := chN_len mS T N
      have hMv := ch_valid otherS T N
      have hMl := chN_len otherS T N
      have hLs : ((chN mS T N).map (·.2.length)).sum ≤ 4194304 := by
        have := sum_kids (ch_kids mS T N)
        rw [hLl] at this
        have : T * N ≤ 4 * 300 := Nat.mul_le_mul (by omega) (by omega)
        omega
      have hMs : ((chN otherS T N).map (·.2.length)).sum ≤ 4194304 := by
        have := sum_kids (ch_kids otherS T N)
        rw [hMl] at this
        have : T * N ≤ 4 * 300 := Nat.mul_le_mul (by omega) (by omega)
        omega
      have hLb := ch_labs (b := mS) (by decide) T N
      have hMb := ch_labs (b := otherS) (by decide) T N
      have E1 := Aside0.mk (ch_size mS T hN.1)
      have E2 := Aside0.mk (ch_depth mS (t := T) (by omega) hN.1)
      have E3 := Aside0.mk (ch_same mS T N hN.1)
      have E4 := Aside0.mk (ch_other (t := T) (n := N) (by omega) hN.1)
      have E5 := Aside0.mk (ch_share mS (t := T) (by omega) hN.1)
      have hlc := lab_cases hLv (by omega)
      have hS := szC_le T (N - 1)
      generalize chN mS T N = l at *
      generalize chN otherS T N = m2 at *
      go_wp2_with fail
      have hlr := labels_read (c := c7) M.out (fun _ h => h.1) (by omega) (by omega) hLv hLs
      rw [hLl] at hlr
      refine hlr.mono ?_
      clear hlr
      rintro e w5 ⟨A13, c13, rfl, hm5⟩
      clear M r8 f8
      have M := Aside0.mk hm5
      clear hm5
      have hszs : sizeN l = szC T (N - 1) := E1.out
      rw [hszs] at hlc
      clear hszs
      generalize szC T (N - 1) = sz at *
      rcases hlc with ⟨hok, hlen, hd⟩ | ⟨hok, hlen, hd⟩
      all_goals (
        rw [hok, hlen]
        clear hok hlen
        go_wp2_with fail
        have hz := size_calls (c := c7) M.out (fun _ h => h.1) (by omega) (by omega) hLv hLs
        rw [hLl, E1.out] at hz
        refine hz.mono ?_
        clear hz
        rintro e w6 ⟨rfl, hm6⟩
        clear M
        have M := Aside0.mk hm6
        clear hm6
        unfold nat
        go_wp2_with fail
        have hz := depth_calls (c := c7) M.out (fun _ h => h.1) (by omega) (by omega) hLv hLs
        rw [hLl, E2.out] at hz
        refine hz.mono ?_
        clear hz
        rintro e w7 ⟨rfl, hm7⟩
        clear M
        have M := Aside0.mk hm7
        clear hm7
        unfold nat
        go_wp2_with fail
        have hq := same_calls (ca := c7) (cb := c7) M.out (fun _ h => h.1) (fun _ h => h.1) (by omega) (by omega) hLv hLs hLb (by omega) (by omega) hLv hLs hLb
        rw [hLl, decide_eq_true E3.out] at hq
        refine hq.mono ?_
        clear hq
        rintro e w8 ⟨rfl, hm8⟩
        clear M
        have M := Aside0.mk hm8
        clear hm8
        go_wp2_with fail
        have hq := same_calls (ca := c7) (cb := cap8) M.out (fun _ h => h.1) (fun _ h => h.2) (by omega) (by omega) hLv hLs hLb (by omega) (by omega) hMv hMs hMb
        rw [hLl, hMl, decide_eq_false E4.out] at hq
        refine hq.mono ?_
        clear hq
        rintro e w9 ⟨rfl, hm9⟩
        clear M
        have M := Aside0.mk hm9
        clear hm9
        go_wp2_with fail
        have hq := share_calls (c := c7) M.out (fun _ h => h.1) (by omega) (by omega) hLv hLs hLb
        rw [hLl] at hq
        refine hq.mono ?_
        clear hq
        rintro e w10 ⟨A17, c17, sitems, rfl, hsI, _, hm10⟩
        have hsl : sitems.length = N := by rw [← E5.out, ← hsI, List.length_map]
        rw [hsl]
        clear M hsI hsl
        have M := Aside0.mk (kids_none (row_nil hm10.tail.tail.tail 27 2))
        clear hm10 hLv hMv hLl hMl hLs hMs hLb hMb E1 E2 E3 E4 E5 hd hS
        go_wp2_with fail
        go_loopw [15, 16] (fun v15 v16 wr => ∃ (k : Nat) (A15 : Option Addr) (c15 : Nat) (items : List PartM), k ≤ ts.length ∧ k ≤ 100 ∧ k ≤ c15 ∧ v15 = .slice A15 k c15 ∧ v16 = .int .i64 k ∧ items.length = k ∧ Aside0 (items.map nd = flN (ts.take k)) ∧
          Aside0 (Sep w wr (rowR 27 2 (.slice A15 k c15) k (nodeCells items) :: kidsR items :: readR w (fun w => Kd.string.C w A ts.length ts) :: []))) (fun _ v16 _ => 100 - (intOf v16).toNat)
        case atStart => exact ⟨0, none, 0, [], by omega, by omega, by omega, rfl, rfl, rfl, ⟨rfl⟩, ⟨M.out.swap⟩⟩
        case round =>
          clear M
          obtain ⟨k, A15, c15, items, hk1, hk2, hc15, rfl, rfl, hil, HI, M⟩ := hrel
          by_cases hgo : k < ts.length ∧ k < 100
          · obtain ⟨h1, h2⟩ := hgo
            have b1 : decide ((k : Int) < (ts.length : Int)) = true := decide_eq_true (by omega)
            have b2 : decide ((k : Int) < 100) = true := decide_eq_true (by omega)
            obtain ⟨adt, rfl, hct⟩ := (read_at (M.out.pull 2 (by simp))).2.2 (by omega)
            obtain ⟨cc, _, hcc, hcell⟩ := hct k ts[k] (List.getElem?_eq_getElem h1)
            have t0 : wr.cell? (adt.add k) = some (.string ts[k]) := by
              have hcc2 : cc = [.string ts[k]] := hcc
              have := hcell 0 (.string ts[k]) (by rw [hcc2]; rfl)
              rw [show k * Kd.string.sz + 0 = k from by show k * 1 + 0 = k; omega] at this
              exact this
            have Htk := Aside0.mk (show ts.take (k + 1) = ts.take k ++ [ts[k]] from by rw [List.take_append_getElem h1])
            generalize ts[k] = tk at t0 Htk
            clear hct hcc hcell
            have hbk := build27 tk
            go_wp2_with (at_builtin; refine wp_node (M.out.alloc (.cells #[.string tk, .slice none 0 0] 27)) rfl (.tmp 132) (.tmp 138) rfl rfl rfl (box_at (box_fresh M.out 27 #[.string tk, .slice none 0 0])) rfl rfl (by omega) ?_; intro A6 c6 w6 hc6 hm6; clear M t0; have M := Aside0.mk hm6; clear hm6)
            have hm7 := item_more (items := items) (q := ⟨⟨tk, [], 0⟩, 0, none, 0⟩) (v := .slice A6 (k + 1) c6) (rs := readR w (fun w => Kd.string.C w (some adt) ts.length ts) :: []) (by
              rw [hil]
              exact ((row_nil M.out 3 1).swap).perm ((List.Perm.swap _ _ _).cons _))
            rw [List.length_append, List.length_singleton, hil] at hm7
            exact ⟨⟨k + 1, A6, c6, items ++ [⟨⟨tk, [], 0⟩, 0, none, 0⟩], by omega, by omega, by omega, rfl, by go_num, by simp [hil], ⟨by
              rw [List.map_append, HI.out, Htk.out]
              simp [flN, nd]⟩, ⟨hm7⟩⟩, by simp [intOf]; omega⟩
          · have hex : (k < ts.length ∧ (k : Int) < (ts.length : Int) ∧ ¬ (k : Int) < 100 ∧ decide ((k : Int) < (ts.length : Int)) = true ∧ decide ((k : Int) < 100) = false) ∨ (¬ k < ts.length ∧ ¬ (k : Int) < (ts.length : Int) ∧ (0 : Int) < 100 ∧ decide ((k : Int) < (ts.length : Int)) = false ∧ decide ((0 : Int) < 100) = true) := by
              by_cases h1 : k < ts.length
              · exact .inl ⟨h1, by omega, by omega, decide_eq_true (by omega), decide_eq_false (by omega)⟩
              · exact .inr ⟨h1, by omega, by omega, decide_eq_false (by omega), decide_eq_true (by omega)⟩
            have htl : (ts.take k).length = k := by rw [List.length_take]; omega
            have hfl : (flN (ts.take k)).length = k := by unfold flN; rw [List.length_map, htl]
            have hrd := nodes_read (c := c15) (by rw [hil]; exact M.out) (by omega) (fun q hq => by
              have h1 : nd q ∈ flN (ts.take k) := by rw [← HI.out]; exact List.mem_map_of_mem hq
              have h2 := fl_kids _ _ h1
              show (nd q).2.length ≤ _
              rw [h2]
              simp)
            rw [HI.out] at hrd
            have hFs : ((flN (ts.take k)).map (·.2.length)).sum ≤ 4194304 := by
              have := sum_kids (t := 0) (m := flN (ts.take k)) (fun x hx => by rw [fl_kids _ x hx]; simp)
              omega
            have hFb : ∀ x ∈ flN (ts.take k), x.1.size ≤ maxLen := fun x hx => by
              obtain ⟨s, hs, rfl⟩ := List.mem_map.1 hx
              exact HTs.out s (List.mem_of_mem_take hs)
            have hFv := fl_valid (ts.take k)
            have F1 := fun h => Aside0.mk (fl_size (ts := ts.take k) h)
            have F2 := fun h => Aside0.mk (fl_depth (ts := ts.take k) h)
            have F3 := fun h => Aside0.mk (fl_share (ts := ts.take k) h)
            clear M HI hgo
            have M := Aside0.mk hrd
            clear hrd
            rw [htl] at F1 F2 F3
            generalize flN (ts.take k) = fl at *
            rcases hex with ⟨b1, b2, b3, b4, b5⟩ | ⟨b1, b2, b3, b4, b5⟩
            all_goals (
              by_cases hk0 : k = 0
              · have e0 : ((k : Int) == 0) = true := by rw [hk0]; rfl
                have HB := Aside0.mk M.out.1
                clear hk0 hfl htl
                go_wp2_with fail
                go_ret
                exact ⟨rfl, HB.out⟩
              · have e0 : ((k : Int) == 0) = false := by rw [beq_eq_false_iff_ne]; omega
                have f1 := F1 (by omega)
                have f2 := F2 (by omega)
                have f3 := F3 (by omega)
                clear F1 F2 F3 htl
                go_wp2_with fail
                have hz := size_calls (c := c15) M.out (fun _ h => h) (by omega) (by omega) hFv hFs
                rw [hfl, f1.out] at hz
                refine hz.mono ?_
                clear hz
                rintro e w11 ⟨rfl, hm11⟩
                clear M
                have M := Aside0.mk hm11
                clear hm11
                unfold nat
                go_wp2_with fail
                have hz := depth_calls (c := c15) M.out (fun _ h => h) (by omega) (by omega) hFv hFs
                rw [hfl, f2.out] at hz
                refine hz.mono ?_
                clear hz
                rintro e w12 ⟨rfl, hm12⟩
                clear M
                have M := Aside0.mk hm12
                clear hm12
                unfold nat
                go_wp2_with fail
                have hq := share_calls (c := c15) M.out (fun _ h => h) (by omega) (by omega) hFv hFs hFb
                rw [hfl] at hq
                refine hq.mono ?_
                clear hq
                rintro e w13 ⟨A18, c18, fitems, rfl, hfI, _, hm13⟩
                have hfll : fitems.length = 1 := by rw [← f3.out, ← hfI, List.length_map]
                rw [hfll]
                have HB := Aside0.mk hm13.1
                clear M hfI hfll hm13
                go_wp2_with fail
                go_ret
                exact ⟨rfl, HB.out⟩))
end Go.Proofs.Ytkonloadedbpkaa.ChainW
