/- Nodes called with the chain of doubles. -/
import Derived.Test.YtkonloadedbpkaaNodeMem
import Derived.Test.YtkonloadedbpkaaFoldChain
namespace Go.Proofs.Ytkonloadedbpkaa.DoublesN
open Go.RowKit Go.Maps Go.Proofs.Ytkonloadedbpkaa.Sep Go.Proofs.Ytkonloadedbpkaa.FMaps Go.Proofs.Ytkonloadedbpkaa.FoldPure Go.Proofs.Ytkonloadedbpkaa.FoldMem Go.Proofs.Ytkonloadedbpkaa.FoldRun Go.Proofs.Ytkonloadedbpkaa.NodesPure Go.Proofs.Ytkonloadedbpkaa.NodesMem Go.Proofs.Ytkonloadedbpkaa.NodesW Go.Proofs.Ytkonloadedbpkaa.NodeMem Go.Proofs.Ytkonloadedbpkaa.FoldCount Go.Proofs.Ytkonloadedbpkaa.FoldChain
open Go.Proofs.YtkonloadedbpkaaW.PrintWords
set_option linter.unusedVariables false
set_option linter.unusedSimpArgs false

theorem dbl_lab {D K : Nat} {ts : List ByteArray} (hts : ∀ s ∈ ts, s.size ≤ 1048576) (n : Nat) : ∀ x ∈ dbl D K (ts.take 50) n, x.1.size ≤ maxLen := by
  intro x hx
  obtain ⟨j, _, rfl⟩ := List.mem_map.1 hx
  show (labAt D (ts.take 50) j).size ≤ maxLen
  unfold labAt
  split
  · show leafS.size ≤ maxLen
    decide
  · split
    · show manyS.size ≤ maxLen
      decide
    · have h1 : ((ts.take 50).getD (j - D - 1) ByteArray.empty).size ≤ 1048576 := by
        rw [List.getD_eq_getElem?_getD]
        cases h : (ts.take 50)[j - D - 1]? with
        | none => decide
        | some s => exact hts s (List.mem_of_mem_take (List.mem_of_getElem? h))
      rw [ByteArray.size_append]
      have h2 : oneS.size = 3 := rfl
      unfold maxLen
      omega
theorem chain_nodes {W w : World} {rs : List Res} {A : Option Addr} {N c D K k : Nat} {items : List PartM} {ts : List ByteArray}
    (M : Sep W w (rowR 27 2 (.slice A N c) N (nodeCells items) :: kidsR items :: rs)) (hil : items.length = N) (HI : items.map nd = dbl D K (ts.take 50) N) (hN : N = 1 + D + k) (hc : N ≤ c)
    (hD : 1 ≤ D ∧ D ≤ 600) (hK : 2 ≤ K ∧ K ≤ 4) (hk : k ≤ 50) (hts : ∀ s ∈ ts, s.size ≤ 1048576) :
    Calls Try.prog 11 #[.agg #[.slice none 0 0, .slice none 0 0, .slice none 0 0, .int .i64 0, .slice none 0 0], .slice A N c] w fun e w' => ∃ (b L c1 C c2 : Nat) (A2 : Option Addr) (cs : List Int), e = .returned (.tuple #[.slice (some ⟨b, 0, none⟩) L c1, .slice A2 C c2, .int .i64 0]) ∧ 2 ≤ L ∧
      cs.length = C ∧ C = K * D + k + D ∧ cs.count (-1) = D - 1 ∧ w'.cell? ⟨b, 0, none⟩ = some (.string leafS) ∧ w'.cell? ⟨b, 1, none⟩ = some (.string manyS) ∧ Sep W w' (rowR 3 1 (.slice A2 C c2) C (cs.map num) :: rs) := by
  have hKD : K * D ≤ 4 * 600 := Nat.mul_le_mul hK.2 hD.2
  have hsum := dbl_edges (depth := D) (many := K) (ts := ts.take 50) k
  rw [← hN] at hsum
  have hlen := dbl_len (depth := D) (many := K) (ts := ts.take 50) N
  have hkids : ∀ q ∈ items, q.part.kids.length ≤ 4194304 := fun q hq => by
    have h1 : nd q ∈ dbl D K (ts.take 50) N := by rw [← HI]; exact List.mem_map_of_mem hq
    obtain ⟨j, hj, he⟩ := List.mem_iff_getElem.1 h1
    have h2 := Gather.kids_le (l := dbl D K (ts.take 50) N) (B := 4194304) (by rw [hsum]; omega) hj
    rw [he] at h2
    exact h2
  have M1 : Sep W w (readR W (NodesC A (items.map nd)) :: rs) := nodes_read (c := c) (by rw [hil]; exact M) (by omega) hkids
  rw [HI] at M1
  have M2 := (read_old (C := MandC none []) M1 (fun w' _ => mand_nil none w')).swap
  have hv := dbl_valid (depth := D) (many := K) (ts := ts.take 50) N
  have hF : Fine [] (dbl D K (ts.take 50) N) := fine_of (by omega) (by omega) hv (by rw [hsum]; omega) (dbl_lab hts N)
  have h := nodes_calls (mc := 0) (c := c) (v0 := .slice none 0 0) (v1 := .slice none 0 0) (v3 := .int .i64 0) (v4 := .slice none 0 0) M2 (by omega) (by omega) hv (by rw [hsum]; omega) (dbl_lab hts N) (by omega) (by simp) (by simp) hF
  rw [hlen] at h
  refine h.mono ?_
  clear h
  intro e w' hout
  unfold NodesOut at hout
  have hcodes := dbl_codes (depth := D) (many := K) (ts := ts.take 50) hK.1 hD.1 k []
  rw [← hN] at hcodes
  rw [if_neg (by rw [hcodes.1]; omega)] at hout
  obtain ⟨lv, cv, rfl, hm⟩ := hout
  obtain ⟨t, ht⟩ := dbl_names (depth := D) (many := K) (ts := ts.take 50) (by omega) hD.1 k
  rw [← hN] at ht
  have hL : (namesL [] (dbl D K (ts.take 50) N)).labels.length = 2 + t.length := by rw [ht]; simp; omega
  obtain ⟨b, c1, rfl, _, hcell, _⟩ := row_some hm.row (by omega)
  obtain ⟨A2, c2, rfl, _⟩ := row_slice hm.tail.row
  refine ⟨b, _, c1, _, c2, A2, (codesL [] (dbl D K (ts.take 50) N)).codes, rfl, by omega, rfl, hcodes.1, hcodes.2, hcell 0 _ (by rw [ht]; rfl), hcell 1 _ (by rw [ht]; rfl), ?_⟩
  exact (hm.tail.swap.tail.swap.tail)
end Go.Proofs.Ytkonloadedbpkaa.DoublesN
