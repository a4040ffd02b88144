/- Kept. -/
import Derived.Test.YtkonloadedbpkaaY3
import Derived.Test.YtkonloadedbpkaaY5
import Derived.OwnWalk
namespace Go.Proofs.Ytkonloadedbpkaa.Kept
open Go.RowKit Go.Maps Go.Proofs.Ytkonloadedbpkaa.Sep Go.Proofs.Ytkonloadedbpkaa.FMaps Go.Proofs.Ytkonloadedbpkaa.FoldPure Go.Proofs.Ytkonloadedbpkaa.FoldMem Go.Proofs.Ytkonloadedbpkaa.FoldRun Go.Proofs.Ytkonloadedbpkaa.NodesPure Go.Proofs.Ytkonloadedbpkaa.NodesMem Go.Proofs.Ytkonloadedbpkaa.NodesW Go.Proofs.Ytkonloadedbpkaa.FoldCount
open Go.Proofs.YtkonloadedbpkaaW.PrintWords
set_option linter.unusedVariables false

theorem sepF_append {N N2 M : Nat} {w : World} {rs : List Res} {fp : Nat → Prop} (h1 : SepF N w rs fp) (hf1 : ∀ k, fp k → k < M) (hN : N ≤ M) : ∀ (rs2 : List Res) (fp2 : Nat → Prop), SepF N2 w rs2 fp2 → (∀ k, fp2 k → M ≤ k) → SepF N w (rs2 ++ rs) (fun k => fp2 k ∨ fp k)
  | [], fp2, _, _ => SepF.mono h1 fun k hk => .inr hk
  | r :: rs2, fp2, h, hf => by
    obtain ⟨f, g, a1, a2, a3, a4, a5⟩ := h
    refine ⟨f, fun k => g k ∨ fp k, a1, sepF_append h1 hf1 hN rs2 g a2 (fun k hk => hf k (a5 k hk)), fun k hk hk2 => ?_, fun k hk => ⟨.inl (a4 k hk).1, ?_, (a4 k hk).2.2⟩, fun k hk => ?_⟩
    · rcases hk2 with hk2 | hk2
      · exact a3 k hk hk2
      · have := hf k (a4 k hk).1
        have := hf1 k hk2
        omega
    · have := hf k (a4 k hk).1
      omega
    · rcases hk with hk | hk
      · exact .inl (a5 k hk)
      · exact .inr hk
/-- What is made behind a world, beside what was there. -/
theorem sep_over {W w w' : World} {rs rs2 : List Res} (h1 : Sep W w rs) (h2 : Sep w w' rs2) : Sep W w' (rs2 ++ rs) := by
  obtain ⟨b1, fp, s1, f1⟩ := h1
  obtain ⟨b2, fp2, s2, f2⟩ := h2
  have hs := b1.size
  have hs2 := b2.size
  refine ⟨b1.trans (b2.mono hs), fun k => fp2 k ∨ fp k, sepF_append (M := w.heap.size) (s1.move (fun k hk => b2.block k (f1 k hk).2) hs2) (fun k hk => (f1 k hk).2) hs rs2 fp2 s2 (fun k hk => (f2 k hk).1), fun k hk => ?_⟩
  rcases hk with hk | hk
  · have := f2 k hk
    omega
  · have := f1 k hk
    omega
theorem read_hold {W w : World} {C : World → Prop} {rs : List Res} (h : Sep W w (readR W C :: rs)) : ∀ w', (∀ k, k < w.heap.size → w'.heap[k]? = w.heap[k]?) → C w' := by
  obtain ⟨f, hf, hb⟩ := h.head
  intro w' hw
  exact hf w' (fun k hk => (hw k (Nat.lt_of_lt_of_le hk h.1.size)).trans (h.1.block k hk)) (fun k hk hl => hw k hl)
def KeptOut (W : World) (l : List Nd) (ms : List ByteArray) (rs : List Res) (e : Ending) (w' : World) : Prop :=
  if 4000 < (codesL ms l).codes.length then e = .returned (.tuple #[.slice none 0 0, .slice none 0 0, .int .i64 104]) ∧ Sep W w' rs
  else ∃ lv cv, e = .returned (.tuple #[lv, cv, .int .i64 0]) ∧ Sep W w' (rowR 9 1 lv (namesL ms l).labels.length ((namesL ms l).labels.map Value.string) :: rowR 3 1 cv (codesL ms l).codes.length ((codesL ms l).codes.map num) :: rs)
theorem nodes_kept {W w : World} {rs : List Res} {A mA : Option Addr} {c mc : Nat} {l : List Nd} {ms : List ByteArray} {v0 v1 v3 v4 : Value} (M : Sep W w rs)
    (hN : ∀ w', (∀ k, k < w.heap.size → w'.heap[k]? = w.heap[k]?) → NodesC A l w') (hD : ∀ w', (∀ k, k < w.heap.size → w'.heap[k]? = w.heap[k]?) → MandC mA ms w')
    (h0 : 0 < l.length) (hl : l.length ≤ 4194304) (hv : Valid l) (he : (l.map (·.2.length)).sum ≤ 4194304) (hlab : ∀ x ∈ l, x.1.size ≤ maxLen) (hc : l.length ≤ c) (hms : ms.length ≤ 4194304) (hml : ∀ s ∈ ms, s.size ≤ maxLen) :
    Calls Try.prog 11 #[.agg #[v0, v1, .slice mA ms.length mc, v3, v4], .slice A l.length c] w (KeptOut W l ms rs) := by
  have hs := read_old (C := NodesC A l) (read_old (C := MandC mA ms) (Sep.start w) hD) hN
  refine (nodes_calls (c := c) (mc := mc) (v0 := v0) (v1 := v1) (v3 := v3) (v4 := v4) hs h0 hl hv he hlab hc hms hml (fine_of h0 hl hv he hlab)).mono ?_
  intro e w' h
  unfold NodesOut at h
  unfold KeptOut
  split
  · rename_i h4
    rw [if_pos h4] at h
    exact ⟨h.1, M.below h.2.1⟩
  · rename_i h4
    rw [if_neg h4] at h
    obtain ⟨lv, cv, e1, hm⟩ := h
    exact ⟨lv, cv, e1, sep_over M (((hm.pull 2 (by simp)).tail.pull 2 (by simp)).tail)⟩

set_option maxRecDepth 100000 in
set_option maxHeartbeats 4000000 in
theorem reached_empty (A : Option Addr) (c : Nat) (w : World) : Calls Try.prog 35 #[.slice A 0 c] w fun e w' => (∃ ov, e = .returned (.tuple #[ov, .bool false])) ∧ Below w.heap.size w w' := by
  go_enter Try.func35, Try.ntmps35
  go_wp2_with fail
  go_ret2
  exact ⟨⟨_, rfl⟩, Below.refl _ _⟩
set_option maxRecDepth 100000 in
set_option maxHeartbeats 4000000 in
theorem nodes_empty {W w : World} {rs : List Res} (hM : Sep W w rs) (mA A : Option Addr) (mn mc c : Nat) (v0 v1 v3 v4 : Value) : Calls Try.prog 11 #[.agg #[v0, v1, .slice mA mn mc, v3, v4], .slice A 0 c] w fun e w' => e = .returned (.tuple #[.slice none 0 0, .slice none 0 0, .int .i64 130]) ∧ Sep W w' rs := by
  have M := Aside0.mk (hM.alloc (.cells #[v0, v1, .slice mA mn mc, v3, v4] 35))
  clear hM
  go_enter Try.func11, Try.ntmps11
  go_wp2_with fail
  refine (reached_empty _ _ _).mono ?_
  rintro e w1 ⟨⟨ov, rfl⟩, hb⟩
  have M2 := Aside0.mk (M.out.below hb)
  clear hb M
  go_wp2_with fail
  go_ret3
  exact ⟨rfl, M2.out⟩
/-- What Nodes answers. -/
def ansN (ms : List ByteArray) (l : List Nd) : List ByteArray × List Int × Int :=
  if l.length = 0 then ([], [], 130) else if 4000 < (codesL ms l).codes.length then ([], [], 104) else ((namesL ms l).labels, (codesL ms l).codes, 0)
def AnsOut (W : World) (l : List Nd) (ms : List ByteArray) (rs : List Res) (e : Ending) (w' : World) : Prop :=
  ∃ lv cv, e = .returned (.tuple #[lv, cv, .int .i64 (ansN ms l).2.2]) ∧ Sep W w' (rowR 9 1 lv (ansN ms l).1.length ((ansN ms l).1.map Value.string) :: rowR 3 1 cv (ansN ms l).2.1.length ((ansN ms l).2.1.map num) :: rs)
theorem nodes_any {W w : World} {rs : List Res} {A mA : Option Addr} {c mc : Nat} {l : List Nd} {ms : List ByteArray} {v0 v1 v3 v4 : Value} (M : Sep W w rs)
    (hN : ∀ w', (∀ k, k < w.heap.size → w'.heap[k]? = w.heap[k]?) → NodesC A l w') (hD : ∀ w', (∀ k, k < w.heap.size → w'.heap[k]? = w.heap[k]?) → MandC mA ms w')
    (hl : l.length ≤ 4194304) (hv : Valid l) (he : (l.map (·.2.length)).sum ≤ 4194304) (hlab : ∀ x ∈ l, x.1.size ≤ maxLen) (hc : l.length ≤ c) (hms : ms.length ≤ 4194304) (hml : ∀ s ∈ ms, s.size ≤ maxLen) :
    Calls Try.prog 11 #[.agg #[v0, v1, .slice mA ms.length mc, v3, v4], .slice A l.length c] w (AnsOut W l ms rs) := by
  by_cases h0 : l.length = 0
  · rw [h0]
    refine (nodes_empty M mA A ms.length mc c v0 v1 v3 v4).mono ?_
    rintro e w' ⟨rfl, hm⟩
    unfold AnsOut ansN
    rw [if_pos h0]
    exact ⟨_, _, rfl, row_nil (row_nil hm 3 1) 9 1⟩
  · refine (nodes_kept (c := c) (mc := mc) (v0 := v0) (v1 := v1) (v3 := v3) (v4 := v4) M hN hD (by omega) hl hv he hlab hc hms hml).mono ?_
    intro e w' h
    unfold KeptOut at h
    unfold AnsOut ansN
    rw [if_neg h0]
    by_cases h4 : 4000 < (codesL ms l).codes.length
    · rw [if_pos h4] at h
      rw [if_pos h4]
      obtain ⟨rfl, hm⟩ := h
      exact ⟨_, _, rfl, row_nil (row_nil hm 3 1) 9 1⟩
    · rw [if_neg h4] at h
      rw [if_neg h4]
      exact h
theorem ans_small {l : List Nd} {ms : List ByteArray} (hl : l.length ≤ 4194304) (hv : Valid l) (he : (l.map (·.2.length)).sum ≤ 4194304) (hlab : ∀ x ∈ l, x.1.size ≤ maxLen) : (ansN ms l).1.length ≤ 4194304 ∧ (ansN ms l).2.1.length ≤ 4000 := by
  unfold ansN
  split
  · simp
  · rename_i h0
    split
    · simp
    · rename_i h4
      have h := fine_of (ms := ms) (by omega) hl hv he hlab
      exact ⟨h.names, Nat.le_of_not_lt h4⟩
end Go.Proofs.Ytkonloadedbpkaa.Kept
