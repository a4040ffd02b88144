/- Literals of lists: lists of one's own. -/
import Derived.Test.YtkonloadedbpkaaNodeMem
namespace Go.Proofs.Ytkonloadedbpkaa.Lits
open Go.RowKit Go.Proofs.Ytkonloadedbpkaa.Sep Go.Proofs.Ytkonloadedbpkaa.FoldMem Go.Proofs.Ytkonloadedbpkaa.NodeMem
open Go.Proofs.YtkonloadedbpkaaW.PrintWords
open Go.Proofs.YtkonloadedbpkaaW.PrintLast
set_option linter.unusedVariables false
/-- A literal of n elements of so many cells each. -/
theorem row_lits {W w : World} {rs : List Res} (h : Sep W w rs) (e size n : Nat) (us : Array Value) (hn : us.size = n * size) (hs : n ≤ maxLen) : Sep W (w.alloc (.cells us e)) (rowR e size (.slice (some ⟨w.heap.size, 0, none⟩) n n) n us.toList :: rs) :=
  h.fresh (f := fun k => w.heap.size ≤ k) (Turns.alloc _ w _) ⟨⟨by rw [Array.length_toList]; exact hn, .inr ⟨w.heap.size, n, us, rfl, Nat.zero_le _, box_at (box_fresh h e us), Nat.le_refl _, hs, hn, by rw [List.take_of_length_le]; rw [Array.length_toList, hn]; exact Nat.le_refl _⟩⟩, fun k hk => by
    have : w.heap.size = k := by simpa [Value.ownBlock] using hk
    omega⟩ (fun _ hk => hk)
/-- A list of one's own, of elements of one cell, as what the printed contracts read. -/
theorem row_C1 {α : Type} {w : World} {K : Kd α} {e : TypeId} {n c : Nat} {A : Option Addr} {enc : α → Value} (hsz : K.sz = 1) (hK : ∀ x, K.K w x [enc x]) {xs : List α} (h : w.ownsRow 0 e 1 (.slice A n c) n (xs.map enc)) (hn : n ≤ 9223372036854775807) : n ≤ c ∧ Kd.C K w A n xs := by
  obtain ⟨A2, c2, e2, hc⟩ := row_slice h
  simp only [Value.slice.injEq, true_and] at e2
  obtain ⟨rfl, rfl⟩ := e2
  have hl := h.1
  simp only [List.length_map, Nat.mul_one] at hl
  refine ⟨hc, hl, hn, fun hp => ?_⟩
  obtain ⟨b, cap, e3, _, hcell, _⟩ := row_some h hp
  simp only [Value.slice.injEq, true_and] at e3
  refine ⟨⟨b, 0, none⟩, e3.1, fun j p hp => ⟨[enc p], by rw [hsz]; rfl, hK p, fun i u hu => ?_⟩⟩
  have hi : i = 0 := by
    have := (List.getElem?_eq_some_iff.1 hu).1
    simpa using this
  subst hi
  simp at hu
  subst hu
  have := hcell j (enc p) (by rw [List.getElem?_map, hp]; rfl)
  rw [hsz, Nat.mul_one, Nat.add_zero, add0]
  exact this
theorem row_Cs {w : World} {n c : Nat} {A : Option Addr} {xs : List ByteArray} (h : w.ownsRow 0 9 1 (.slice A n c) n (xs.map Value.string)) (hn : n ≤ 9223372036854775807) : n ≤ c ∧ Kd.C Kd.string w A n xs :=
  row_C1 rfl (fun _ => rfl) h hn
theorem row_Ci {w : World} {n c : Nat} {A : Option Addr} {xs : List Int} (h : w.ownsRow 0 3 1 (.slice A n c) n (xs.map num)) (hn : n ≤ 9223372036854775807) : n ≤ c ∧ Kd.C (Kd.int .i64) w A n xs :=
  row_C1 rfl (fun _ => rfl) h hn
/-- The same of a block that is known whole. -/
theorem lit_Cs {w : World} {b n : Nat} {us : Array Value} {xs : List ByteArray} (h : w.heap[b]? = some (.cells us 9 (0, 0))) (hu : us.toList = xs.map Value.string) (hn : xs.length = n) (hm : n ≤ 9223372036854775807) : Kd.C Kd.string w (some ⟨b, 0, none⟩) n xs := by
  have hs : us.size = xs.length := by have := congrArg List.length hu; simpa using this
  have ho : w.ownsRow 0 9 1 (.slice (some ⟨b, 0, none⟩) n n) n (xs.map Value.string) := ⟨by simp [hn], .inr ⟨b, n, us, rfl, Nat.zero_le _, h, Nat.le_refl _, by unfold maxLen; omega, by omega, by rw [List.take_of_length_le (by simp; omega), hu]⟩⟩
  exact (row_Cs ho hm).2
theorem lit_Ci {w : World} {b n : Nat} {us : Array Value} {xs : List Int} (h : w.heap[b]? = some (.cells us 3 (0, 0))) (hu : us.toList = xs.map num) (hn : xs.length = n) (hm : n ≤ 9223372036854775807) : Kd.C (Kd.int .i64) w (some ⟨b, 0, none⟩) n xs := by
  have hs : us.size = xs.length := by have := congrArg List.length hu; simpa using this
  have ho : w.ownsRow 0 3 1 (.slice (some ⟨b, 0, none⟩) n n) n (xs.map num) := ⟨by simp [hn], .inr ⟨b, n, us, rfl, Nat.zero_le _, h, Nat.le_refl _, by unfold maxLen; omega, by omega, by rw [List.take_of_length_le (by simp; omega), hu]⟩⟩
  exact (row_Ci ho hm).2
end Go.Proofs.Ytkonloadedbpkaa.Lits
