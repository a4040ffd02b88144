/- Labels walked: slices.Collect over the unfolded labels (turned from the kit's worked text on slices.Collect). -/
import Derived.Test.YtkonloadedbpkaaLabW
namespace Go.Proofs.Ytkonloadedbpkaa.LabX
open Go.RowKit Go.Maps Go.Sort Go.Shelf Go.Proofs.Ytkonloadedbpkaa.Sep Go.Proofs.Ytkonloadedbpkaa.FMaps Go.Proofs.Ytkonloadedbpkaa.FoldPure Go.Proofs.Ytkonloadedbpkaa.FoldMem Go.Proofs.Ytkonloadedbpkaa.Gather Go.Proofs.Ytkonloadedbpkaa.NodeMem Go.Proofs.Ytkonloadedbpkaa.TreeW Go.Proofs.Ytkonloadedbpkaa.TreeP Go.Proofs.Ytkonloadedbpkaa.LabY Go.Proofs.Ytkonloadedbpkaa.LabW
open Go.Proofs.YtkonloadedbpkaaW.PrintWords
set_option linter.unusedVariables false
set_option linter.unusedSimpArgs false
attribute [local go_sem] Oper.semAt_some
set_option maxRecDepth 100000

/-- Between two rounds, the closures not yet made. -/
structure BAt (w0 : World) (fn : FuncId) (sv : Value) (Bs l D : Nat) (ss : List ByteArray) (W : World) : Prop where
  box : ∃ v, W.heap[Bs]? = some (.cells #[v] 22 (0, 0)) ∧ W.ownsRow w0.heap.size 9 1 v ss.length (ss.map Value.string)
  L : W.heap[l]? = some (.loop (apRec fn sv Bs D .ready none))
  K : W.heap[D]? = some (.deferred (some []))
  below : Below w0.heap.size w0 W
theorem heap_more {W : World} {o x : Obj} {k : Nat} (h : W.heap[k]? = some x) : (W.alloc o).heap[k]? = some x :=
  (Below.heap_alloc _ _ k (Array.getElem?_eq_some_iff.1 h).1).trans h
theorem BAt.alloc {w0 : World} {fn : FuncId} {sv : Value} {Bs l D : Nat} {ss : List ByteArray} {W : World} (h : BAt w0 fn sv Bs l D ss W) (o : Obj) : BAt w0 fn sv Bs l D ss (W.alloc o) := by
  obtain ⟨v, hv, hr⟩ := h.box
  exact ⟨⟨v, heap_more hv, hr.alloc _⟩, heap_more h.L, heap_more h.K, h.below.alloc h.below.size _⟩
theorem lat_base {w0 : World} {fn : FuncId} {sv : Value} {Bs l D lb vb yb : Nat} {ss : List ByteArray} {W : World} (h : LAt w0 fn sv Bs l D lb vb yb ss W) : BAt w0 fn sv Bs l D ss W := ⟨h.box, h.L, h.K, h.below⟩
set_option maxHeartbeats 4000000 in
theorem unf_in (F : Fence) (hd : F.depth = none) (hro : F.round = none) (h54 : F.fn 54) (h55 : F.fn 55) (n : Nat) (w0 : World) (fn : FuncId) (hfn : F.fn fn) (sv : Value) (Bs L D lb c : Nat) (hBl : Bs ≠ L) (hDl : D ≠ L) (hDB : D ≠ Bs) (h0B : w0.heap.size ≤ Bs) (h0l : w0.heap.size ≤ L)
    {A : Option Addr} {l : List Nd} (hO : Old w0 A l lb c) (h0 : 0 < l.length) (hl : l.length ≤ 4194304) (hv : Valid l) (he : (l.map (·.2.length)).sum ≤ 4194304) (hN : (labN l).length ≤ 4194304) (W : World) (hJ : BAt w0 fn sv Bs L D [] W) :
    CallsIn F n Try.prog 54 #[.func (.yield L) #[] #[], .pointer (some ⟨lb, 0, none⟩)] W fun e W' => (∃ v, e = .returned v) ∧ BAt w0 fn sv Bs L D (labN l) W' := by
  have hdd : ∀ k : Nat, (F.depth.isSome = true → 1 ≤ k) := fun k h => by rw [hd] at h; cases h
  have hJ1 := (hJ.alloc (.cells #[.func (.yield L) #[] #[]] 95)).alloc (.cells #[visV lb (W.heap.size + 1) W.heap.size] 96)
  have hJ2 : LAt w0 fn sv Bs L D lb (W.heap.size + 1) W.heap.size [] ((W.alloc (.cells #[.func (.yield L) #[] #[]] 95)).alloc (.cells #[visV lb (W.heap.size + 1) W.heap.size] 96)) :=
    ⟨hJ1.box, hJ1.L, hJ1.K, hJ1.below, heap_more (heap_alloc_new _ _), by
      have := heap_alloc_new (W.alloc (.cells #[.func (.yield L) #[] #[]] 95)) (.cells #[visV lb (W.heap.size + 1) W.heap.size] 96)
      rwa [World.size_alloc] at this⟩
  have lb0 := (hO _ hJ2.below).2
  have hlb : lb < w0.heap.size := World.block_lt_of_cell? _ _ (hO w0 (Below.refl _ _)).2
  have hlw := hJ.below.size
  have hlbW : lb < W.heap.size := by omega
  have lb00 := (hO _ hJ.below).2
  have hvis := fun n => visit_in F hd hro h55 w0 fn hfn sv Bs L D lb (W.heap.size + 1) W.heap.size c hBl hDl hDB h0B h0l hO hl hv he l.length n (l.length - 1) [] _ (by omega) (by omega) (by simpa [labN] using hN) hJ2
  unfold visV at hvis
  clear hJ1 hJ2 hJ hO hv he lb0
  have i0 : ((l.length : Int) - 1) = ((l.length - 1 : Nat) : Int) := by omega
  refine callsIn_of_wp Try.func54 rfl h54 ?_ hro
  simp only [Try.ntmps54, List.size_toArray, List.length_cons, List.length_nil, Nat.reduceAdd, Nat.reduceSub, Array.replicate_succ, Array.replicate_zero, List.push_toArray, List.append_toArray, List.nil_append, List.cons_append]
  gi_wp2_with ((try refine ⟨hdd _, ?_⟩); gi_at_call 55; refine (hvis _).mono ?_; rintro e w5 ⟨rfl, hJ5⟩)
  go_end0
  exact ⟨⟨_, rfl⟩, by have h := lat_base hJ5; rw [List.nil_append] at h; exact h⟩
set_option maxHeartbeats 4000000 in
theorem seq_in (F : Fence) (hd : F.depth = none) (hro : F.round = none) (h53 : F.fn 53) (h54 : F.fn 54) (h55 : F.fn 55) (n : Nat) (w : World) (lb c : Nat)
    {A : Option Addr} {l : List Nd} (hO : Old w A l lb c) (h0 : 0 < l.length) (hl : l.length ≤ 4194304) (hv : Valid l) (he : (l.map (·.2.length)).sum ≤ 4194304) (hN : (labN l).length ≤ 4194304) :
    CallsIn F n Try.prog 53 #[.slice none 0 0, .func (.func 54) #[] #[.pointer (some ⟨lb, 0, none⟩)]] w fun e w' => ∃ v, e = .returned v ∧ w'.ownsRow w.heap.size 9 1 v (labN l).length ((labN l).map Value.string) ∧ Below w.heap.size w w' := by
  have hdd : ∀ k : Nat, (F.depth.isSome = true → 1 ≤ k) := fun k h => by rw [hd] at h; cases h
  refine callsIn_of_wp_marks Try.func53 rfl h53 ?_ hro
  simp only [Try.ntmps53, List.size_toArray, List.length_cons, List.length_nil, Nat.reduceAdd, Nat.reduceSub, Array.replicate_succ, Array.replicate_zero, List.push_toArray, List.append_toArray, List.nil_append, List.cons_append]
  gi_wp2
  refine wpIn_rangeFunc ?_
  intro fn hfn
  rw [hro]
  obtain ⟨W0, hW0⟩ : ∃ W0, w.alloc (.cells #[.slice none 0 0] 22) = W0 := ⟨_, rfl⟩
  have hs0 : W0.heap.size = w.heap.size + 1 := by rw [← hW0]; simp
  have hv0 : W0.heap[w.heap.size]? = some (.cells #[.slice none 0 0] 22 (0, 0)) := by rw [← hW0]; exact World.alloc_heap_new w _
  have hb0 : Below w.heap.size w W0 := by rw [← hW0]; exact (Below.refl _ w).alloc (Nat.le_refl _) _
  rw [hW0]
  obtain ⟨W1, hW1⟩ : ∃ W1, (W0.alloc (.deferred (some []))).alloc (.loop (apRec fn (.func (.func 54) #[] #[.pointer (some ⟨lb, 0, none⟩)]) w.heap.size W0.heap.size .ready none)) = W1 := ⟨_, rfl⟩
  have hold : ∀ k, k < W0.heap.size → W1.heap[k]? = W0.heap[k]? := fun k hk => by
    rw [← hW1]; exact (Below.heap_alloc _ _ k (by simp; omega)).trans (Below.heap_alloc _ _ k hk)
  have hb1 : Below w.heap.size w W1 := by rw [← hW1]; exact (hb0.alloc hb0.size _).alloc (by have := hb0.size; simp; omega) _
  have hs1 : W1.heap.size = W0.heap.size + 2 := by rw [← hW1]; simp
  have hM : BAt w fn (.func (.func 54) #[] #[.pointer (some ⟨lb, 0, none⟩)]) w.heap.size (W0.heap.size + 1) W0.heap.size [] W1 :=
    ⟨⟨_, (hold w.heap.size (by omega)).trans hv0, ⟨rfl, .inl ⟨rfl, rfl⟩⟩⟩,
     by rw [← hW1]; have := World.alloc_heap_new (W0.alloc (.deferred (some []))) (.loop (apRec fn (.func (.func 54) #[] #[.pointer (some ⟨lb, 0, none⟩)]) w.heap.size W0.heap.size .ready none)); rwa [World.size_alloc] at this,
     by rw [← hW1]; exact (Below.heap_alloc _ _ _ (by simp)).trans (World.alloc_heap_new W0 _), hb1⟩
  refine ⟨W0.heap.size + 1, [{ target := .collected W0.heap.size, args := #[] }], W1, { target := .fn (.func 54) #[.pointer (some ⟨lb, 0, none⟩)], args := #[.func (.yield (W0.heap.size + 1)) #[] #[]] }, W1, 54,
    #[.func (.yield (W0.heap.size + 1)) #[] #[]] ++ #[.pointer (some ⟨lb, 0, none⟩)], W1, ?_, ?_, ?_, ?_, fun h => hdd _ h, ?_⟩
  · rw [← hW1]; exact run_enterLoop_outer _ _ _ _ _
  · simp [resolve, go_sem]
  · intro f' hf'; simp [Target.leads] at hf'; subst hf'; exact h54
  · have eg := enters_of Try.func54 (by kernel_rfl) rfl
    simp [invoke, go_sem, eg]
  · refine (unf_in F hd hro h54 h55 (n - 1) w fn hfn _ w.heap.size (W0.heap.size + 1) W0.heap.size lb c (by omega) (by omega) (by omega) (Nat.le_refl _) (by omega) hO h0 hl hv he hN W1 hM).mono ?_
    rintro e W2 ⟨⟨v0, rfl⟩, h2⟩
    obtain ⟨v, hv, hrow⟩ := h2.box
    have hend := run_endLoop (P := Try.prog) h2.L (by simp [apRec])
    obtain ⟨W3, hW3⟩ : ∃ W3, W2.putObj (W0.heap.size + 1) (.loop { apRec fn (.func (.func 54) #[] #[.pointer (some ⟨lb, 0, none⟩)]) w.heap.size W0.heap.size .ready none with state := .exhausted }) = W3 := ⟨_, rfl⟩
    rw [hW3] at hend
    have hg3 : W2.grownBy W3 (some (W0.heap.size + 1)) := by rw [← hW3]; exact grownBy_putObj _ _ _
    have hv3 : W3.heap[w.heap.size]? = some (.cells #[v] 22 (0, 0)) := by rw [← hW3]; exact (World.putObj_heap_other (by omega)).trans hv
    have hK3 : W3.heap[W0.heap.size]? = some (.deferred (some [])) := by rw [← hW3]; exact (World.putObj_heap_other (by omega)).trans h2.K
    have hrow3 := hrow.kept hg3 (ownsRow_ne hrow h2.L (fun cur e => by cases e))
    have hb3 : Below w.heap.size w W3 := h2.below.grown hg3 h2.below.size (fun k e => by cases e; omega)
    obtain ⟨hc3, hf3⟩ := cell_of_box hv3
    clear hW3
    refine ⟨none, W3, hend, ?_⟩
    gi_wp2
    rw [← hs0]
    refine ⟨by simp, .inl ⟨_, _, rfl, run_takeDeferred hK3, ?_⟩⟩
    exact ⟨_, results_tmp rfl _ _ _, v, rfl, hrow3.kept (grownBy_putObj _ _ _) (ownsRow_ne hrow3 hK3 (fun cur e => by cases e)), hb3.grown (grownBy_putObj _ _ _) hb3.size (fun k e => by cases e; omega)⟩
set_option maxHeartbeats 4000000 in
theorem collect_calls (w : World) (lb c : Nat) {A : Option Addr} {l : List Nd} (hO : Old w A l lb c) (h0 : 0 < l.length) (hl : l.length ≤ 4194304) (hv : Valid l) (he : (l.map (·.2.length)).sum ≤ 4194304) (hN : (labN l).length ≤ 4194304) :
    Calls Try.prog 44 #[.func (.func 54) #[] #[.pointer (some ⟨lb, 0, none⟩)]] w fun e w' => ∃ v, e = .returned v ∧ w'.ownsRow w.heap.size 9 1 v (labN l).length ((labN l).map Value.string) ∧ Below w.heap.size w w' := by
  have h := callsIn_wide.1 (seq_in Fence.wide rfl rfl trivial trivial trivial 5 w lb c hO h0 hl hv he hN)
  clear hO hv he
  go_enter Try.func44, Try.ntmps44
  go_wp2_with fail
  refine h.mono ?_
  clear h
  rintro e w' ⟨v, rfl, hr, hb⟩
  have HR := Aside0.mk hr
  have HB := Aside0.mk hb
  clear hr hb
  go_wp2_with fail
  go_ret
  exact ⟨v, rfl, HR.out, HB.out⟩
set_option maxHeartbeats 4000000 in
theorem unfolded_calls (A : Option Addr) (n c : Nat) (w : World) : Calls Try.prog 45 #[.slice A n c] w fun e w' => e = .returned (.func (.func 54) #[] #[.pointer (some ⟨w.heap.size, 0, none⟩)]) ∧ w' = w.alloc (.cells #[.slice A n c] 24) := by
  go_enter Try.func45, Try.ntmps45
  go_wp2_with fail
  go_ret
  exact ⟨rfl, rfl⟩
/-- What Labels tells. -/
def LabOut (W : World) (l : List Nd) (C : World → Prop) (rs : List Res) (e : Ending) (w' : World) : Prop :=
  if (labN l).length ≤ 2000 then ∃ v, e = .returned (.tuple #[v, .bool true]) ∧ Sep W w' (rowR 9 1 v (labN l).length ((labN l).map Value.string) :: readR W C :: rs)
  else e = .returned (.tuple #[.slice none 0 0, .bool false]) ∧ Sep W w' (readR W C :: rs)
theorem labN_pos {l : List Nd} (hv : Valid l) (h0 : 0 < l.length) : 0 < (labN l).length := by
  unfold labN
  rw [labF_at hv (by omega), List.length_append]
  simp
set_option maxHeartbeats 8000000 in
theorem labels_calls {W w : World} {rs : List Res} {A : Option Addr} {c : Nat} {l : List Nd} {C : World → Prop} (hM : Sep W w (readR W C :: rs)) (hCC : ∀ w', C w' → NodesC A l w') (h0 : 0 < l.length) (hl : l.length ≤ 4194304) (hv : Valid l) (he : (l.map (·.2.length)).sum ≤ 4194304) :
    Calls Try.prog 22 #[.slice A l.length c] w (LabOut W l C rs) := by
  have M := Aside0.mk hM
  have HV := Aside0.mk hv
  have HE := Aside0.mk he
  have HCC := Aside0.mk hCC
  have hsz := sizeN_len hv h0
  have hpos := labN_pos hv h0
  clear hM hv he hCC
  go_enter Try.func22, Try.ntmps22
  go_wp2_with fail
  refine (size_calls M.out HCC.out h0 hl HV.out HE.out).mono ?_
  rintro e w1 ⟨rfl, hm1⟩
  clear M
  have M := Aside0.mk hm1
  clear hm1
  have HSZ := Aside0.mk hsz
  by_cases hle : (labN l).length ≤ 2000
  · have hs1 : 0 < sizeN l := by omega
    have hs2 : sizeN l ≤ 2000 := by omega
    clear hsz
    generalize sizeN l = n at hs1 hs2
    have b1 : ((n : Int) == 0) = false := by rw [beq_eq_false_iff_ne]; omega
    have b2 : decide ((2000 : Int) < (n : Int)) = false := decide_eq_false (by omega)
    have b3 : ¬ (2000 : Int) < (n : Int) := by omega
    unfold nat
    go_wp2_with fail
    refine (unfolded_calls _ _ _ _).mono ?_
    rintro e w2 ⟨rfl, hw2⟩
    have M2 := box_fresh M.out 24 #[.slice A l.length c]
    rw [← hw2] at M2
    have hO : Old w2 A l w1.heap.size c := fun W2 hb => by
      have M3 := M2.below hb
      exact ⟨HCC.out _ (read_at (M3.pull 1 (by simp))), (box_cell M3 (j := 0) rfl).1⟩
    have hcl := collect_calls w2 w1.heap.size c hO h0 hl HV.out HE.out (by omega)
    clear M hw2 hO
    have M := Aside0.mk M2
    clear M2
    go_wp2_with fail
    refine hcl.mono ?_
    clear hcl
    rintro e w3 ⟨v, rfl, hr, hb⟩
    have hm := M.out.fresh (f := fun k => w2.heap.size ≤ k) (r := rowR 9 1 v (labN l).length ((labN l).map Value.string)) ⟨hb.os, hb.tape, hb.output, hb.size, fun k hk _ => hb.block k hk⟩ ⟨owns_zero hr, fun k hk => own_base hr k hk⟩ (fun _ hk => hk)
    clear M hr hb
    have M := Aside0.mk (hm.swap.tail)
    clear hm
    go_wp2_with fail
    go_ret2
    unfold LabOut
    rw [if_pos hle]
    exact ⟨v, rfl, M.out⟩
  · have hs1 : sizeN l = 2001 := by omega
    rw [hs1]
    clear hsz
    unfold nat
    go_wp2_with fail
    go_ret2
    unfold LabOut
    rw [if_neg hle]
    exact ⟨rfl, M.out⟩
end Go.Proofs.Ytkonloadedbpkaa.LabX
