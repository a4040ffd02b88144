/- How many codes there are, exactly: one, one for each edge, one for each part that is saved. -/
import Derived.Test.YtkonloadedbpkaaFoldCount
namespace Go.Proofs.Ytkonloadedbpkaa.FoldExact
open Go.RowKit Go.Proofs.Ytkonloadedbpkaa.FoldPure Go.Proofs.Ytkonloadedbpkaa.FoldRun Go.Proofs.Ytkonloadedbpkaa.Gather Go.Proofs.Ytkonloadedbpkaa.Reached Go.Proofs.Ytkonloadedbpkaa.NodesPure Go.Proofs.Ytkonloadedbpkaa.FoldFacts Go.Proofs.Ytkonloadedbpkaa.FoldCount
set_option linter.unusedVariables false
set_option linter.unusedSimpArgs false

def sv (P : List Part) (m : Nat) : Nat := if isSaved (partOf P m) then 1 else 0
/-- What is gone through has its number, and nothing else; every number is at least -1. -/
structure Seen (t : TS) : Prop where
  num : ∀ q, 0 ≤ t.w.nums.getD q (-1) → q ∈ t.ex
structure Exact (P : List Part) (t t' : TS) (e c : List Nat) : Prop where
  codes : t'.w.codes.length = t.w.codes.length + c.length + (e.map (sv P)).sum
  marks : t'.w.codes.count (-1) = t.w.codes.count (-1) + (e.map (sv P)).sum
  seen : Seen t'
  all : ∀ x ∈ c, x ∈ t'.ex
theorem end_codes (P : List Part) (at_ : ByteArray → Nat) (n : Nat) (s : WS) : (writeEnd at_ (partOf P n) n s).codes.length = s.codes.length + 1 + sv P n ∧ (writeEnd at_ (partOf P n) n s).codes.count (-1) = s.codes.count (-1) + sv P n := by
  unfold writeEnd sv
  have h0 : ∀ m : Nat, ((m : Int) == -1) = false := fun m => by simp
  split
  · rename_i h
    simp [List.count_append, List.count_cons, h0]
  · rename_i h
    simp [List.count_append, List.count_cons, h0]
theorem trace_exact {P : List Part} (hS : StrictP P) (at_ : ByteArray → Nat) (base : Nat) : ∀ (k n : Nat) (t : TS), n < k → Seen t → ∃ e c, Adds P [n] t (traceT P at_ base k n t) e c ∧ Exact P t (traceT P at_ base k n t) e c := by
  intro k
  induction k with
  | zero => intro n t h; omega
  | succ k ih =>
    intro n t hnk hs
    have hf : ∀ (ks : List Nat) (t : TS), (∀ j ∈ ks, j < k) → Seen t → ∃ e c, Adds P ks t (ks.foldl (fun t j => traceT P at_ base k j t) t) e c ∧ Exact P t (ks.foldl (fun t j => traceT P at_ base k j t) t) e c := by
      intro ks
      induction ks with
      | nil => intro t _ hs; exact ⟨[], [], adds_nil P t, by simp, by simp, hs, by simp⟩
      | cons j ks ihk =>
        intro t hj hs
        obtain ⟨e1, c1, a, x⟩ := ih j t (hj j (by simp)) hs
        obtain ⟨e2, c2, b, y⟩ := ihk (traceT P at_ base k j t) (fun x hx => hj x (by simp [hx])) x.seen
        refine ⟨_, _, adds_more a b, ?_, ?_, y.seen, fun z hz => ?_⟩
        · have h1 := x.codes
          have h2 := y.codes
          simp only [List.foldl_cons, List.length_append, List.map_append, List.sum_append]
          omega
        · have h1 := x.marks
          have h2 := y.marks
          simp only [List.foldl_cons, List.map_append, List.sum_append]
          omega
        · rcases List.mem_append.1 hz with hz | hz
          · simp only [List.foldl_cons]
            rw [b.ex]
            exact List.mem_append_left _ (x.all z hz)
          · exact y.all z hz
    unfold traceT
    split
    · rename_i h0
      refine ⟨[], [n], ⟨by simp, by simp, by simp, by simp, by simp, by simp, by simp⟩, by simp, ?_, ⟨hs.num⟩, fun x hx => ?_⟩
      · have h1 : (((base : Int) + t.w.nums.getD n (-1)) == -1) = false := by
          generalize t.w.nums.getD n (-1) = m at h0
          simp
          omega
        show (t.w.codes ++ [(base : Int) + t.w.nums.getD n (-1)]).count (-1) = _
        rw [List.count_append, List.count_cons, h1]
        simp
      · simp only [List.mem_singleton] at hx
        subst hx
        exact hs.num x h0
    · rename_i hneg
      obtain ⟨e, c, a, x⟩ := hf (partOf P n).kids ⟨t.w, t.ex ++ [n], t.ca ++ [n]⟩ (fun j hj => by have := strict_of hS hj; omega) ⟨fun q hq => List.mem_append_left _ (hs.num q hq)⟩
      obtain ⟨he1, he2⟩ := end_codes P at_ n ((partOf P n).kids.foldl (fun t j => traceT P at_ base k j t) ⟨t.w, t.ex ++ [n], t.ca ++ [n]⟩).w
      have hex := a.ex
      refine ⟨n :: e, n :: c, ⟨?_, ?_, fun x => ?_, ?_, ?_, fun x => ?_, fun x hx => ?_⟩, ?_, ?_, ⟨fun q hq => ?_⟩, fun y hy => ?_⟩
      · show _ = _
        rw [a.ex, List.append_assoc]
        rfl
      · show _ = _
        rw [a.ca, List.append_assoc]
        rfl
      · have := a.count x
        simp only [List.count_cons, List.count_nil, List.map_cons, List.sum_cons]
        omega
      · have := a.len
        simp only [List.length_cons, List.length_nil, List.map_cons, List.sum_cons]
        omega
      · have h1 := a.codes
        have h2 := end_len at_ (partOf P n) n ((partOf P n).kids.foldl (fun t j => traceT P at_ base k j t) ⟨t.w, t.ex ++ [n], t.ca ++ [n]⟩).w
        simp only [List.length_cons] at h1 ⊢
        omega
      · have := a.sub x
        simp only [List.count_cons]
        omega
      · rcases List.mem_cons.1 hx with rfl | hx
        · exact ⟨_, by simp, Nat.le_refl _⟩
        · obtain ⟨h, hh, hl⟩ := a.low x hx
          have := strict_of hS hh
          exact ⟨n, by simp, by omega⟩
      · have h1 := x.codes
        simp only [List.length_cons, List.map_cons, List.sum_cons] at h1 ⊢
        omega
      · have h1 := x.marks
        simp only [List.map_cons, List.sum_cons] at h1 ⊢
        omega
      · by_cases eq : q = n
        · subst eq
          show q ∈ TS.ex _
          rw [hex]
          simp
        · refine x.seen.num q ?_
          have h3 : (writeEnd at_ (partOf P n) n ((partOf P n).kids.foldl (fun t j => traceT P at_ base k j t) ⟨t.w, t.ex ++ [n], t.ca ++ [n]⟩).w).nums.getD q (-1) = ((partOf P n).kids.foldl (fun t j => traceT P at_ base k j t) ⟨t.w, t.ex ++ [n], t.ca ++ [n]⟩).w.nums.getD q (-1) := by
            unfold writeEnd
            split
            · show (List.set _ _ _).getD q (-1) = _
              rw [List.getD_eq_getElem?_getD, List.getElem?_set_ne (Ne.symm eq), ← List.getD_eq_getElem?_getD]
            · rfl
          rw [← h3]
          exact hq
      · rcases List.mem_cons.1 hy with rfl | hy
        · show y ∈ TS.ex _
          rw [hex]
          simp
        · exact x.all y hy
theorem sum_range_eq (N : Nat) : ∀ (f : Nat → Nat) (e : List Nat), (∀ m, 0 < f m → m < N ∧ e.count m = 1) → (e.map f).sum = ((List.range N).map f).sum := by
  induction N with
  | zero =>
    intro f e h
    have hz : ∀ m, f m = 0 := fun m => by
      rcases Nat.eq_zero_or_pos (f m) with h0 | h0
      · exact h0
      · have := (h m h0).1; omega
    have : (e.map f).sum = 0 := by
      rw [List.sum_eq_zero_iff_forall_eq_nat]
      intro v hv
      obtain ⟨m, _, rfl⟩ := List.mem_map.1 hv
      exact hz m
    rw [this]
    rfl
  | succ N ih =>
    intro f e h
    rw [sum_split f N e, List.range_succ, List.map_append, List.sum_append]
    have h1 := ih (fun m => if m = N then 0 else f m) e (fun m hm => by
      by_cases e1 : m = N
      · simp [e1] at hm
      · simp only [if_neg e1] at hm
        have := h m hm
        exact ⟨by omega, this.2⟩)
    have h2 : (List.range N).map (fun m => if m = N then 0 else f m) = (List.range N).map f := List.map_congr_left fun m hm => by
      have := List.mem_range.1 hm
      rw [if_neg (by omega)]
    rw [h2] at h1
    have h3 : e.count N * f N = f N := by
      rcases Nat.eq_zero_or_pos (f N) with h0 | h0
      · rw [h0]; simp
      · have := (h N h0).2
        rw [this, Nat.one_mul]
    simp only [List.map_cons, List.map_nil, List.sum_cons, List.sum_nil]
    omega
/-- Of a whole run over parts that all are led to. -/
theorem codes_exact {P : List Part} (hS : StrictP P) (hp : ∀ (n : Nat) (q : Part), P[n]? = some q → q.places = ((P.map Part.kids).map (List.count n)).sum) {root : Nat} (hr : root + 1 = P.length) (hreach : ∀ m, m < root → 0 < (partOf P m).places) (at_ : ByteArray → Nat) (base : Nat) :
    (writeT P at_ base (root + 1) root (codes0 P)).codes.length = 1 + ((P.map Part.kids).map List.length).sum + (P.map (fun q => if isSaved q then 1 else 0)).sum ∧
    (writeT P at_ base (root + 1) root (codes0 P)).codes.count (-1) = (P.map (fun q => if isSaved q then 1 else 0)).sum := by
  have hs0 : Seen ⟨codes0 P, [], []⟩ := ⟨fun q hq => by
    exfalso
    have : (codes0 P).nums.getD q (-1) = -1 := by
      unfold codes0
      rw [List.getD_eq_getElem?_getD, List.getElem?_replicate]
      split <;> rfl
    have hq2 : 0 ≤ (codes0 P).nums.getD q (-1) := hq
    omega⟩
  obtain ⟨e, c, ha, hx⟩ := trace_exact hS at_ base (root + 1) root ⟨codes0 P, [], []⟩ (by omega) hs0
  have ho := trace_once hS at_ base (root + 1) root [] ⟨codes0 P, [], []⟩ (by simp) ⟨by simp [codes0], fun q _ _ h => by simp at h, fun q _ => by simp⟩
  have hex : (traceT P at_ base (root + 1) root ⟨codes0 P, [], []⟩).ex = e := by rw [ha.ex]; rfl
  have h1 := ex_once hS hp ha (fun q hq => by rw [← hex]; exact ho.one q hq)
  have hin : ∀ d m, root ≤ m + d → m ≤ root → m ∈ e := by
    intro d
    induction d with
    | zero =>
      intro m h2 h3
      have : m = root := by omega
      subst this
      have h4 := hx.all m (List.count_pos_iff.1 (by have := ha.count m; simp at this; omega))
      rw [hex] at h4
      exact h4
    | succ d ihd =>
      intro m h2 h3
      by_cases em : m = root
      · exact ihd m (by omega) h3
      · have hpl := hreach m (by omega)
        have hq2 : P[m]? = some (partOf P m) := by
          have : m < P.length := by omega
          simp [partOf, this]
        have hpp := hp m _ hq2
        have hex2 : ∃ ks ∈ P.map Part.kids, m ∈ ks := by
          refine Classical.byContradiction fun hno => ?_
          have hz : ((P.map Part.kids).map (List.count m)).sum = 0 := by
            rw [List.sum_eq_zero_iff_forall_eq_nat]
            intro v hv
            obtain ⟨ks, hks, rfl⟩ := List.mem_map.1 hv
            exact List.count_eq_zero.2 fun hm => hno ⟨ks, hks, hm⟩
          omega
        obtain ⟨ks, hks, hmk⟩ := hex2
        obtain ⟨q, hq, rfl⟩ := List.mem_map.1 hks
        obtain ⟨r, hr2⟩ := List.mem_iff_getElem?.1 hq
        have hmr := hS r q hr2 m hmk
        have hrl := (List.getElem?_eq_some_iff.1 hr2).1
        have hre := ihd r (by omega) (by omega)
        have hpr : partOf P r = q := by
          unfold partOf
          rw [List.getD_eq_getElem?_getD, hr2]
          rfl
        have hc : 0 < c.count m := by
          have h5 := ha.count m
          have h6 := sum_split (fun j => (partOf P j).kids.count m) r e
          have h7 : 0 < e.count r := List.count_pos_iff.2 hre
          have h8 : 0 < (partOf P r).kids.count m := by rw [hpr]; exact List.count_pos_iff.2 hmk
          have h9 : 0 < e.count r * (partOf P r).kids.count m := Nat.mul_pos h7 h8
          omega
        have h4 := hx.all m (List.count_pos_iff.1 hc)
        rw [hex] at h4
        exact h4
  have hone : ∀ m, 0 < (partOf P m).kids.length → e.count m = 1 := fun m hm => by
    obtain ⟨k, hk2⟩ := List.exists_mem_of_length_pos hm
    have hlt := (strict_of hS hk2).2
    have h2 := h1 P.length m (by omega) hm
    have h3 := List.count_pos_iff.2 (hin root m (by omega) (by omega))
    omega
  have hl := sum_range_eq P.length (fun m => (partOf P m).kids.length) e (fun m hm => by
    obtain ⟨k, hk2⟩ := List.exists_mem_of_length_pos hm
    exact ⟨(strict_of hS hk2).2, hone m hm⟩)
  have hv := sum_range_eq P.length (sv P) e (fun m hm => by
    have hsm : isSaved (partOf P m) = true := by
      unfold sv at hm
      split at hm
      · assumption
      · omega
    refine ⟨saved_lt hsm, hone m ?_⟩
    unfold isSaved at hsm
    simp only [Bool.and_eq_true, decide_eq_true_eq] at hsm
    exact hsm.1)
  rw [range_parts P (fun r => r.kids.length)] at hl
  have hv2 : (List.range P.length).map (sv P) = P.map (fun q => if isSaved q then 1 else 0) := range_parts P (fun q => if isSaved q then 1 else 0)
  rw [hv2] at hv
  have h2 := hx.codes
  have h3 := hx.marks
  rw [trace_w] at h2 h3
  have h4 := ha.len
  have h5 : (codes0 P).codes = [] := rfl
  have h6 : (⟨codes0 P, [], []⟩ : TS).w = codes0 P := rfl
  rw [h6, h5] at h2 h3
  rw [List.map_map]
  have e3 : (List.length ∘ Part.kids) = (fun r : Part => r.kids.length) := rfl
  rw [e3]
  simp only [List.length_nil, List.count_nil, List.length_singleton] at h2 h3 h4
  omega
end Go.Proofs.Ytkonloadedbpkaa.FoldExact
