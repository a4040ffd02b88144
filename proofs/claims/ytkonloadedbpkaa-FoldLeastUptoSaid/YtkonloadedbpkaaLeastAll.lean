/- NamedP, FoldBack, LeastP, EmptyW: in one text. -/
import Derived.Test.YtkonloadedbpkaaPFoldLosslessx2
import Derived.Test.YtkonloadedbpkaaGather
import Derived.Test.YtkonloadedbpkaaFoldAll
import Derived.Test.YtkonloadedbpkaaShareAll
import Derived.Test.YtkonloadedbpkaaRowsOf
import Derived.Test.YtkonloadedbpkaaNodesIn
namespace Go.Proofs.Ytkonloadedbpkaa.NamedP
open Go.RowKit Go.Proofs.Ytkonloadedbpkaa.PFoldLossless Go.Proofs.Ytkonloadedbpkaa.FoldPure Go.Proofs.Ytkonloadedbpkaa.FoldMem Go.Proofs.Ytkonloadedbpkaa.Gather
open Go.Proofs.YtkonloadedbpkaaW.PrintWords
set_option linter.unusedVariables false

/-- From some number of rounds on it answers r. -/
def EvS {α : Type} (g : Nat → Option α) (r : α) : Prop := ∃ K, ∀ k, K ≤ k → g k = some r
theorem EvS.step {α : Type} {g h : Nat → Option α} {r : α} (H : EvS h r) (e : ∀ k, g (k + 1) = h k) : EvS g r := by
  obtain ⟨K, hK⟩ := H
  refine ⟨K + 1, fun k hk => ?_⟩
  obtain ⟨k, rfl⟩ : ∃ m, k = m + 1 := ⟨k - 1, by omega⟩
  rw [e]
  exact hK k (by omega)
theorem EvS.some {α : Type} {g : Nat → Option α} {r : α} (e : ∀ k, g (k + 1) = some r) : EvS g r := ⟨1, fun k hk => by
  obtain ⟨k, rfl⟩ : ∃ m, k = m + 1 := ⟨k - 1, by omega⟩
  exact e k⟩
theorem wrap_in {i : Int} (h0 : -1 ≤ i) (h : i ≤ 9007199254740992) : wrap64 i = i := by unfold wrap64; omega
def toL (x : Nd) : S27 := ⟨x.1, ints x.2⟩
def sS : ByteArray := ⟨#[115]⟩
def tS : ByteArray := ⟨#[116]⟩
def iS : ByteArray := ⟨#[105]⟩
def labI (b : ByteArray) : Nat → ByteArray
  | 0 => b
  | n + 1 => labI b n ++ iS
theorem labI_size (b : ByteArray) : ∀ n, (labI b n).size = b.size + n
  | 0 => rfl
  | n + 1 => by
    show (labI b n ++ iS).size = _
    rw [ByteArray.size_append, labI_size b n]
    rfl
def baseL (s : ByteArray) : ByteArray := if 0 < s.size ∧ Int.tmod (bt s 0) 2 = 0 then tS else sS
def kidN (i : Nat) (k : Int) : Nat := if k < 0 ∨ k ≥ i then i - 1 else k.toNat
def kidsN (i : Nat) (ks : List Int) : List Nat := if i = 0 then [] else ks.map (kidN i)
def namedN (i : Nat) (x : S27) : Nd := if (kidsN i x.f1).length = x.f1.length then (labI (baseL x.f0) x.f1.length, kidsN i x.f1) else (sS, [])
def namedTo (l : List S27) : Nat → List Nd
  | 0 => []
  | i + 1 => namedTo l i ++ [namedN i (rd_T27 l i)]
theorem namedTo_len (l : List S27) : ∀ i, (namedTo l i).length = i
  | 0 => rfl
  | i + 1 => by
    rw [namedTo, List.length_append, namedTo_len l i]
    rfl
theorem namedTo_at (l : List S27) {j : Nat} : ∀ {i : Nat}, j < i → (namedTo l i)[j]? = some (namedN j (rd_T27 l j))
  | i + 1, h => by
    rw [namedTo]
    by_cases e : j = i
    · subst e
      rw [List.getElem?_append_right (by rw [namedTo_len]; exact Nat.le_refl _), namedTo_len]
      simp
    · rw [List.getElem?_append_left (by rw [namedTo_len]; omega)]
      exact namedTo_at l (by omega)
theorem kidsN_take {i : Nat} (hi : 0 < i) (ks : List Int) {j : Nat} (hj : j < ks.length) : ints (kidsN i (ks.take (j + 1))) = ints (kidsN i (ks.take j)) ++ [((kidN i ks[j] : Nat) : Int)] := by
  unfold kidsN
  rw [if_neg (by omega), if_neg (by omega), List.take_succ_eq_append_getElem hj]
  show List.map _ (List.map _ (_ ++ _)) = _
  rw [List.map_append, List.map_append]
  rfl
theorem kids0 (ks : List Int) : kidsN 0 ks = [] := rfl
theorem rd_at (ks : List Int) {j : Nat} (hj : j < ks.length) : rd ks (j : Int) = ks[j] := by simp [rd, hj]
/-- A node's kids. -/
theorem named_kids (l : List S27) (x3 : List S27) (i : Nat) (b : ByteArray) (hb : b.size ≤ 1) (r : List S27) (hi : i < l.length) (hl : l.length ≤ 4194304) (h3 : x3.length ≤ 4194304) (hk : (rd_T27 l i).f1.length ≤ 4194304)
    (hn : EvS (fun k => lemmalaw16_named.l0 k l (x3 ++ [toL (if (kidsN i (rd_T27 l i).f1).length = (rd_T27 l i).f1.length then (labI b (rd_T27 l i).f1.length, kidsN i (rd_T27 l i).f1) else (sS, []))]) ((i : Int) + 1)) r) :
    ∀ (d j : Nat), j ≤ (rd_T27 l i).f1.length → (rd_T27 l i).f1.length - j = d → EvS (fun k => lemmalaw16_named.l1 k l x3 i j (labI b j) (ints (kidsN i ((rd_T27 l i).f1.take j)))) r := by
  generalize hks : (rd_T27 l i).f1 = ks at hk hn
  intro d
  induction d with
  | zero =>
    intro j hj hd
    have hje : j = ks.length := by omega
    subst hje
    refine hn.step fun k => ?_
    rw [List.take_length]
    conv => lhs; unfold lemmalaw16_named.l1
    simp only [hks]
    rw [if_pos (by omega), if_pos (by omega), if_neg (by omega)]
    have hlen : ((ints (kidsN i ks)).length : Int) = ((kidsN i ks).length : Int) := by simp
    rw [hlen, wrap_in (by omega) (by omega)]
    by_cases e : (kidsN i ks).length = ks.length
    · rw [if_pos (by omega), if_pos (by omega), if_pos e]
      rfl
    · rw [if_neg (by omega), if_pos (by omega), if_neg e]
      rfl
  | succ d ih =>
    intro j hj hd
    have hlt : j < ks.length := by omega
    have hnext := ih (j + 1) (by omega) (by omega)
    have hsz := labI_size b j
    have hkl : (kidsN i (ks.take j)).length ≤ 4194304 := by
      unfold kidsN
      split
      · simp
      · simp; omega
    have hjj : Aside0 (wrap64 ((j : Int) + 1) = ((j + 1 : Nat) : Int)) := ⟨by rw [wrap_in (by omega) (by omega)]; omega⟩
    -- the second half of the round
    have hj4 : ∀ (b4 : Bool), b4 = decide (ks[j] < 0 ∨ ks[j] ≥ (i : Int)) → EvS (fun k => lemmalaw16_named.j4 k l x3 i j ks[j] b4 (labI b j ++ iS) (ints (kidsN i (ks.take j)))) r := by
      intro b4 hb4
      refine hnext.step fun k => ?_
      conv => lhs; unfold lemmalaw16_named.j4
      rw [hjj.out]
      rcases Nat.eq_zero_or_pos i with h0 | h0
      · subst h0
        have hbt : b4 = true := by rw [hb4]; simp; omega
        rw [if_pos hbt, if_neg (by rw [wrap_in (by omega) (by omega)]; omega)]
        rw [kids0, kids0]
        rfl
      · have hint : (ints (kidsN i (ks.take j))).length = (kidsN i (ks.take j)).length := by simp
        rw [kidsN_take h0 ks hlt]
        by_cases hc : ks[j] < 0 ∨ ks[j] ≥ (i : Int)
        · have hbt : b4 = true := by rw [hb4]; exact decide_eq_true hc
          have hkid : (i : Int) - 1 = ((kidN i ks[j] : Nat) : Int) := by unfold kidN; rw [if_pos hc]; omega
          rw [if_pos hbt, wrap_in (by omega) (by omega), if_pos (by omega), if_pos (by rw [hint]; omega), hkid]
          rfl
        · have hbt : b4 = false := by rw [hb4]; exact decide_eq_false hc
          have hkid : ks[j] = ((kidN i ks[j] : Nat) : Int) := by unfold kidN; rw [if_neg hc]; omega
          rw [if_neg (by rw [hbt]; simp), if_pos (by omega), if_pos (by rw [hint]; omega)]
          conv => lhs; rw [hkid]
          rfl
    by_cases hneg : ks[j] < 0
    · refine (hj4 true (by simp [hneg])).step fun k => ?_
      conv => lhs; unfold lemmalaw16_named.l1
      simp only [hks]
      rw [if_pos (by omega), if_pos (by omega), if_pos (by omega), if_pos (by rw [hsz]; omega), if_pos (by omega), rd_at ks hlt, if_pos hneg]
      rfl
    · refine (hj4 (decide (ks[j] ≥ (i : Int))) (by simp [hneg])).step fun k => ?_
      conv => lhs; unfold lemmalaw16_named.l1
      simp only [hks]
      rw [if_pos (by omega), if_pos (by omega), if_pos (by omega), if_pos (by rw [hsz]; omega), if_pos (by omega), rd_at ks hlt, if_neg hneg]
      rfl
theorem base_ev (l x3 : List S27) (i : Nat) (r : List S27) (c : Bool) (h : EvS (fun k => lemmalaw16_named.j2 k l x3 i (if c = true then tS else sS)) r) : EvS (fun k => lemmalaw16_named.j1 k l x3 i c sS) r := by
  refine h.step fun k => ?_
  conv => lhs; unfold lemmalaw16_named.j1
  cases c <;> rfl
theorem named_ev (l : List S27) (hl : l.length ≤ 4194304) (hk : ∀ i, (rd_T27 l (i : Nat)).f1.length ≤ 4194304) : ∀ (d i : Nat), i ≤ l.length → l.length - i = d → EvS (fun k => lemmalaw16_named.l0 k l ((namedTo l i).map toL) i) ((namedTo l l.length).map toL) := by
  intro d
  induction d with
  | zero =>
    intro i hi hd
    have hie : i = l.length := by omega
    subst hie
    refine EvS.some fun k => ?_
    conv => lhs; unfold lemmalaw16_named.l0
    rw [if_neg (by omega)]
  | succ d ih =>
    intro i hi hd
    have hlt : i < l.length := by omega
    have hnext := ih (i + 1) (by omega) (by omega)
    have h3 : ((namedTo l i).map toL).length ≤ 4194304 := by rw [List.length_map, namedTo_len]; omega
    have hfin : ∀ b : ByteArray, b.size ≤ 1 → b = baseL (rd_T27 l (i : Int)).f0 → EvS (fun k => lemmalaw16_named.j2 k l ((namedTo l i).map toL) i b) ((namedTo l l.length).map toL) := by
      intro b hb hbe
      have h := named_kids l ((namedTo l i).map toL) i b hb ((namedTo l l.length).map toL) hlt hl h3 (hk i) (by
        have e : (namedTo l (i + 1)).map toL = (namedTo l i).map toL ++ [toL (if (kidsN i (rd_T27 l i).f1).length = (rd_T27 l i).f1.length then (labI b (rd_T27 l i).f1.length, kidsN i (rd_T27 l i).f1) else (sS, []))] := by
          rw [namedTo, List.map_append, hbe]
          rfl
        rw [← e]
        exact hnext) _ 0 (by omega) rfl
      refine h.step fun k => ?_
      conv => lhs; unfold lemmalaw16_named.j2
      have e0 : ints (kidsN i ((rd_T27 l i).f1.take 0)) = [] := by
        unfold kidsN
        split <;> rfl
      rw [e0]
      rfl
    by_cases hs : ((rd_T27 l (i : Int)).f0.size : Int) > 0
    · refine (base_ev l _ i _ (Int.tmod (bt (rd_T27 l (i : Int)).f0 0) 2 == 0) (hfin _ ?_ ?_)).step fun k => ?_
      · split
        · decide
        · decide
      · unfold baseL
        by_cases hc : Int.tmod (bt (rd_T27 l (i : Int)).f0 0) 2 = 0
        · rw [if_pos (by simpa using hc), if_pos ⟨by omega, hc⟩]
        · rw [if_neg (by simpa using hc), if_neg (fun h => hc h.2)]
      · conv => lhs; unfold lemmalaw16_named.l0
        rw [if_pos (by omega), if_pos (by omega), if_pos hs, if_pos (by omega)]
        rfl
    · refine (base_ev l _ i _ false (hfin _ (by decide) ?_)).step fun k => ?_
      · have hc : ¬ (0 < (rd_T27 l (i : Int)).f0.size ∧ Int.tmod (bt (rd_T27 l (i : Int)).f0 0) 2 = 0) := fun h => hs (by have := h.1; omega)
        show sS = baseL _
        unfold baseL
        rw [if_neg hc]
      · conv => lhs; unfold lemmalaw16_named.l0
        rw [if_pos (by omega), if_pos (by omega), if_neg hs]
        rfl
theorem named_f (l : List S27) (hl : l.length ≤ 4194304) (hk : ∀ i, (rd_T27 l (i : Nat)).f1.length ≤ 4194304) : ∃ k, lemmalaw16_named.f k l = some ((namedTo l l.length).map toL) := by
  obtain ⟨K, h⟩ := named_ev l hl hk l.length 0 (by omega) (by omega)
  exact ⟨K, h K (Nat.le_refl _)⟩
/-! ### what they are -/
def namedL (l : List S27) : List Nd := namedTo l l.length
theorem namedL_len (l : List S27) : (namedL l).length = l.length := namedTo_len l _
theorem kidN_lt {i : Nat} (h : 0 < i) (k : Int) : kidN i k < i := by
  unfold kidN
  split <;> omega
theorem named_valid (l : List S27) : Valid (namedL l) := by
  intro i x hx k hk
  have hi : i < l.length := by
    have := (List.getElem?_eq_some_iff.1 hx).1
    rwa [namedL_len] at this
  have := namedTo_at l hi
  rw [namedL] at hx
  rw [this] at hx
  cases hx
  unfold namedN at hk
  split at hk
  · unfold kidsN at hk
    split at hk
    · simp at hk
    · obtain ⟨m, _, rfl⟩ := List.mem_map.1 hk
      exact kidN_lt (by omega) m
  · simp at hk
/-- A label tells how many kids the node has. -/
theorem named_lab (l : List S27) : ∀ x ∈ namedL l, ∃ b, (b = sS ∨ b = tS) ∧ x.1 = labI b x.2.length := by
  intro x hx
  obtain ⟨i, hi, rfl⟩ := List.mem_iff_getElem.1 hx
  rw [namedL_len] at hi
  have := namedTo_at l hi
  have e : (namedL l)[i]'(by rw [namedL_len]; exact hi) = namedN i (rd_T27 l i) := by
    have h2 : (namedL l)[i]? = some (namedN i (rd_T27 l i)) := this
    rw [List.getElem?_eq_getElem (by rw [namedL_len]; exact hi)] at h2
    exact Option.some.inj h2
  rw [e]
  unfold namedN
  split
  · rename_i h
    refine ⟨baseL (rd_T27 l i).f0, ?_, by rw [h]⟩
    unfold baseL
    split
    · exact .inr rfl
    · exact .inl rfl
  · exact ⟨sS, .inl rfl, rfl⟩
theorem named_kids_le (l : List S27) {i : Nat} (hi : i < l.length) : (namedN i (rd_T27 l i)).2.length ≤ (rd_T27 l i).f1.length := by
  unfold namedN
  split
  · rename_i h
    exact Nat.le_of_eq h
  · simp
end Go.Proofs.Ytkonloadedbpkaa.NamedP

namespace Go.Proofs.Ytkonloadedbpkaa.FoldBack
open Go.RowKit Go.Proofs.Ytkonloadedbpkaa.FoldPure Go.Proofs.Ytkonloadedbpkaa.FoldRun Go.Proofs.Ytkonloadedbpkaa.Gather Go.Proofs.Ytkonloadedbpkaa.Reached Go.Proofs.Ytkonloadedbpkaa.NodesPure Go.Proofs.Ytkonloadedbpkaa.FoldFacts Go.Proofs.Ytkonloadedbpkaa.FoldCount Go.Proofs.Ytkonloadedbpkaa.FoldExact Go.Proofs.Ytkonloadedbpkaa.FoldSame
set_option linter.unusedVariables false
set_option linter.unusedSimpArgs false

def big (base : Nat) (cs : List Int) : Nat := cs.countP (fun c => decide ((base : Int) ≤ c))
/-- Every save stands behind a code that is none. -/
def Shape (cs : List Int) : Prop := ∀ i, cs[i]? = some (-1) → 0 < i ∧ ∃ c, cs[i - 1]? = some c ∧ 0 ≤ c
theorem shape_nil : Shape [] := fun i h => by simp at h
theorem shape_more {cs : List Int} (h : Shape cs) {c : Int} (hc : 0 ≤ c) : Shape (cs ++ [c]) := by
  intro i hi
  rcases Nat.lt_or_ge i cs.length with hlt | hge
  · rw [List.getElem?_append_left hlt] at hi
    obtain ⟨h0, d, hd, hd0⟩ := h i hi
    exact ⟨h0, d, by rw [List.getElem?_append_left (by omega)]; exact hd, hd0⟩
  · rw [List.getElem?_append_right hge] at hi
    obtain ⟨h1, h2⟩ := List.getElem?_eq_some_iff.1 hi
    simp only [List.length_singleton] at h1
    have : i - cs.length = 0 := by omega
    simp only [this, List.getElem_cons_zero] at h2
    omega
theorem shape_save {cs : List Int} (h : Shape cs) {c : Int} (hc : 0 ≤ c) : Shape (cs ++ [c] ++ [-1]) := by
  intro i hi
  rcases Nat.lt_or_ge i (cs ++ [c]).length with hlt | hge
  · rw [List.getElem?_append_left hlt] at hi
    obtain ⟨h0, d, hd, hd0⟩ := shape_more h hc i hi
    exact ⟨h0, d, by rw [List.getElem?_append_left (by omega)]; exact hd, hd0⟩
  · obtain ⟨h1, _⟩ := List.getElem?_eq_some_iff.1 hi
    simp only [List.length_append, List.length_singleton] at h1 hge
    refine ⟨by omega, c, ?_, hc⟩
    rw [List.getElem?_append_left (by simp; omega), List.getElem?_append_right (by omega)]
    have : i - 1 - cs.length = 0 := by omega
    rw [this]
    rfl
structure Back (P : List Part) (base : Nat) (t : TS) : Prop where
  bal : big base t.w.codes + t.ex.length = t.ca.length
  uns : ∀ m, isSaved (partOf P m) = false → t.ex.count m = t.ca.count m
  neg : ∀ m, isSaved (partOf P m) = false → t.w.nums.getD m (-1) = -1
  shape : Shape t.w.codes
  all : ∀ c ∈ t.w.codes, c = -1 ∨ 0 ≤ c
theorem back_start (P : List Part) (base : Nat) : Back P base ⟨codes0 P, [], []⟩ := ⟨rfl, fun _ _ => rfl, fun m _ => by
  unfold codes0
  rw [List.getD_eq_getElem?_getD, List.getElem?_replicate]
  split <;> rfl, shape_nil, fun c h => by simp [codes0] at h⟩
theorem trace_back {P : List Part} (at_ : ByteArray → Nat) (base : Nat) (hat : ∀ m, at_ (partOf P m).label < base) : ∀ (k n : Nat) (t : TS), Back P base t → Back P base (traceT P at_ base k n t) := by
  intro k
  induction k with
  | zero => intro n t h; exact h
  | succ k ih =>
    intro n t h
    have hf : ∀ (ks : List Nat) (t : TS), Back P base t → Back P base (ks.foldl (fun t j => traceT P at_ base k j t) t) := by
      intro ks
      induction ks with
      | nil => intro t h; exact h
      | cons j ks ihk => intro t h; exact ihk _ (ih j t h)
    unfold traceT
    split
    · rename_i h0
      refine ⟨?_, fun m hm => ?_, h.neg, shape_more h.shape (by omega), fun c hc => ?_⟩
      · have := h.bal
        unfold big at this ⊢
        simp only [List.countP_append, List.length_append, List.length_singleton]
        have e : List.countP (fun c => decide ((base : Int) ≤ c)) [(base : Int) + t.w.nums.getD n (-1)] = 1 := by
          generalize t.w.nums.getD n (-1) = z at h0
          simp
          omega
        omega
      · have h1 := h.uns m hm
        have hne : m ≠ n := by
          rintro rfl
          have := h.neg m hm
          omega
        simp only [List.count_append, List.count_cons, List.count_nil]
        have : (n == m) = false := by simp; exact fun e => hne e.symm
        rw [this]
        simp
        exact h1
      · rcases List.mem_append.1 hc with hc | hc
        · exact h.all c hc
        · simp only [List.mem_singleton] at hc
          right
          omega
    · have h1 : Back P base ⟨t.w, t.ex ++ [n], t.ca ++ [n]⟩ := ⟨by have := h.bal; simp only [List.length_append, List.length_singleton]; omega, fun m hm => by
        have := h.uns m hm
        simp only [List.count_append]
        omega, h.neg, h.shape, h.all⟩
      have h2 := hf (partOf P n).kids _ h1
      generalize (partOf P n).kids.foldl (fun t j => traceT P at_ base k j t) ⟨t.w, t.ex ++ [n], t.ca ++ [n]⟩ = u at h2
      have hlab := hat n
      have hnb : ((base : Int) ≤ (at_ (partOf P n).label : Int)) = False := by simp; omega
      unfold writeEnd
      split
      · rename_i hs
        refine ⟨?_, h2.uns, fun m hm => ?_, shape_save h2.shape (by omega), fun c hc => ?_⟩
        · have := h2.bal
          unfold big at this ⊢
          simp only [List.countP_append]
          have e1 : List.countP (fun c => decide ((base : Int) ≤ c)) [(at_ (partOf P n).label : Int)] = 0 := by simp; omega
          have e2 : List.countP (fun c => decide ((base : Int) ≤ c)) [(-1 : Int)] = 0 := by simp; omega
          omega
        · have hne : m ≠ n := by
            rintro rfl
            rw [hs] at hm
            cases hm
          show (List.set _ _ _).getD m (-1) = -1
          rw [List.getD_eq_getElem?_getD, List.getElem?_set_ne (Ne.symm hne), ← List.getD_eq_getElem?_getD]
          exact h2.neg m hm
        · simp only [List.mem_append, List.mem_singleton] at hc
          rcases hc with (hc | rfl) | rfl
          · exact h2.all c hc
          · right; omega
          · exact .inl rfl
      · refine ⟨?_, h2.uns, h2.neg, shape_more h2.shape (by omega), fun c hc => ?_⟩
        · have := h2.bal
          unfold big at this ⊢
          simp only [List.countP_append]
          have e1 : List.countP (fun c => decide ((base : Int) ≤ c)) [(at_ (partOf P n).label : Int)] = 0 := by simp; omega
          omega
        · simp only [List.mem_append, List.mem_singleton] at hc
          rcases hc with hc | rfl
          · exact h2.all c hc
          · right; omega
/-- The facts of a whole run over parts that all are led to. -/
theorem run_facts {P : List Part} (hS : StrictP P) (hp : ∀ (n : Nat) (q : Part), P[n]? = some q → q.places = ((P.map Part.kids).map (List.count n)).sum) {root : Nat} (hr : root + 1 = P.length) (hreach : ∀ m, m < root → 0 < (partOf P m).places) (at_ : ByteArray → Nat) (base : Nat) :
    ∃ e c, Adds P [root] ⟨codes0 P, [], []⟩ (traceT P at_ base (root + 1) root ⟨codes0 P, [], []⟩) e c ∧ ∀ m, 0 < (partOf P m).kids.length → e.count m = 1 := by
  have hs0 : Seen ⟨codes0 P, [], []⟩ := ⟨fun q hq => by
    exfalso
    have : (codes0 P).nums.getD q (-1) = -1 := by
      unfold codes0
      rw [List.getD_eq_getElem?_getD, List.getElem?_replicate]
      split <;> rfl
    have hq2 : 0 ≤ (codes0 P).nums.getD q (-1) := hq
    omega⟩
  obtain ⟨e, c, ha, hx⟩ := trace_exact hS at_ base (root + 1) root ⟨codes0 P, [], []⟩ (by omega) hs0
  have ho := trace_once hS at_ base (root + 1) root [] ⟨codes0 P, [], []⟩ (by simp) ⟨by simp [codes0], fun q _ _ h => by simp at h, fun q _ => by simp⟩
  have hex : (traceT P at_ base (root + 1) root ⟨codes0 P, [], []⟩).ex = e := by rw [ha.ex]; rfl
  have h1 := ex_once hS hp ha (fun q hq => by rw [← hex]; exact ho.one q hq)
  have hin : ∀ d m, root ≤ m + d → m ≤ root → m ∈ e := by
    intro d
    induction d with
    | zero =>
      intro m h2 h3
      have : m = root := by omega
      subst this
      have h4 := hx.all m (List.count_pos_iff.1 (by have := ha.count m; simp at this; omega))
      rw [hex] at h4
      exact h4
    | succ d ihd =>
      intro m h2 h3
      by_cases em : m = root
      · exact ihd m (by omega) h3
      · have hpl := hreach m (by omega)
        have hq2 : P[m]? = some (partOf P m) := by
          have : m < P.length := by omega
          simp [partOf, this]
        have hpp := hp m _ hq2
        have hex2 : ∃ ks ∈ P.map Part.kids, m ∈ ks := by
          refine Classical.byContradiction fun hno => ?_
          have hz : ((P.map Part.kids).map (List.count m)).sum = 0 := by
            rw [List.sum_eq_zero_iff_forall_eq_nat]
            intro v hv
            obtain ⟨ks, hks, rfl⟩ := List.mem_map.1 hv
            exact List.count_eq_zero.2 fun hm => hno ⟨ks, hks, hm⟩
          omega
        obtain ⟨ks, hks, hmk⟩ := hex2
        obtain ⟨q, hq, rfl⟩ := List.mem_map.1 hks
        obtain ⟨r, hr2⟩ := List.mem_iff_getElem?.1 hq
        have hmr := hS r q hr2 m hmk
        have hrl := (List.getElem?_eq_some_iff.1 hr2).1
        have hre := ihd r (by omega) (by omega)
        have hpr : partOf P r = q := by
          unfold partOf
          rw [List.getD_eq_getElem?_getD, hr2]
          rfl
        have hc : 0 < c.count m := by
          have h5 := ha.count m
          have h6 := sum_split (fun j => (partOf P j).kids.count m) r e
          have h7 : 0 < e.count r := List.count_pos_iff.2 hre
          have h8 : 0 < (partOf P r).kids.count m := by rw [hpr]; exact List.count_pos_iff.2 hmk
          have h9 : 0 < e.count r * (partOf P r).kids.count m := Nat.mul_pos h7 h8
          omega
        have h4 := hx.all m (List.count_pos_iff.1 hc)
        rw [hex] at h4
        exact h4
  have hone : ∀ m, 0 < (partOf P m).kids.length → e.count m = 1 := fun m hm => by
    obtain ⟨k, hk2⟩ := List.exists_mem_of_length_pos hm
    have hlt := (strict_of hS hk2).2
    have h2 := h1 P.length m (by omega) hm
    have h3 := List.count_pos_iff.2 (hin root m (by omega) (by omega))
    omega
  exact ⟨e, c, ha, hone⟩
theorem sum_counts : ∀ (N : Nat) (e : List Nat), (∀ x ∈ e, x < N) → ((List.range N).map (fun m => e.count m)).sum = e.length := by
  intro N e
  induction e with
  | nil =>
    intro _
    have : ∀ M, ((List.range M).map (fun m => ([] : List Nat).count m)).sum = 0 := by
      intro M
      induction M with
      | zero => rfl
      | succ M ih => rw [List.range_succ, List.map_append, List.sum_append, ih]; rfl
    exact this N
  | cons x e ih =>
    intro h
    have hx := h x (by simp)
    have h1 := ih (fun y hy => h y (by simp [hy]))
    have h2 : ∀ M, ((List.range M).map (fun m => (x :: e).count m)).sum = ((List.range M).map (fun m => e.count m)).sum + (if x < M then 1 else 0) := by
      intro M
      induction M with
      | zero => rfl
      | succ M ihM =>
        rw [List.range_succ, List.map_append, List.map_append, List.sum_append, List.sum_append, ihM]
        simp only [List.map_cons, List.map_nil, List.sum_cons, List.sum_nil, List.count_cons]
        by_cases e1 : x = M
        · subst e1
          have a1 : (if x < x then 1 else 0) = 0 := if_neg (by omega)
          have a2 : (if x < x + 1 then 1 else 0) = 1 := if_pos (by omega)
          have a3 : (if (x == x) = true then 1 else 0) = 1 := if_pos (by simp)
          rw [a1, a2, a3]
          omega
        · have e2 : (x == M) = false := by simpa using e1
          have a3 : (if (x == M) = true then 1 else 0) = 0 := if_neg (by rw [e2]; simp)
          rw [a3]
          by_cases e3 : x < M
          · have a1 : (if x < M then 1 else 0) = 1 := if_pos e3
            have a2 : (if x < M + 1 then 1 else 0) = 1 := if_pos (by omega)
            rw [a1, a2]
            omega
          · have a1 : (if x < M then 1 else 0) = 0 := if_neg e3
            have a2 : (if x < M + 1 then 1 else 0) = 0 := if_neg (by omega)
            rw [a1, a2]
            omega
    rw [h2 N, h1, if_pos hx]
    rfl
theorem sum_add {f g : Nat → Nat} (N : Nat) : ((List.range N).map (fun m => f m + g m)).sum = ((List.range N).map f).sum + ((List.range N).map g).sum := by
  induction N with
  | zero => rfl
  | succ N ih =>
    rw [List.range_succ, List.map_append, List.map_append, List.map_append, List.sum_append, List.sum_append, List.sum_append, ih]
    simp
    omega
/-- How often the law counts a node. -/
def placesR (l : List Nd) (m : Nat) : Nat := placesN l m + (if m + 1 = l.length then 1 else 0)
def wantedN (l : List Nd) (m : Nat) : Nat := if (l.getD m (ByteArray.empty, [])).2.length = 0 then placesR l m else 1
def callsN (l : List Nd) (m : Nat) : Nat := if (l.getD m (ByteArray.empty, [])).2.length = 0 then 0 else if 1 < placesR l m then placesR l m - 1 else 0
theorem led_pos {l : List Nd} (hr : AllLed l) {m : Nat} (hm : m < l.length) : 0 < placesR l m := by
  unfold placesR
  by_cases e : m + 1 = l.length
  · rw [if_pos e]; omega
  · obtain ⟨r, hrl, hj⟩ := hr m (by omega)
    have h1 : l[r].2.count m ≤ placesN l m := by
      unfold placesN
      rw [List.map_map]
      exact mem_le_sum (List.mem_map.2 ⟨l[r], List.getElem_mem hrl, rfl⟩)
    have h2 := List.count_pos_iff.2 hj
    omega
theorem split_places {l : List Nd} (hr : AllLed l) {m : Nat} (hm : m < l.length) : placesR l m = wantedN l m + callsN l m := by
  have := led_pos hr hm
  unfold wantedN callsN
  split
  · rfl
  · split <;> omega
theorem root_none {l : List Nd} (hv : Valid l) {m : Nat} (hm : m + 1 = l.length) : placesN l m = 0 := by
  unfold placesN
  rw [List.sum_eq_zero_iff_forall_eq_nat]
  intro v hvv
  obtain ⟨ks, hks, rfl⟩ := List.mem_map.1 hvv
  obtain ⟨x, hx, rfl⟩ := List.mem_map.1 hks
  obtain ⟨i, hi, rfl⟩ := List.mem_iff_getElem.1 hx
  refine List.count_eq_zero.2 fun hmem => ?_
  have := hv i l[i] (List.getElem?_eq_getElem hi) m hmem
  omega
/-! ### names -/
def NOk (first : Nat) (s : NS) : Prop := ∀ t n, s.at_ t = some n → n < first + s.labels.length
theorem nok_label {first : Nat} {s : NS} (h : NOk first s) (lab : ByteArray) : NOk first (nameLabel first lab s) := by
  unfold nameLabel
  split
  · exact h
  · intro t n hn
    simp only [List.length_append, List.length_singleton]
    unfold setF at hn
    simp only at hn
    split at hn
    · cases hn
      omega
    · have := h t n hn
      omega
theorem nok_name (P : List Part) (first : Nat) : ∀ (k n : Nat) (s : NS), NOk first s → NOk first (nameT P first k n s) := by
  intro k
  induction k with
  | zero => intro n s h; exact h
  | succ k ih =>
    intro n s h
    unfold nameT
    split
    · exact h
    · exact nok_label (foldl_inv (NOk first) (fun s j => nameT P first k j s) (fun b a hb => ih a b hb) (partOf P n).kids { s with seen := s.seen.set n true } (fun t m hm => h t m hm)) _
theorem names_ok (ms : List ByteArray) (l : List Nd) : NOk ms.length (namesL ms l) := by
  unfold namesL
  refine nok_name _ _ _ _ _ fun t n hn => ?_
  have h1 : ix ms t = some n := hn
  have := (List.getElem?_eq_some_iff.1 (ix_some h1)).1
  omega
theorem names_pos {l : List Nd} (hroot : rootN l < (partsL l).length) : 0 < (namesL [] l).labels.length := by
  have h := names_ok [] l
  unfold namesL at h ⊢
  rw [show rootN l + 1 = (rootN l) + 1 from rfl] at h ⊢
  rw [nameT] at h ⊢
  have hs : (names0 (partsL l) []).seen.getD (rootN l) false = false := by
    unfold names0
    rw [List.getD_eq_getElem?_getD, List.getElem?_replicate]
    split <;> rfl
  rw [hs] at h ⊢
  simp only [Bool.false_eq_true, if_false] at h ⊢
  unfold nameLabel at h ⊢
  split
  · rename_i hi
    rw [if_pos hi] at h
    obtain ⟨n, hn⟩ := Option.isSome_iff_exists.1 hi
    have h3 := h _ n hn
    simp only [List.length_nil, Nat.zero_add] at h3
    exact Nat.lt_of_le_of_lt (Nat.zero_le n) h3
  · simp
theorem at_low {l : List Nd} (hroot : rootN l < (partsL l).length) (s : ByteArray) : atW (namesL [] l).at_ s < ([] : List ByteArray).length + (namesL [] l).labels.length := by
  unfold atW
  have h := names_ok [] l
  have hp := names_pos hroot
  cases hs : (namesL [] l).at_ s with
  | none => simp; omega
  | some n => exact h s n hs
/-- All of it, of different nodes that are led to. -/
theorem same_backs {l : List Nd} (hv : Valid l) (h0 : 0 < l.length) (hr : AllLed l) (hd : l.Nodup) :
    (codesL [] l).codes.length = ((List.range l.length).map (wantedN l)).sum + ((List.range l.length).map (savedN l)).sum + ((List.range l.length).map (callsN l)).sum ∧
    (codesL [] l).codes.count (-1) = ((List.range l.length).map (savedN l)).sum ∧
    big (namesL [] l).labels.length (codesL [] l).codes = ((List.range l.length).map (callsN l)).sum ∧
    Shape (codesL [] l).codes ∧ ∀ c ∈ (codesL [] l).codes, c = -1 ∨ 0 ≤ c := by
  obtain ⟨hc, hroot⟩ := same_parts hv h0 hr hd
  have g := gf_on hv
  have hlen : (partsL l).length = l.length := by
    have := congrArg List.length hc
    rwa [List.length_map] at this
  obtain ⟨s1, s2⟩ := same_codes (ms := []) hv h0 hr hd
  have hpl : ∀ m, m < l.length → (partOf (partsL l) m).places = placesN l m := fun m hm => by
    have hq : (partsL l)[m]? = some (partOf (partsL l) m) := by
      have : m < (partsL l).length := by omega
      simp [partOf, this]
    rw [g.places m _ hq, same_kids hc]
    rfl
  have hreach : ∀ m, m < rootN l → 0 < (partOf (partsL l) m).places := fun m hm => by
    rw [hpl m (by omega)]
    have := led_pos hr (m := m) (by omega)
    unfold placesR at this
    rw [if_neg (by omega)] at this
    omega
  have hrl : rootN l < (partsL l).length := by omega
  obtain ⟨e, c, ha, hone⟩ := run_facts g.strict g.places (root := rootN l) (by omega) hreach (atW (namesL [] l).at_) (([] : List ByteArray).length + (namesL [] l).labels.length)
  have hB := trace_back (atW (namesL [] l).at_) (([] : List ByteArray).length + (namesL [] l).labels.length) (fun m => at_low hrl _) (rootN l + 1) (rootN l) ⟨codes0 (partsL l), [], []⟩ (back_start (partsL l) _)
  have hw : (traceT (partsL l) (atW (namesL [] l).at_) (([] : List ByteArray).length + (namesL [] l).labels.length) (rootN l + 1) (rootN l) ⟨codes0 (partsL l), [], []⟩).w = codesL [] l := by
    rw [trace_w]
    rfl
  have hexe : (traceT (partsL l) (atW (namesL [] l).at_) (([] : List ByteArray).length + (namesL [] l).labels.length) (rootN l + 1) (rootN l) ⟨codes0 (partsL l), [], []⟩).ex = e := by rw [ha.ex]; rfl
  have hcac : (traceT (partsL l) (atW (namesL [] l).at_) (([] : List ByteArray).length + (namesL [] l).labels.length) (rootN l + 1) (rootN l) ⟨codes0 (partsL l), [], []⟩).ca = c := by rw [ha.ca]; rfl
  have hbal := hB.bal
  have huns := hB.uns
  rw [hw, hexe, hcac] at hbal
  rw [hexe, hcac] at huns
  have hsh := hB.shape
  have hal := hB.all
  rw [hw] at hsh hal
  rw [show ([] : List ByteArray).length + (namesL [] l).labels.length = (namesL [] l).labels.length by simp] at hbal
  -- how often each is gone through
  have hcount : ∀ m, m < l.length → c.count m = placesR l m := by
    intro m hm
    have h1 := ha.count m
    have h2 := sum_range_eq (partsL l).length (fun j => (partOf (partsL l) j).kids.count m) e (fun j hj => by
      have hk : 0 < (partOf (partsL l) j).kids.length := by
        have := List.count_pos_iff.1 hj
        exact List.length_pos_of_mem this
      obtain ⟨k, hk2⟩ := List.exists_mem_of_length_pos hk
      exact ⟨(strict_of g.strict hk2).2, hone j hk⟩)
    rw [range_parts (partsL l) (fun q => q.kids.count m)] at h2
    have h3 : ((partsL l).map (fun q => q.kids.count m)).sum = placesN l m := by
      have := same_kids hc
      unfold placesN
      rw [← this, List.map_map]
      rfl
    rw [h1, h2, h3]
    unfold placesR
    simp only [List.count_cons, List.count_nil]
    by_cases e1 : m + 1 = l.length
    · have e2 : (rootN l == m) = true := by simp; omega
      rw [e2, if_pos e1]
      simp
      omega
    · have e2 : (rootN l == m) = false := by simp; omega
      rw [e2, if_neg e1]
      simp
  have hkk : ∀ m, (partOf (partsL l) m).kids = (l.getD m (ByteArray.empty, [])).2 := fun m => (same_at hc m).1
  have hecount : ∀ m, m < l.length → e.count m = wantedN l m := by
    intro m hm
    unfold wantedN
    split
    · rename_i hz
      rw [huns m (by unfold isSaved; rw [hkk m, hz]; simp), hcount m hm]
    · rename_i hz
      exact hone m (by rw [hkk m]; omega)
  have hclt : ∀ x ∈ c, x < l.length := fun x hx => by
    obtain ⟨h, hh, hl⟩ := ha.low x hx
    simp only [List.mem_singleton] at hh
    omega
  have helt : ∀ x ∈ e, x < l.length := fun x hx => by
    have := ha.sub x
    have h2 := List.count_pos_iff.2 hx
    exact hclt x (List.count_pos_iff.1 (by omega))
  have hel := sum_counts l.length e helt
  have hcl := sum_counts l.length c hclt
  rw [List.map_congr_left (fun m hm => hecount m (List.mem_range.1 hm))] at hel
  rw [List.map_congr_left (fun m hm => (hcount m (List.mem_range.1 hm)).trans (split_places hr (List.mem_range.1 hm))), sum_add] at hcl
  have hed : c.length = 1 + ((l.map Prod.snd).map List.length).sum := by
    have h1 := ha.len
    have h2 := sum_range_eq (partsL l).length (fun j => (partOf (partsL l) j).kids.length) e (fun j hj => by
      obtain ⟨k, hk2⟩ := List.exists_mem_of_length_pos hj
      exact ⟨(strict_of g.strict hk2).2, hone j hj⟩)
    rw [range_parts (partsL l) (fun q => q.kids.length)] at h2
    have h3 : ((partsL l).map (fun q => q.kids.length)).sum = ((l.map Prod.snd).map List.length).sum := by
      rw [← same_kids hc, List.map_map]
      rfl
    simp only [List.length_singleton] at h1
    omega
  exact ⟨by omega, s2, by omega, hsh, hal⟩
end Go.Proofs.Ytkonloadedbpkaa.FoldBack

namespace Go.Proofs.Ytkonloadedbpkaa.LeastP
open Go.RowKit Go.Proofs.Ytkonloadedbpkaa.FoldPure Go.Proofs.Ytkonloadedbpkaa.FoldMem Go.Proofs.Ytkonloadedbpkaa.FoldCount Go.Proofs.Ytkonloadedbpkaa.FoldSame Go.Proofs.Ytkonloadedbpkaa.FoldBack Go.Proofs.Ytkonloadedbpkaa.ShareP Go.Proofs.Ytkonloadedbpkaa.ShareR Go.Proofs.Ytkonloadedbpkaa.NamedP Go.Proofs.Ytkonloadedbpkaa.PFoldLossless
set_option linter.unusedVariables false

/-- Kids of what Share makes are no more than those of what came in. -/
theorem share_sum {l : List Nd} (hv : Valid l) (h0 : 0 < l.length) : ((shareN l).map (·.2.length)).sum ≤ (l.map (·.2.length)).sum := by
  have hex : ∀ p, ∃ i, p < (shareN l).length → Came l i p := fun p => by
    by_cases hp : p < (shareN l).length
    · obtain ⟨i, hi⟩ := came_from hv h0 hp
      exact ⟨i, fun _ => hi⟩
    · exact ⟨0, fun h => absurd h hp⟩
  obtain ⟨rep, hrep⟩ := Classical.axiomOfChoice hex
  have hB := came_bis hv h0
  have hlen : ∀ p (hp : p < (shareN l).length), (shareN l)[p].2.length = (nodeAt l (rep p)).2.length := fun p hp => by
    obtain ⟨hi, _, _, h2, _⟩ := hB _ _ (hrep p hp)
    rw [nodeAt_eq hi]
    exact h2.symm
  have e1 : (shareN l).map (·.2.length) = ((List.range (shareN l).length).map rep).map (fun i => (nodeAt l i).2.length) := by
    apply List.ext_getElem
    · simp
    · intro p h1 h2
      simp only [List.length_map] at h1
      simp only [List.getElem_map, List.getElem_range]
      exact hlen p h1
  have e2 : l.map (·.2.length) = (List.range l.length).map (fun i => (nodeAt l i).2.length) := by
    apply List.ext_getElem
    · simp
    · intro p h1 h2
      simp only [List.length_map] at h1
      simp only [List.getElem_map, List.getElem_range, nodeAt_eq h1]
  rw [e1, e2]
  refine sum_range l.length _ _ fun i hi => ⟨?_, ?_⟩
  · refine Classical.byContradiction fun hn => ?_
    have : nodeAt l i = (ByteArray.empty, []) := by
      unfold nodeAt
      rw [List.getD_eq_getElem?_getD, List.getElem?_eq_none (by omega)]
      rfl
    rw [this] at hi
    simp at hi
  · have key : ∀ n, n ≤ (shareN l).length → ((List.range n).map rep).count i ≤ 1 ∧ (∀ p, n ≤ p → p < (shareN l).length → rep p = i → ((List.range n).map rep).count i = 0) := by
      intro n
      induction n with
      | zero => intro _; exact ⟨by simp, fun p _ _ _ => by simp⟩
      | succ n ih =>
        intro hn
        obtain ⟨h1, h2⟩ := ih (by omega)
        rw [List.range_succ, List.map_append, List.count_append]
        by_cases e : rep n = i
        · have h3 := h2 n (Nat.le_refl _) (by omega) e
          refine ⟨by rw [h3]; simp [e], fun p hp hpl hpe => ?_⟩
          exfalso
          have a := (hrep n (by omega)).2
          have b := (hrep p hpl).2
          rw [e] at a
          rw [hpe, a] at b
          have := Option.some.inj b
          omega
        · have h4 : [rep n].count i = 0 := by simp [e]
          simp only [List.map_cons, List.map_nil]
          exact ⟨by omega, fun p hp hpl hpe => by have := h2 p (by omega) hpl hpe; omega⟩
    exact (key _ (Nat.le_refl _)).1
/-! ### places, while they are counted -/
def plA (m : List Nd) (i k j : Nat) : Nat := ((m.take i).map (fun x => x.2.count j)).sum + ((nodeAt m i).2.take k).count j
def plL (m : List Nd) (i k : Nat) : List Nat := (List.range m.length).map (plA m i k)
theorem plL_len (m : List Nd) (i k : Nat) : (plL m i k).length = m.length := by simp [plL]
theorem plL_zero (m : List Nd) : plL m 0 0 = List.replicate m.length 0 := by
  apply List.ext_getElem
  · simp [plL]
  · intro j h1 h2
    simp [plL, plA]
theorem plL_kid {m : List Nd} {i k : Nat} (hi : i < m.length) (hk : k < m[i].2.length) (hkid : m[i].2[k] < m.length) : plL m i (k + 1) = (plL m i k).set m[i].2[k] (plA m i k m[i].2[k] + 1) := by
  have step : ∀ j, plA m i (k + 1) j = plA m i k j + (if m[i].2[k] = j then 1 else 0) := by
    intro j
    unfold plA
    rw [nodeAt_eq hi, List.take_succ_eq_append_getElem hk, List.count_append, List.count_singleton]
    by_cases e : m[i].2[k] = j
    · simp [e]; omega
    · simp [e]
  apply List.ext_getElem
  · simp [plL]
  · intro j h1 h2
    rw [List.getElem_set]
    simp only [plL, List.getElem_map, List.getElem_range]
    rw [step]
    by_cases e : m[i].2[k] = j
    · rw [if_pos e, if_pos e, e]
    · rw [if_neg e, if_neg e]
      omega
theorem plL_next {m : List Nd} {i : Nat} (hi : i < m.length) : plL m i m[i].2.length = plL m (i + 1) 0 := by
  unfold plL
  refine List.map_congr_left fun j _ => ?_
  unfold plA
  rw [nodeAt_eq hi, List.take_length, List.take_succ_eq_append_getElem hi, List.map_append, List.sum_append]
  simp only [List.map_cons, List.map_nil, List.sum_cons, List.sum_nil, List.take_zero, List.count_nil]
  omega
theorem plA_le (m : List Nd) (i k j B : Nat) (hi : i ≤ m.length) (h : (m.map (·.2.length)).sum ≤ B) : plA m i k j ≤ B + B := by
  unfold plA
  have h1 : ((m.take i).map (fun x => x.2.count j)).sum ≤ ((m.take i).map (·.2.length)).sum := by
    have : ∀ t : List Nd, (t.map (fun x => x.2.count j)).sum ≤ (t.map (·.2.length)).sum := by
      intro t
      induction t with
      | nil => simp
      | cons x t ih =>
        simp only [List.map_cons, List.sum_cons]
        have := List.count_le_length (a := j) (l := x.2)
        omega
    exact this _
  have h2 : ((m.take i).map (·.2.length)).sum ≤ B := Nat.le_trans (Gather.sum_take m i) h
  have h3 : ((nodeAt m i).2.take k).count j ≤ B := by
    refine Nat.le_trans List.count_le_length ?_
    rw [List.length_take]
    rcases Nat.lt_or_ge i m.length with hlt | hge
    · rw [nodeAt_eq hlt]
      have := Gather.kids_le h hlt
      omega
    · have : nodeAt m i = (ByteArray.empty, []) := by
        unfold nodeAt
        rw [List.getD_eq_getElem?_getD, List.getElem?_eq_none hge]
        rfl
      rw [this]
      simp
  omega
theorem plL_end {m : List Nd} (h0 : 0 < m.length) : (plL m m.length 0).set (m.length - 1) (plA m m.length 0 (m.length - 1) + 1) = (List.range m.length).map (placesR m) := by
  have e : ∀ j, plA m m.length 0 j = placesN m j := by
    intro j
    unfold plA placesN
    rw [List.take_length, List.map_map]
    simp
    rfl
  apply List.ext_getElem
  · simp [plL]
  · intro j h1 h2
    simp only [List.length_map, List.length_range] at h2
    rw [List.getElem_set]
    simp only [plL, List.getElem_map, List.getElem_range]
    rw [e, e]
    unfold placesR
    by_cases h : m.length - 1 = j
    · rw [if_pos h, if_pos (by omega), h]
    · rw [if_neg h, if_neg (by omega)]
      omega
theorem savedR {m : List Nd} (hv : Valid m) {j : Nat} (hj : j < m.length) : savedN m j = if 0 < m[j].2.length ∧ 1 < placesR m j then 1 else 0 := by
  unfold savedN
  have e : m.getD j (ByteArray.empty, []) = m[j] := by rw [List.getD_eq_getElem?_getD, List.getElem?_eq_getElem hj]; rfl
  rw [e]
  by_cases h : j + 1 = m.length
  · have h1 := root_none hv h
    have h2 : placesR m j = 1 := by unfold placesR; rw [h1, if_pos h]
    rw [h1, h2, if_neg (by omega), if_neg (by omega)]
  · have h2 : placesR m j = placesN m j := by unfold placesR; rw [if_neg h]; omega
    rw [h2]
def upS (f : Nat → Nat) (i : Nat) : Nat := ((List.range i).map f).sum
theorem upS_succ (f : Nat → Nat) (i : Nat) : upS f (i + 1) = upS f i + f i := by
  unfold upS
  rw [List.range_succ, List.map_append, List.sum_append]
  simp
theorem wanted_at {m : List Nd} {j : Nat} (hj : j < m.length) : wantedN m j = (if m[j].2.length = 0 then placesR m j else 1) ∧ callsN m j = (if m[j].2.length = 0 then 0 else if 1 < placesR m j then placesR m j - 1 else 0) := by
  have e : m.getD j (ByteArray.empty, []) = m[j] := by rw [List.getD_eq_getElem?_getD, List.getElem?_eq_getElem hj]; rfl
  unfold wantedN callsN
  rw [e]
  exact ⟨rfl, rfl⟩
/-- The sums stay small. -/
theorem small (m : List Nd) (hv : Valid m) (hr : AllLed m) (B : Nat) (hl : m.length ≤ B) (h : (m.map (·.2.length)).sum ≤ B) : ∀ i, i ≤ m.length → upS (wantedN m) i ≤ i * (2 * B + 2) ∧ upS (savedN m) i ≤ i ∧ upS (callsN m) i ≤ i * (2 * B + 2) := by
  intro i
  induction i with
  | zero => intro _; simp [upS]
  | succ i ih =>
    intro hi
    obtain ⟨h1, h2, h3⟩ := ih (by omega)
    rw [upS_succ, upS_succ, upS_succ]
    have hp := split_places hr (m := i) (by omega)
    have hle : placesR m i ≤ 2 * B + 1 := by
      have e : plA m m.length 0 i = placesN m i := by
        unfold plA placesN
        rw [List.take_length, List.map_map]
        simp
        rfl
      have := plA_le m m.length 0 i B (Nat.le_refl _) h
      unfold placesR
      split <;> omega
    have hs : savedN m i ≤ 1 := by unfold savedN; split <;> omega
    rw [Nat.add_mul, Nat.one_mul]
    exact ⟨by omega, by omega, by omega⟩
end Go.Proofs.Ytkonloadedbpkaa.LeastP

namespace Go.Proofs.Ytkonloadedbpkaa.EmptyW
open Go.RowKit Go.Maps Go.Proofs.Ytkonloadedbpkaa.Sep Go.Proofs.Ytkonloadedbpkaa.FoldPure Go.Proofs.Ytkonloadedbpkaa.FoldMem Go.Proofs.Ytkonloadedbpkaa.NodeMem Go.Proofs.Ytkonloadedbpkaa.RowsOf Go.Proofs.Ytkonloadedbpkaa.NamedP Go.Proofs.Ytkonloadedbpkaa.NodesIn Go.Proofs.Ytkonloadedbpkaa.PFoldLossless
open Go.Proofs.YtkonloadedbpkaaW.PrintWords
set_option linter.unusedVariables false
set_option linter.unusedSimpArgs false
set_option maxRecDepth 100000

set_option maxHeartbeats 4000000 in
theorem none_empty (A : Option Addr) (c : Nat) (w : World) : Calls Try.prog 46 #[.slice A 0 c] w fun e w' => e = .returned (.bool true) ∧ Below w.heap.size w w' := by
  go_enter Try.func46, Try.ntmps46
  go_wp2
  go_loopw [9] (fun v9 wr => v9 = .int .i64 0 ∧ wr = w) (fun _ _ => 0)
  case atStart => exact ⟨rfl, rfl⟩
  case round =>
    obtain ⟨rfl, rfl⟩ := hrel
    go_wp2
    go_ret
    exact ⟨rfl, Below.refl _ _⟩
set_option maxHeartbeats 4000000 in
theorem share_empty (A : Option Addr) (c : Nat) (w : World) : Calls Try.prog 27 #[.slice A 0 c] w fun e w' => e = .returned (.slice none 0 0) ∧ Below w.heap.size w w' := by
  go_enter Try.func27, Try.ntmps27
  go_wp2_with fail
  refine (none_empty _ _ _).mono ?_
  rintro e w1 ⟨rfl, hb⟩
  have HB := Aside0.mk (((Below.refl _ w).alloc (Nat.le_refl _) (.cells #[.slice A 0 c] 24)).trans (hb.mono (by simp)))
  clear hb
  go_wp2_with fail
  go_ret
  exact ⟨rfl, HB.out⟩
def toS2 (z : ByteArray × List Int) : S27 := ⟨z.1, z.2⟩
theorem rd_toS2 (zs : List (ByteArray × List Int)) (i : Nat) (B : Nat) (h : (zs.map (·.2.length)).sum ≤ B) : (rd_T27 (zs.map toS2) (i : Int)).f1.length ≤ B := by
  unfold rd_T27
  rw [Int.toNat_natCast, List.getD_eq_getElem?_getD, List.getElem?_map]
  cases hz : zs[i]? with
  | none => simp [z27]
  | some z =>
    simp only [Option.map_some, Option.getD_some]
    have hm : z.2.length ∈ zs.map (·.2.length) := List.mem_map_of_mem (List.mem_of_getElem? hz)
    have := FoldSame.mem_le_sum hm
    show z.2.length ≤ B
    omega
/-- The nodes that named makes of those that came in. -/
def namedZ (zs : List (ByteArray × List Int)) : List Nd := namedL (zs.map toS2)
theorem namedZ_len (zs : List (ByteArray × List Int)) : (namedZ zs).length = zs.length := by unfold namedZ; rw [namedL_len, List.length_map]
theorem namedZ_sum (zs : List (ByteArray × List Int)) : ((namedZ zs).map (·.2.length)).sum ≤ (zs.map (·.2.length)).sum := by
  have key : ∀ i, i ≤ zs.length → ((namedTo (zs.map toS2) i).map (·.2.length)).sum ≤ ((zs.take i).map (·.2.length)).sum := by
    intro i
    induction i with
    | zero => intro _; simp [namedTo]
    | succ i ih =>
      intro hi
      have h1 := ih (by omega)
      have h2 := named_kids_le (zs.map toS2) (i := i) (by rw [List.length_map]; omega)
      have h3 : (rd_T27 (zs.map toS2) (i : Int)).f1.length = (zs[i]'(by omega)).2.length := by
        unfold rd_T27
        rw [Int.toNat_natCast, List.getD_eq_getElem?_getD, List.getElem?_map, List.getElem?_eq_getElem (by omega)]
        rfl
      rw [namedTo, List.map_append, List.sum_append, List.take_succ_eq_append_getElem (by omega), List.map_append, List.sum_append]
      simp only [List.map_cons, List.map_nil, List.sum_cons, List.sum_nil]
      omega
  have h := key zs.length (Nat.le_refl _)
  rw [List.take_length] at h
  unfold namedZ namedL
  rw [List.length_map]
  exact h
theorem namedZ_lab {zs : List (ByteArray × List Int)} (h : (zs.map (·.2.length)).sum ≤ 1048576) : ∀ x ∈ namedZ zs, x.1.size ≤ maxLen := by
  intro x hx
  obtain ⟨b, hb, e⟩ := named_lab (zs.map toS2) x hx
  have h1 : x.2.length ≤ 1048576 := by
    have := FoldSame.mem_le_sum (List.mem_map_of_mem (f := fun x : Nd => x.2.length) hx)
    have := namedZ_sum zs
    omega
  rw [e, labI_size]
  have : b.size ≤ 1 := by rcases hb with rfl | rfl <;> decide
  unfold maxLen
  omega
/-- named, called. -/
theorem named_calls {W w : World} {rs : List Res} {A : Option Addr} {c : Nat} {zs : List (ByteArray × List Int)} (M : Sep W w rs) (hC : Kd.C kP w A zs.length zs) (hc : zs.length ≤ c) (hl : zs.length ≤ 1048576) (he : (zs.map (·.2.length)).sum ≤ 1048576) :
    Calls Try.prog 13 #[.slice A zs.length c] w fun e w' => ∃ items A' c', e = .returned (.slice A' zs.length c') ∧ items.map nd = namedZ zs ∧ items.length = zs.length ∧ zs.length ≤ c' ∧ Sep W w' (rowR 27 2 (.slice A' zs.length c') zs.length (nodeCells items) :: kidsR items :: rs) := by
  obtain ⟨k, hk⟩ := named_f (zs.map toS2) (by rw [List.length_map]; omega) (fun i => by have := rd_toS2 zs i 1048576 he; omega)
  have hC2 : Kd.C k27 w A (zs.map toS2).length (zs.map toS2) := by
    rw [List.length_map]
    exact iso_C (d := kP) (f := fun x : S27 => (x.f0, x.f1)) (g := toS2) (fun x => rfl) hC
  have h := lemmalaw16_named.calls k A c (zs.map toS2) _ w hC2 (by rw [List.length_map]; exact hc) hk
  rw [List.length_map] at h
  refine h.mono ?_
  rintro e w' ⟨v, rfl, hS, hb⟩
  have hR := iso_R (Kd.S_R hS)
  rw [List.map_map] at hR
  have e1 : ((fun x : S27 => (x.f0, x.f1)) ∘ toL) = toP := rfl
  rw [e1] at hR
  have hR2 : Kd.R kP 27 w' w.heap.size (fun _ => True) v ((namedZ zs).map toP) := by
    unfold namedZ namedL
    rw [List.length_map]
    exact hR
  obtain ⟨items, A', c', rfl, h1, h2, h3, hm⟩ := rows_of M hR2 hb
  rw [namedZ_len] at h2 h3 hm ⊢
  exact ⟨items, A', c', rfl, h1, h2, h3, hm⟩
end Go.Proofs.Ytkonloadedbpkaa.EmptyW
