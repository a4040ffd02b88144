/- SortA, SortB. -/
import Derived.Test.YtcfocbfocemapaaGreatU1
import Derived.Test.YtcfocbfocemapaaGreatU5
import Derived.Sort.OwnSorted
namespace Go.Proofs.YtcfocbfocemapaaGreat.SortA
open Go.RowKit Go.Maps Go.Sort Go.Shelf Go.Lib Go.Proofs.YtcfocbfocemapaaGreat.Sep Go.Proofs.YtcfocbfocemapaaGreat.Mem Go.Proofs.YtcfocbfocemapaaGreat.Sets Go.Proofs.YtcfocbfocemapaaGreat.DistA Go.Proofs.YtcfocbfocemapaaGreat.IterA Go.Proofs.YtcfocbfocemapaaGreat.IterB Go.Proofs.YtcfocbfocemapaaGreat.LibA
open Go.Proofs.YtcfocbfocemapaaGreatW.PrintWords (Aside0 Drawn0 own_move)
set_option linter.unusedVariables false
set_option linter.unusedSimpArgs false
set_option maxRecDepth 100000

/-- A bind in memory: its variable, where its list lies. -/
structure BM where
  x : Int
  A : Option Addr
  n : Nat
  c : Nat
instance : Inhabited BM := ⟨⟨0, none, 0, 0⟩⟩
def encB (b : BM) : List Value := [.int .i64 b.x, .slice b.A b.n b.c]
def encQ (p : PI) : List Value := [.int .i64 p.1, .int .i64 p.2]
def cmpB (a b : BM) : Int := compareInt a.x b.x
def cmpQ (p q : PI) : Int := if p.1 = q.1 then compareInt p.2 q.2 else compareInt p.1 q.1
theorem lt_cmp (x y : Int) : decide (compareInt x y < 0) = decide (x < y) := by
  unfold compareInt
  by_cases h1 : x < y
  · simp [h1]
  · by_cases h2 : y < x <;> simp [h1, h2]
theorem ltB (a b : BM) : ltOf cmpB a b = decide (a.x < b.x) := lt_cmp a.x b.x
theorem ltQ (p q : PI) : ltOf cmpQ p q = decide (p.1 < q.1 ∨ p.1 = q.1 ∧ p.2 < q.2) := by
  unfold ltOf cmpQ
  by_cases h : p.1 = q.1
  · rw [if_pos h, lt_cmp]
    simp [h]
  · rw [if_neg h, lt_cmp]
    simp [h]
theorem swoB : SWO (ltOf cmpB) where
  irrefl x := by rw [ltB]; simp
  trans x y z h1 h2 := by rw [ltB] at *; simp at *; omega
  ntrans x y z h1 h2 := by rw [ltB] at *; simp at *; omega
theorem swoQ : SWO (ltOf cmpQ) where
  irrefl x := by rw [ltQ]; simp
  trans x y z h1 h2 := by rw [ltQ] at *; simp at *; omega
  ntrans x y z h1 h2 := by rw [ltQ] at *; simp at *; omega
set_option maxHeartbeats 1000000 in
theorem closure79 (a b : BM) (W : World) : Calls Tryz.prog 79 #[.agg (encB a).toArray, .agg (encB b).toArray] W fun e w' => e = .returned (.int .i64 (cmpB a b)) ∧ ∃ q os', w' = grow (W.drewN q) os' := by
  obtain ⟨x, A, n, c⟩ := a
  obtain ⟨y, B, m, d⟩ := b
  unfold encB cmpB
  simp only
  by_cases h1 : x < y
  · have e : compareInt x y = -1 := by unfold compareInt; rw [if_pos h1]
    rw [e]
    go_enter Tryz.func79, Tryz.ntmps79
    go_wp2
    go_ret
    exact ⟨rfl, 0, _, by rw [alloc_eq_grow, alloc_eq_grow, grow_grow]; rfl⟩
  · by_cases h2 : x > y
    · have e : compareInt x y = 1 := by unfold compareInt; rw [if_neg h1, if_pos h2]
      rw [e]
      have h3 : y < x := h2
      go_enter Tryz.func79, Tryz.ntmps79
      go_wp2
      go_ret
      exact ⟨rfl, 0, _, by rw [alloc_eq_grow, alloc_eq_grow, grow_grow]; rfl⟩
    · have e : compareInt x y = 0 := by unfold compareInt; rw [if_neg h1, if_neg h2]
      rw [e]
      have h3 : ¬ y < x := h2
      go_enter Tryz.func79, Tryz.ntmps79
      go_wp2
      go_ret
      exact ⟨rfl, 0, _, by rw [alloc_eq_grow, alloc_eq_grow, grow_grow]; rfl⟩
set_option maxHeartbeats 1000000 in
theorem closure100 (p q : PI) (W : World) : Calls Tryz.prog 100 #[.agg (encQ p).toArray, .agg (encQ q).toArray] W fun e w' => e = .returned (.int .i64 (cmpQ p q)) ∧ ∃ q os', w' = grow (W.drewN q) os' := by
  obtain ⟨a, b⟩ := p
  obtain ⟨c, d⟩ := q
  have h1 : ∀ W', Calls Tryz.prog 101 #[.int .i64 a, .int .i64 c] W' fun e w' => e = .returned (.int .i64 (compareInt a c)) ∧ w' = W' := fun W' => AnyG.cmp_Compare_int cmpI a c W'
  have h2 : ∀ W', Calls Tryz.prog 101 #[.int .i64 b, .int .i64 d] W' fun e w' => e = .returned (.int .i64 (compareInt b d)) ∧ w' = W' := fun W' => AnyG.cmp_Compare_int cmpI b d W'
  unfold encQ cmpQ
  simp only
  generalize compareInt a c = r1 at *
  generalize compareInt b d = r2 at *
  go_enter Tryz.func100, Tryz.ntmps100
  by_cases h : a = c
  · subst h
    rw [if_pos rfl]
    go_wp2_with fail
    refine (h2 _).mono ?_
    rintro e w1 ⟨rfl, rfl⟩
    go_wp2_with fail
    go_ret
    exact ⟨rfl, 0, _, by rw [alloc_eq_grow, alloc_eq_grow, grow_grow]; rfl⟩
  · rw [if_neg h]
    go_wp2_with fail
    refine (h1 _).mono ?_
    rintro e w1 ⟨rfl, rfl⟩
    go_wp2_with fail
    go_ret
    exact ⟨rfl, 0, _, by rw [alloc_eq_grow, alloc_eq_grow, grow_grow]; rfl⟩
end Go.Proofs.YtcfocbfocemapaaGreat.SortA

namespace Go.Proofs.YtcfocbfocemapaaGreat.SortB
open Go.RowKit Go.Maps Go.Sort Go.Shelf Go.Lib Go.Proofs.YtcfocbfocemapaaGreat.Sep Go.Proofs.YtcfocbfocemapaaGreat.Mem Go.Proofs.YtcfocbfocemapaaGreat.Sets Go.Proofs.YtcfocbfocemapaaGreat.DistA Go.Proofs.YtcfocbfocemapaaGreat.IterA Go.Proofs.YtcfocbfocemapaaGreat.IterB Go.Proofs.YtcfocbfocemapaaGreat.LibA Go.Proofs.YtcfocbfocemapaaGreat.SortA
open Go.Proofs.YtcfocbfocemapaaGreatW.PrintWords (Aside0 Drawn0 own_move)
set_option linter.unusedVariables false
set_option linter.unusedSimpArgs false
set_option maxRecDepth 100000

/-! ### rows of elements of two cells -/
section
variable {α : Type} [Inhabited α] {enc : α → List Value}
theorem flat_two (hk : ∀ x, (enc x).length = 2) (l : List α) : (flatK enc 2 l.toArray).toList = l.flatMap enc := by
  apply List.ext_getElem?
  intro t
  have hlen : ∀ l : List α, (l.flatMap enc).length = l.length * 2 := fun l => by
    induction l with
    | nil => rfl
    | cons a l ih => rw [List.flatMap_cons, List.length_append, ih, hk]; simp; omega
  by_cases ht : t < l.length * 2
  · have h1 : (flatK enc 2 l.toArray)[t]! = (enc l.toArray[t / 2]!)[t % 2]! := get_flatK enc 2 l.toArray t (by simpa using ht)
    have hs : t < (flatK enc 2 l.toArray).size := by rw [size_flatK]; simpa using ht
    rw [Array.getElem?_toList, Array.getElem?_eq_getElem hs, ← getElem!_pos _ t hs, h1]
    clear h1 hs
    have hi : t / 2 < l.length := by omega
    rw [getElem!_pos l.toArray (t / 2) (by simpa using hi)]
    have hc : t % 2 < 2 := Nat.mod_lt _ (by omega)
    rw [getElem!_pos _ (t % 2) (by rw [hk]; exact hc), List.getElem?_eq_getElem (by rw [hlen]; exact ht)]
    congr 1
    have e : t = t / 2 * 2 + t % 2 := by omega
    have key : ∀ (l : List α) (i c : Nat) (hi : i < l.length) (hc : c < 2) (h : i * 2 + c < (l.flatMap enc).length), (enc l[i])[c]'(by rw [hk]; exact hc) = (l.flatMap enc)[i * 2 + c] := by
      intro l
      induction l with
      | nil => intro i c hi; simp at hi
      | cons a l ih =>
        intro i c hi hc h
        cases i with
        | zero =>
          simp only [List.flatMap_cons, List.getElem_cons_zero]
          rw [List.getElem_append_left (by rw [hk]; omega)]
          congr 1
          omega
        | succ i =>
          simp only [List.flatMap_cons, List.getElem_cons_succ]
          rw [List.getElem_append_right (by rw [hk]; omega)]
          have := ih i c (by simpa using hi) hc (by rw [hlen]; have := hi; simp at this; omega)
          rw [this]
          congr 1
          rw [hk]
          omega
    have := key l (t / 2) (t % 2) hi hc (by rw [hlen]; omega)
    simp only [List.getElem_toArray]
    rw [this]
    congr 1
    omega
  · rw [List.getElem?_eq_none (by rw [Array.length_toList, size_flatK]; simpa using ht), List.getElem?_eq_none (by rw [hlen]; omega)]
theorem holds_two (hk : ∀ x, (enc x).length = 2) {w : World} {g : Nat} {cur : Array Value} {e : TypeId} {l : List α} (hb : w.heap[g]? = some (.cells cur e (0, 0))) (ht : cur.toList.take (l.length * 2) = l.flatMap enc) : HoldsK enc 2 w g 0 l.toArray := by
  intro j hj
  have hj' : j < l.length * 2 := by rw [size_flatK] at hj; simpa using hj
  refine ⟨?_, by simp [World.frozen?, hb]⟩
  have h1 : (cur.toList.take (l.length * 2))[j]? = (flatK enc 2 l.toArray).toList[j]? := by rw [ht, flat_two hk]
  rw [List.getElem?_take_of_lt hj'] at h1
  simp only [World.cell?, hb, Nat.zero_add]
  simp only [Option.isSome_none, Bool.false_eq_true, if_false]
  rw [← Array.getElem?_toList, h1, Array.getElem?_toList, Array.getElem?_eq_getElem hj, getElem!_pos _ j hj]
  rfl
theorem heap_put {w : World} {g n : Nat} {os : Array Obj} {cur : Array Value} {e : TypeId} {fr : Nat × Nat} (F : Array Value) (hb : w.heap[g]? = some (.cells cur e fr)) :
    (grow (putRow id (Sort.ahead w n) g 0 F) os).heap[g]? = some (.cells (putCells id 0 F cur) e fr) := by
  have hg : g < w.heap.size := (Array.getElem?_eq_some_iff.1 hb).1
  rw [heap_grow_old _ _ (by simpa using hg)]
  simp [putRow, mapBlock, Sort.ahead, Array.getElem?_modify, hb, onCells]
theorem grown_put {w : World} {g n : Nat} {os : Array Obj} (F : Array Value) : w.grownBy (grow (putRow id (Sort.ahead w n) g 0 F) os) (some g) := by
  refine ⟨rfl, rfl, rfl, by simp, fun k hk hne => ?_⟩
  rw [heap_grow_old _ _ (by simpa using hk)]
  have : g ≠ k := fun e => hne (by rw [e])
  simp [putRow, mapBlock, Sort.ahead, Array.getElem?_modify, this]
theorem take_put (cur F : Array Value) (h : F.size ≤ cur.size) : (putCells id 0 F cur).toList.take F.size = F.toList := by
  apply List.ext_getElem?
  intro j
  by_cases hj : j < F.size
  · rw [List.getElem?_take_of_lt hj, Array.getElem?_toList, Array.getElem?_toList]
    simp [putCells, hj, show j < cur.size by omega]
  · rw [List.getElem?_take_eq_none (by omega), List.getElem?_eq_none (by simp; omega)]
/-- Behind the sort: the same list of one's own, permuted. -/
theorem row_sorted (hk : ∀ x, (enc x).length = 2) {w : World} {base g cap n : Nat} {e : TypeId} {os : Array Obj} {cur : Array Value} {l : List α} (hbase : base ≤ g) (hb : w.heap[g]? = some (.cells cur e (0, 0)))
    (h1 : l.length ≤ cap) (h2 : cap ≤ maxLen) (h3 : cur.size = cap * 2) :
    (grow (putRowK enc 2 (Sort.ahead w n) g 0 l.toArray) os).ownsRow base e 2 (.slice (some ⟨g, 0, none⟩) l.length cap) l.length (l.flatMap enc) := by
  have hs : (flatK enc 2 l.toArray).size = l.length * 2 := by rw [size_flatK]; simp
  have hl : (l.flatMap enc).length = l.length * 2 := by rw [← flat_two hk, Array.length_toList, hs]
  refine ⟨hl, .inr ⟨g, cap, _, rfl, hbase, heap_put _ hb, h1, h2, by simp [putCells, h3], ?_⟩⟩
  rw [← hs, take_put _ _ (by rw [hs]; omega), flat_two hk]
end
theorem perm_list {α : Type} [Inhabited α] {d d' : Array α} (h : PermIn 0 d.size d d') : d'.toList.Perm d.toList := by
  obtain ⟨hs, _, hp⟩ := h
  have e : List.take d'.size d.toList = d.toList := List.take_of_length_le (by simp [hs])
  have h2 : d'.toList.Perm (List.take d'.size d.toList) := by simpa [← hs, Array.extract_size] using hp
  rw [e] at h2
  exact h2
theorem sorted_list {α : Type} [Inhabited α] {lt : α → α → Bool} {d : Array α} {n : Nat} (hn : d.size = n) (h : SortedIn lt 0 n d) : d.toList.Pairwise (fun a b => lt b a = false) := by
  rw [List.pairwise_iff_getElem]
  intro i j hi hj hij
  have := h i j (Nat.zero_le _) hij (by rw [← hn]; simpa using hj)
  rw [getElem!_pos d j (by simpa using hj), getElem!_pos d i (by simpa using hi)] at this
  simpa using this

/-- Pairs in order: by the first, then by the second; each once. -/
def Ordered (ss : List PI) : Prop := ss.Pairwise (fun p q => p.1 < q.1 ∨ p.1 = q.1 ∧ p.2 < q.2)
theorem cmpLays100 (blk off size : Nat) (w : World) : CmpLays Tryz.prog 100 #[] encQ 2 cmpQ blk off size w := fun _ _ _ _ x y => closure100 x y _
theorem cmpLays79 (blk off size : Nat) (w : World) : CmpLays Tryz.prog 79 #[] encB 2 cmpB blk off size w := fun _ _ _ _ x y => closure79 x y _
theorem isAgg50 (w : World) : (isAgg 50).run Tryz.prog w = .ok true w := by kernel_rfl
theorem sizeOf50 (w : World) : (Go.sizeOf 50).run Tryz.prog w = .ok 2 w := by kernel_rfl
theorem isAgg101 (w : World) : (isAgg 101).run Tryz.prog w = .ok true w := by kernel_rfl
theorem sizeOf101 (w : World) : (Go.sizeOf 101).run Tryz.prog w = .ok 2 w := by kernel_rfl
/-- slices.SortFunc of pairs, a list of one's own. -/
theorem sortQ_calls {w : World} {base g cap : Nat} {cur : Array Value} {l : List PI} (hbase : base ≤ g) (hb : w.heap[g]? = some (.cells cur 50 (0, 0))) (h1 : l.length ≤ cap) (h2 : cap ≤ maxLen) (h3 : cur.size = cap * 2) (h4 : cur.toList.take (l.length * 2) = pairCells l) (hl : l.length < 4611686018427387904) :
    Calls Tryz.prog 117 #[.slice (some ⟨g, 0, none⟩) l.length cap, .func (.func 100) #[] #[]] w fun e w' => e = .returned (.tuple #[]) ∧ ∃ l' : List PI, l'.Perm l ∧ l'.Pairwise (fun a b => ltOf cmpQ b a = false) ∧ w'.ownsRow base 50 2 (.slice (some ⟨g, 0, none⟩) l.length cap) l.length (pairCells l') ∧ w.grownBy w' (some g) := by
  have eg : ∀ args w, (callFunc 100 args).run Tryz.prog w = .ok (.enter 100 args) w := enters_of Tryz.func100 (by kernel_rfl) rfl
  have hcon := AnyQ.slices_SortFunc sortP 2 isAgg50 sizeOf50 encQ (fun _ => rfl) (fun x v hv => by simp [encQ] at hv; rcases hv with rfl | rfl <;> rfl) cmpQ swoQ 100 #[] g 0 cap l.toArray w eg (cmpLays100 g 0 _ w) (holds_two (fun _ => rfl) hb h4) (Array.getElem?_eq_some_iff.1 hb).1 (by simpa using hl)
  refine Calls.mono hcon ?_
  rintro e w' ⟨rfl, d', n, os, hp, hs, rfl⟩
  obtain ⟨l', rfl⟩ : ∃ l', d' = List.toArray l' := ⟨d'.toList, by simp⟩
  have hp2 : l'.Perm l := by simpa using perm_list hp
  have hs2 := sorted_list (d := l'.toArray) (by simpa using hp2.length_eq) hs
  refine ⟨rfl, l', hp2, by simpa using hs2, ?_, grown_put _⟩
  have := row_sorted (enc := encQ) (fun _ => rfl) (n := n) (os := os) hbase hb (l := l') (by rw [hp2.length_eq]; exact h1) h2 h3
  rw [hp2.length_eq] at this
  exact this

/-- The pairs of a set, in order. -/
def ListOf (f : PI → Bool) (ss : List PI) : Prop := Ordered ss ∧ (∀ x ∈ ss, PairOK x) ∧ ∀ x, PairOK x → (x ∈ ss ↔ f x = true)
theorem ordered_of {ss : List PI} (hn : ss.Nodup) (hp : ss.Pairwise (fun a b => ltOf cmpQ b a = false)) : Ordered ss := by
  have h := hp.and hn
  refine h.imp ?_
  rintro ⟨a1, a2⟩ ⟨b1, b2⟩ ⟨h1, h2⟩
  rw [ltQ] at h1
  simp only [ne_eq, Prod.mk.injEq, decide_eq_false_iff_not] at h1 h2
  simp only
  omega
set_option maxHeartbeats 4000000 in
theorem sorted_calls {w : World} {Bm b g : Nat} {f : PI → Bool} (hm : w.cell? ⟨Bm, 0, none⟩ = some (.map (some b))) (hs : SetIs sP w b g f) (hg : g ≤ 4398046511104) :
    Calls Tryz.prog 98 #[.func (.func 118) #[] #[.pointer (some ⟨Bm, 0, none⟩)], .func (.func 100) #[] #[]] w fun e w' => ∃ (v : Value) (ss : List PI), e = .returned v ∧ ListOf f ss ∧ ss.length ≤ g ∧ w'.ownsRow w.heap.size 50 2 v ss.length (pairCells ss) ∧ Below w.heap.size w w' := by
  have hc := collect_calls hm hs hg
  clear hm hs
  go_enter Tryz.func98, Tryz.ntmps98
  go_wp2_with fail
  refine hc.mono ?_
  clear hc
  rintro e w1 ⟨v, ss, rfl, ⟨hK, hlg⟩, hr, hb⟩
  have HL := Aside0.mk hlg
  have HK := Aside0.mk hK
  have HB := Aside0.mk hb
  rcases hr.2 with ⟨rfl, h0⟩ | ⟨gb, cap, cur, rfl, hbase, hgb, r1, r2, r3, r4⟩
  · have hss : ss = [] := List.eq_nil_of_length_eq_zero h0
    subst hss
    have HR := Aside0.mk hr
    have hn := LibB.none117 none 0 (.func (.func 100) #[] #[]) w1
    clear hr hK hb h0 hlg
    go_wp2_with fail
    refine hn.mono ?_
    clear hn
    rintro e w2 ⟨rfl, rfl⟩
    go_wp2_with fail
    go_ret
    exact ⟨_, [], rfl, ⟨List.Pairwise.nil, by simp, HK.out.2.2⟩, by simp, HR.out, HB.out⟩
  · have hl : ss.length < 4611686018427387904 := by omega
    have hs := sortQ_calls hbase hgb r1 r2 r3 r4 hl
    clear hr hK hb r1 r2 r3 r4 hl hlg
    go_wp2_with fail
    refine hs.mono ?_
    clear hs hgb
    rintro e w2 ⟨rfl, l', hp, hso, hrow, hgr⟩
    have HP := Aside0.mk hp
    have HO := Aside0.mk hso
    have HR := Aside0.mk hrow
    have HG := Aside0.mk hgr
    clear hp hso hrow hgr
    go_wp2_with fail
    go_ret
    have hK := HK.out
    refine ⟨_, l', rfl, ⟨ordered_of (HP.out.nodup_iff.2 hK.1) HO.out, fun x hx => hK.2.1 x (HP.out.mem_iff.1 hx), fun x hx => ?_⟩, ?_, ?_, HB.out.grown HG.out HB.out.size (fun k hk => by cases hk; exact hbase)⟩
    · rw [HP.out.mem_iff, hK.2.2 x hx]
    · rw [HP.out.length_eq]; exact HL.out
    · rw [HP.out.length_eq]; exact HR.out
end Go.Proofs.YtcfocbfocemapaaGreat.SortB
