/- VarP, VarL, VarW. -/
import Derived.Test.YtcfocbfocemapaaGreatProg
import Derived.Shelf.Lays2
import Derived.Shelf.Slices.SearchI
import Derived.Shelf.Slices.Empties
import Derived.Shelf.Spec.SlicesInsert
import Derived.Shelf.Spec.SlicesInsertGrow
import Derived.Test.YtcfocbfocemapaaGreatU9
import Derived.Lib.Hide
namespace Go.Proofs.YtcfocbfocemapaaGreat.VarP

/-- Rising, and just the elements of e that V names. -/
structure Picks (V : Int → Bool) (e out : List Int) : Prop where
  rising : out.Pairwise (· < ·)
  mem : ∀ x, x ∈ out ↔ x ∈ e ∧ V x = true
/-! ### the program's way -/
def ins (out : List Int) (x : Int) : List Int := out.take (out.countP (· < x)) ++ x :: out.drop (out.countP (· < x))
theorem cut_at (x : Int) : ∀ (l : List Int), l.Pairwise (· < ·) → l.take (l.countP (· < x)) = l.filter (· < x) ∧ l.drop (l.countP (· < x)) = l.filter (fun y => !decide (y < x))
  | [], _ => by simp
  | a :: l, h => by
    rw [List.pairwise_cons] at h
    obtain ⟨h1, h2⟩ := cut_at x l h.2
    by_cases hax : a < x
    · have hc : (a :: l).countP (· < x) = l.countP (· < x) + 1 := by rw [List.countP_cons]; simp [hax]
      rw [hc]
      simp only [List.take_succ_cons, List.drop_succ_cons, List.filter_cons, hax, decide_true, if_true, Bool.not_true, Bool.false_eq_true, if_false]
      exact ⟨by rw [h1], h2⟩
    · have hall : ∀ y ∈ l, ¬ y < x := fun y hy => by have := h.1 y hy; omega
      have hc : (a :: l).countP (· < x) = 0 := by
        rw [List.countP_eq_zero]
        intro y hy
        rcases List.mem_cons.1 hy with e | e
        · subst e; simpa using hax
        · simpa using hall y e
      have hf : l.filter (· < x) = [] := by
        rw [List.filter_eq_nil_iff]
        intro y hy
        simpa using hall y hy
      have hf2 : l.filter (fun y => !decide (y < x)) = l := by
        rw [List.filter_eq_self]
        intro y hy
        simpa using hall y hy
      rw [hc]
      simp only [List.take_zero, List.drop_zero, List.filter_cons, hax, decide_false, Bool.false_eq_true, if_false, Bool.not_false, if_true]
      exact ⟨hf.symm, by rw [hf2]⟩
theorem ins_mem {out : List Int} {x : Int} : ∀ y, y ∈ ins out x ↔ y = x ∨ y ∈ out := by
  intro y
  unfold ins
  have e : ∀ n, y ∈ out.take n ++ x :: out.drop n ↔ y = x ∨ y ∈ out := fun n => by
    rw [List.mem_append, List.mem_cons]
    have : y ∈ out ↔ y ∈ out.take n ∨ y ∈ out.drop n := by rw [← List.mem_append, List.take_append_drop]
    rw [this]
    constructor
    · rintro (h | h | h)
      · exact .inr (.inl h)
      · exact .inl h
      · exact .inr (.inr h)
    · rintro (h | h | h)
      · exact .inr (.inl h)
      · exact .inl h
      · exact .inr (.inr h)
  exact e _
theorem ins_rising {out : List Int} {x : Int} (h : out.Pairwise (· < ·)) (hx : x ∉ out) : (ins out x).Pairwise (· < ·) := by
  unfold ins
  obtain ⟨h1, h2⟩ := cut_at x out h
  rw [h1, h2, List.pairwise_append, List.pairwise_cons]
  refine ⟨h.sublist List.filter_sublist, ⟨fun y hy => ?_, h.sublist List.filter_sublist⟩, fun a ha b hb => ?_⟩
  · have hy' := List.mem_filter.1 hy
    have : ¬ y < x := by simpa using hy'.2
    have hne : y ≠ x := fun e => hx (e ▸ hy'.1)
    omega
  · have ha' := List.mem_filter.1 ha
    have h3 : a < x := by simpa using ha'.2
    rcases List.mem_cons.1 hb with e | e
    · subst e; exact h3
    · have hb' := List.mem_filter.1 e
      have : ¬ b < x := by simpa using hb'.2
      omega
def step (V : Int → Bool) (out : List Int) (x : Int) : List Int := if out.contains x then out else if V x then ins out x else out
theorem picks_nil (V : Int → Bool) : Picks V [] [] := ⟨List.Pairwise.nil, by simp⟩
theorem picks_step {V : Int → Bool} {e out : List Int} (h : Picks V e out) (x : Int) : Picks V (e ++ [x]) (step V out x) := by
  unfold step
  split
  · rename_i hc
    have hx : x ∈ out := by simpa using hc
    refine ⟨h.rising, fun y => ?_⟩
    rw [h.mem, List.mem_append, List.mem_singleton]
    constructor
    · rintro ⟨a, b⟩; exact ⟨.inl a, b⟩
    · rintro ⟨a | a, b⟩
      · exact ⟨a, b⟩
      · subst a; exact (h.mem y).1 hx
  · rename_i hc
    have hx : x ∉ out := by simpa using hc
    split
    · rename_i hv
      refine ⟨ins_rising h.rising hx, fun y => ?_⟩
      rw [ins_mem, h.mem, List.mem_append, List.mem_singleton]
      constructor
      · rintro (a | ⟨a, b⟩)
        · subst a; exact ⟨.inr rfl, hv⟩
        · exact ⟨.inl a, b⟩
      · rintro ⟨a | a, b⟩
        · exact .inr ⟨a, b⟩
        · exact .inl a
    · rename_i hv
      refine ⟨h.rising, fun y => ?_⟩
      rw [h.mem, List.mem_append, List.mem_singleton]
      constructor
      · rintro ⟨a, b⟩; exact ⟨.inl a, b⟩
      · rintro ⟨a | a, b⟩
        · exact ⟨a, b⟩
        · subst a; exact absurd b hv
theorem ins_length (out : List Int) (x : Int) : (ins out x).length = out.length + 1 := by
  unfold ins
  rw [List.length_append, List.length_cons, List.length_take, List.length_drop]
  have := List.countP_le_length (p := fun y => decide (y < x)) (l := out)
  omega

/-! ### the document's way -/
/-- out: rising, of e and V; what is in e and V and at most its last is in it. -/
structure Upto (V : Int → Bool) (e out : List Int) : Prop where
  rising : out.Pairwise (· < ·)
  sub : ∀ x, x ∈ out → x ∈ e ∧ V x = true
  all : ∀ x, x ∈ e → V x = true → (∃ l, out.getLast? = some l ∧ x ≤ l) → x ∈ out
/-- A rising list of elements of e is no longer than e. -/
theorem rising_len : ∀ (out e : List Int), out.Pairwise (· < ·) → (∀ x, x ∈ out → x ∈ e) → out.length ≤ e.length
  | [], _, _, _ => Nat.zero_le _
  | x :: out, e, h, hs => by
    rw [List.pairwise_cons] at h
    have hx := hs x (List.mem_cons_self ..)
    have h2 := rising_len out (e.erase x) h.2 (fun y hy => by
      have hne : y ≠ x := fun e2 => by have := h.1 y hy; omega
      exact (List.mem_erase_of_ne hne).2 (hs y (List.mem_cons_of_mem _ hy)))
    have h3 := List.length_erase_of_mem hx
    have h4 : 0 < e.length := List.length_pos_of_mem hx
    simp only [List.length_cons]
    omega
end Go.Proofs.YtcfocbfocemapaaGreat.VarP

namespace Go.Proofs.YtcfocbfocemapaaGreat.VarL
open Go.Shelf Go.RowKit Go.Proofs.YtcfocbfocemapaaGreat.VarP
set_option linter.unusedVariables false

def renS : Ren := ⟨fun | 25 => 88 | 31 => 102 | 32 => 103 | 37 => 119 | n => n, fun | 22 => 24 | 3 => 3 | 4 => 4 | 40 => 161 | 0 => 0 | n => n, fun n => n⟩
theorem laysS : Lays2.n25 Tryz.prog renS where
  mixed := by kernel_rfl
  f25 := Tryz.func88.trans (congrArg some (by kernel_rfl))
  f31 := Tryz.func102.trans (congrArg some (by kernel_rfl))
  f32 := Tryz.func103.trans (congrArg some (by kernel_rfl))
  f37 := Tryz.func119.trans (congrArg some (by kernel_rfl))
  t0 := Tryz.underlying0
  a0 := Tryz.isAgg0
  z0 := Tryz.sizeOf0
  v0 := Tryz.zeroValue0
  t3 := Tryz.underlying3
  a3 := Tryz.isAgg3
  z3 := Tryz.sizeOf3
  v3 := Tryz.zeroValue3
  t4 := Tryz.underlying4
  a4 := Tryz.isAgg4
  z4 := Tryz.sizeOf4
  v4 := Tryz.zeroValue4
  t22 := Tryz.underlying24
  a22 := Tryz.isAgg24
  z22 := Tryz.sizeOf24
  v22 := Tryz.zeroValue24
  t40 := Tryz.underlying161
  a40 := Tryz.isAgg161
  z40 := Tryz.sizeOf161
  v40 := Tryz.zeroValue161
def renI : Ren := ⟨fun | 21 => 89 | 27 => 104 | 28 => 105 | 35 => 120 | 39 => 128 | n => n, fun | 22 => 24 | 3 => 3 | 4 => 4 | 0 => 0 | n => n, fun n => n⟩
theorem laysI : Lays2.n21 Tryz.prog renI where
  mixed := by kernel_rfl
  f21 := Tryz.func89.trans (congrArg some (by kernel_rfl))
  f27 := Tryz.func104.trans (congrArg some (by kernel_rfl))
  f28 := Tryz.func105.trans (congrArg some (by kernel_rfl))
  f35 := Tryz.func120.trans (congrArg some (by kernel_rfl))
  f39 := Tryz.func128.trans (congrArg some (by kernel_rfl))
  t0 := Tryz.underlying0
  a0 := Tryz.isAgg0
  z0 := Tryz.sizeOf0
  v0 := Tryz.zeroValue0
  t3 := Tryz.underlying3
  a3 := Tryz.isAgg3
  z3 := Tryz.sizeOf3
  v3 := Tryz.zeroValue3
  t4 := Tryz.underlying4
  a4 := Tryz.isAgg4
  z4 := Tryz.sizeOf4
  v4 := Tryz.zeroValue4
  t22 := Tryz.underlying24
  a22 := Tryz.isAgg24
  z22 := Tryz.sizeOf24
  v22 := Tryz.zeroValue24
  i3 := by kernel_rfl

abbrev num (x : Int) : Value := .int .i64 x
/-! ### memory behind a run of stores -/
theorem setCells_at {w : World} {b : Nat} {t : TypeId} {fr : Nat × Nat} (vs : List Value) : ∀ (o : Nat) (w : World) (cur : Array Value), w.heap[b]? = some (.cells cur t fr) →
    ∃ cur', (w.setCells b o vs).heap[b]? = some (.cells cur' t fr) ∧ cur'.size = cur.size ∧ ∀ j, cur'[j]? = if o ≤ j ∧ j < o + vs.length ∧ j < cur.size then vs[j - o]? else cur[j]? := by
  induction vs with
  | nil =>
    intro o w cur h
    exact ⟨cur, h, rfl, fun j => by rw [if_neg (by simp; omega)]⟩
  | cons v r ih =>
    intro o w cur h
    have h1 : (w.setCell ⟨b, o, none⟩ v).heap[b]? = some (.cells (cur.setIfInBounds o v) t fr) := by
      simp [World.setCell, Array.getElem?_modify, h]
    obtain ⟨cur', g1, g2, g3⟩ := ih (o + 1) _ _ h1
    refine ⟨cur', g1, by rw [g2]; simp, fun j => ?_⟩
    rw [g3 j]
    simp only [Array.size_setIfInBounds, List.length_cons]
    by_cases ho : j = o
    · subst ho
      rw [if_neg (by omega)]
      by_cases hj : j < cur.size
      · rw [if_pos (by omega), Nat.sub_self]
        simp [hj]
      · rw [if_neg (by omega)]
        simp [hj]
    · by_cases hc : o + 1 ≤ j ∧ j < o + 1 + r.length ∧ j < cur.size
      · rw [if_pos hc, if_pos (by omega), show j - o = (j - (o + 1)) + 1 by omega]
        rfl
      · rw [if_neg hc, if_neg (by omega), Array.getElem?_setIfInBounds_ne (by omega)]
theorem setCells_other (b : Nat) (vs : List Value) : ∀ (o : Nat) (w : World) (k : Nat), k ≠ b → (w.setCells b o vs).heap[k]? = w.heap[k]? := by
  induction vs with
  | nil => intro o w k hk; rfl
  | cons v r ih =>
    intro o w k hk
    show ((w.setCell ⟨b, o, none⟩ v).setCells b (o + 1) r).heap[k]? = _
    rw [ih (o + 1) _ k hk]
    exact Below.heap_setCell w ⟨b, o, none⟩ v k hk
theorem setCells_rest (b : Nat) (vs : List Value) : ∀ (o : Nat) (w : World), (w.setCells b o vs).os = w.os ∧ (w.setCells b o vs).tape = w.tape ∧ (w.setCells b o vs).output = w.output ∧ (w.setCells b o vs).heap.size = w.heap.size := by
  induction vs with
  | nil => intro o w; exact ⟨rfl, rfl, rfl, rfl⟩
  | cons v r ih =>
    intro o w
    obtain ⟨h1, h2, h3, h4⟩ := ih (o + 1) (w.setCell ⟨b, o, none⟩ v)
    exact ⟨h1, h2, h3, h4.trans (by simp [World.setCell])⟩
theorem setCells_grown (b : Nat) (vs : List Value) (o : Nat) (w : World) : w.grownBy (w.setCells b o vs) (some b) := by
  obtain ⟨h1, h2, h3, h4⟩ := setCells_rest b vs o w
  exact ⟨h1, h2, h3, by omega, fun k _ hk => setCells_other b vs o w k (fun e => hk (by rw [e]))⟩
theorem own_of {w : World} {base g c : Nat} {cur : Array Value} {ys : List Value} (hg : base ≤ g) (h : w.heap[g]? = some (.cells cur 3 (0, 0))) (hc : c ≤ maxLen) (hs : cur.size = c) (hl : ys.length ≤ c) (hy : ∀ j, j < ys.length → cur[j]? = ys[j]?) : w.ownsRow base 3 1 (.slice (some ⟨g, 0, none⟩) ys.length c) ys.length ys := by
  refine ⟨by simp, .inr ⟨g, c, cur, rfl, hg, h, hl, hc, by simpa using hs, ?_⟩⟩
  apply List.ext_getElem?
  intro j
  rw [Nat.mul_one, List.getElem?_take]
  by_cases hj : j < ys.length
  · rw [if_pos hj, ← hy j hj]
    simp
  · rw [if_neg hj, List.getElem?_eq_none (by omega)]

/-- x put in ahead of the elements from i on. -/
def put (xs : List Int) (i : Nat) (x : Int) : List Int := xs.take i ++ x :: xs.drop i
theorem put_length {xs : List Int} {i : Nat} {x : Int} (h : i ≤ xs.length) : (put xs i x).length = xs.length + 1 := by
  unfold put
  rw [List.length_append, List.length_cons, List.length_take, List.length_drop]
  omega
theorem put_at {xs : List Int} {i : Nat} {x : Int} (h : i ≤ xs.length) (j : Nat) : ((put xs i x).map num)[j]? = if j < i then (xs.map num)[j]? else if j = i then some (num x) else (xs.map num)[j - 1]? := by
  unfold put
  rw [List.map_append, List.map_cons, List.map_take, List.map_drop, List.getElem?_append]
  simp only [List.length_take, List.length_map]
  rw [Nat.min_eq_left h]
  by_cases h1 : j < i
  · rw [if_pos h1, if_pos h1, List.getElem?_take, if_pos h1]
  · rw [if_neg h1, if_neg h1]
    by_cases h2 : j = i
    · subst h2
      simp
    · rw [if_neg h2, show j - i = (j - i - 1) + 1 by omega, List.getElem?_cons_succ, List.getElem?_drop]
      congr 1
      omega
set_option maxHeartbeats 1000000 in
theorem insert_calls {w : World} {base : Nat} {v : Value} {xs : List Int} (h : w.ownsRow base 3 1 v xs.length (xs.map num)) (hbase : base ≤ w.heap.size) {x : Int} {vb : Nat} (hv : w.heap[vb]? = some (.cells #[num x] 3 (0, 0))) (hne : v.ownBlock ≠ some vb) (hlen : xs.length ≤ 1048576) {i : Nat} (hi : i ≤ xs.length) :
    Calls Tryz.prog 89 #[v, .int .i64 i, .slice (some ⟨vb, 0, none⟩) 1 1] w fun e w' => ∃ v', e = .returned v' ∧ w'.ownsRow base 3 1 v' (xs.length + 1) ((put xs i x).map num) ∧ w.grownBy w' v.ownBlock := by
  have hvs : ∀ j u, [num x][j]? = some u → w.cell? ⟨vb, 0 + j, none⟩ = some u := by
    intro j u hu
    match j, hu with
    | 0, hu => simp at hu; subst hu; simp [World.cell?, hv]
  have h1v : ∀ u ∈ [num x], u.oneCell' = true := by intro u hu; simp at hu; subst hu; rfl
  have h1c : ∀ u ∈ xs.map num, u.oneCell' = true := by
    intro u hu
    obtain ⟨y, _, rfl⟩ := List.mem_map.1 hu
    rfl
  have hpl := put_length (x := x) hi
  have hgrown : ∀ {c : Nat}, c ≤ maxLen → c ≤ maxLen := fun h => h
  rcases h.2 with ⟨rfl, h0⟩ | ⟨g, c, cur, rfl, hb, hgg, hn, hc, hsz, ht⟩
  · -- nothing there yet
    have hx0 : xs = [] := List.eq_nil_of_length_eq_zero h0
    subst hx0
    have hi0 : i = 0 := by simpa using hi
    subst hi0
    refine (Any2.slices_Insert_int_end_grow laysI none 0 0 vb 0 1 1 [] [num x] w (by omega) (by omega) (by omega) (by omega) rfl rfl (fun _ => rfl) (fun a ha => by cases ha) hvs h1v).mono ?_
    rintro e w' ⟨rfl, rfl⟩
    have hge := grownCap_ge w (0 + 1) 0 (renI.t 3)
    have hle := grownCap_le_maxLen w (0 + 1) 0 (renI.t 3) (by unfold maxLen; omega)
    generalize grownCap w (0 + 1) 0 (renI.t 3) = G at hge hle ⊢
    refine ⟨_, rfl, ?_, ?_⟩
    · have := own_of (w := w.drew.alloc (.cells (([] ++ [num x] : List Value).toArray ++ Builtin.zeroCells (Value.int .i64 0).cells (G - (0 + 1))) (renI.t 3))) (base := base) (g := w.heap.size) (c := G) (ys := (put [] 0 x).map num) hbase (heap_alloc_new w.drew _) hle (by simp [Builtin.zeroCells, Value.cells]; omega) (by simp [put]; omega) (fun j hj => by
        have : j = 0 := by simpa [put] using hj
        subst this
        rw [Array.getElem?_append_left (by simp)]
        rfl)
      simpa [put] using this
    · exact ⟨rfl, rfl, rfl, by simp, fun k hk _ => Below.heap_alloc w.drew _ k hk⟩
  · have hcur : ∀ j, j < xs.length → cur[j]? = (xs.map num)[j]? := by
      intro j hj
      rw [← ht, List.getElem?_take, if_pos (by simpa using hj)]
      simp
    have hcs : ∀ j u, (xs.map num)[j]? = some u → w.cell? ⟨g, 0 + j, none⟩ = some u := by
      intro j u hu
      have hj := (List.getElem?_eq_some_iff.1 hu).1
      rw [List.length_map] at hj
      simp [World.cell?, hgg, Nat.zero_add, hcur j hj, hu]
    have hsz' : cur.size = c := by simpa using hsz
    have hsome : ∀ k, k < c → (w.cell? ⟨g, k, none⟩).isSome = true := by
      intro k hk
      simp [World.cell?, hgg]
      omega
    have hfz : ∀ k, w.frozen? ⟨g, k, none⟩ = false := by intro k; simp [World.frozen?, hgg]
    have hvg : vb ≠ g := fun e => hne (by rw [e]; rfl)
    have hgl : g < w.heap.size := (Array.getElem?_eq_some_iff.1 hgg).1
    unfold maxLen at hc
    by_cases hin : i < xs.length
    · by_cases hroom : xs.length + 1 ≤ c
      · refine (Any2.slices_Insert_int_shift laysI g 0 xs.length c i vb 0 1 1 (xs.map num) [num x] w hin (by omega) hroom (by omega) hvg (by simp) rfl hcs (fun j hj => by rw [Nat.zero_add]; exact hsome j (by omega)) (fun j hj => hfz _) hvs h1c h1v 3 3 1 c (by simp [World.shape?, hv]) (by simp [World.shape?, hgg, hsz']) (by omega) (by simp [World.frozen?, hv]) (by simp [World.frozen?, hv])).mono ?_
        rintro e w' ⟨rfl, rfl⟩
        obtain ⟨cur1, a1, a2, a3⟩ := setCells_at (w := w) (b := g) ((xs.map num).drop i) (0 + (i + 1)) w.drew cur hgg
        obtain ⟨cur2, b1, b2, b3⟩ := setCells_at (w := w) (b := g) [num x] (0 + i) _ cur1 a1
        refine ⟨_, rfl, ?_, ?_⟩
        · have := own_of (base := base) (ys := (put xs i x).map num) hb b1 (by unfold maxLen; exact hc) (by rw [b2, a2, hsz']) (by rw [List.length_map, hpl]; exact hroom) (fun j hj => by
            rw [List.length_map, hpl] at hj
            rw [put_at hi, b3, a3]
            simp only [List.length_singleton, List.length_drop, List.length_map, Nat.zero_add, a2, hsz']
            by_cases c1 : j < i
            · rw [if_neg (by omega), if_neg (by omega), if_pos c1]
              exact hcur j (by omega)
            · rw [if_neg c1]
              by_cases c2 : j = i
              · subst c2
                rw [if_pos (by omega), if_pos rfl, Nat.sub_self]
                rfl
              · rw [if_neg (by omega), if_pos (by omega), if_neg c2, List.getElem?_drop]
                congr 1
                omega)
          rw [List.length_map, hpl] at this
          exact this
        · have g1 := setCells_grown g ((xs.map num).drop i) (0 + (i + 1)) w.drew
          have g2 := setCells_grown g [num x] (0 + i) (w.drew.setCells g (0 + (i + 1)) ((xs.map num).drop i))
          exact ⟨g2.os.trans g1.os, g2.tape.trans g1.tape, g2.output.trans g1.output, Nat.le_trans g1.size g2.size, fun k hk hne => (g2.block k (Nat.lt_of_lt_of_le hk g1.size) hne).trans (g1.block k hk hne)⟩
      · refine (Any2.slices_Insert_int_grow laysI g 0 xs.length c i vb 0 1 1 (xs.map num) [num x] w hin (by omega) hn (by omega) (by omega) (by simp) rfl hcs hvs h1c h1v).mono ?_
        rintro e w' ⟨rfl, rfl⟩
        have hge := grownCap_ge w (xs.length + 1) c (renI.t 3)
        have hle := grownCap_le_maxLen w (xs.length + 1) c (renI.t 3) (by unfold maxLen; omega)
        generalize grownCap w (xs.length + 1) c (renI.t 3) = G at hge hle ⊢
        obtain ⟨ROW, hROW⟩ : ∃ ROW : Array Value, ROW = ((xs.map num).take i).toArray ++ Builtin.zeroCells (Value.int .i64 0).cells (xs.length + 1 - i) ++ Builtin.zeroCells (Value.int .i64 0).cells (G - (xs.length + 1)) := ⟨_, rfl⟩
        have hRs : ROW.size = G := by
          rw [hROW]
          simp [Builtin.zeroCells, Value.cells]
          omega
        have hR0 : ∀ j, j < i → ROW[j]? = (xs.map num)[j]? := by
          intro j hj
          rw [hROW, Array.append_assoc, Array.getElem?_append_left (by simp; omega)]
          simp [hj]
        rw [← hROW]
        have a0 : (w.alloc (.cells ROW (renI.t 3))).drew.heap[w.heap.size]? = some (.cells ROW 3 (0, 0)) := heap_alloc_new w _
        obtain ⟨cur1, a1, a2, a3⟩ := setCells_at (w := w) (b := w.heap.size) [num x] i (w.alloc (.cells ROW (renI.t 3))).drew ROW a0
        have a1' : (((w.alloc (.cells ROW (renI.t 3))).drew.setCells w.heap.size i [num x]).drew).heap[w.heap.size]? = some (.cells cur1 3 (0, 0)) := a1
        obtain ⟨cur2, b1, b2, b3⟩ := setCells_at (w := w) (b := w.heap.size) ((xs.map num).drop i) (i + 1) _ cur1 a1'
        refine ⟨_, rfl, ?_, ?_⟩
        · have := own_of (base := base) (ys := (put xs i x).map num) hbase b1 hle (by rw [b2, a2, hRs]) (by rw [List.length_map, hpl]; exact hge) (fun j hj => by
            rw [List.length_map, hpl] at hj
            rw [put_at hi, b3, a3]
            simp only [List.length_singleton, List.length_drop, List.length_map, a2, hRs]
            by_cases c1 : j < i
            · rw [if_neg (by omega), if_neg (by omega), if_pos c1]
              exact hR0 j c1
            · rw [if_neg c1]
              by_cases c2 : j = i
              · subst c2
                rw [if_neg (by omega), if_pos (by omega), if_pos rfl, Nat.sub_self]
                rfl
              · rw [if_pos (by omega), if_neg c2, List.getElem?_drop]
                congr 1
                omega)
          rw [List.length_map, hpl] at this
          exact this
        · have g1 := setCells_grown w.heap.size [num x] i (w.alloc (.cells ROW (renI.t 3))).drew
          have g2 := setCells_grown w.heap.size ((xs.map num).drop i) (i + 1) ((w.alloc (.cells ROW (renI.t 3))).drew.setCells w.heap.size i [num x]).drew
          have s1 : (w.alloc (.cells ROW (renI.t 3))).drew.heap.size = w.heap.size + 1 := by simp
          refine ⟨g2.os.trans g1.os, g2.tape.trans g1.tape, g2.output.trans g1.output, ?_, fun k hk _ => ?_⟩
          · have := g1.size
            have h2 := g2.size
            have h3 : ((w.alloc (.cells ROW (renI.t 3))).drew.setCells w.heap.size i [num x]).drew.heap.size = ((w.alloc (.cells ROW (renI.t 3))).drew.setCells w.heap.size i [num x]).heap.size := rfl
            omega
          · have hk1 : k < (w.alloc (.cells ROW (renI.t 3))).drew.heap.size := by omega
            have hk2 : k < ((w.alloc (.cells ROW (renI.t 3))).drew.setCells w.heap.size i [num x]).drew.heap.size := Nat.lt_of_lt_of_le hk1 g1.size
            exact (g2.block k hk2 (by simp; omega)).trans ((g1.block k hk1 (by simp; omega)).trans (Below.heap_alloc w _ k hk))
    · have hin' : i = xs.length := by omega
      subst hin'
      by_cases hroom : xs.length + 1 ≤ c
      · refine (Any2.slices_Insert_int_end_room laysI g 0 xs.length c vb 0 1 1 [num x] w (by omega) hroom (by omega) rfl (fun j hj => by exact hsome _ (by omega)) (fun j hj => hfz _) hvs h1v).mono ?_
        rintro e w' ⟨rfl, rfl⟩
        obtain ⟨cur1, a1, a2, a3⟩ := setCells_at (w := w) (b := g) [num x] (0 + xs.length) w cur hgg
        refine ⟨_, rfl, ?_, setCells_grown g [num x] (0 + xs.length) w⟩
        have := own_of (base := base) (ys := (put xs xs.length x).map num) hb a1 (by unfold maxLen; exact hc) (by rw [a2, hsz']) (by rw [List.length_map, hpl]; exact hroom) (fun j hj => by
          rw [List.length_map, hpl] at hj
          rw [put_at hi, a3]
          simp only [List.length_singleton, Nat.zero_add, hsz']
          by_cases c1 : j < xs.length
          · rw [if_neg (by omega), if_pos c1]
            exact hcur j c1
          · have c2 : j = xs.length := by omega
            subst c2
            rw [if_pos (by omega), if_neg c1, if_pos rfl, Nat.sub_self]
            rfl)
        rw [List.length_map, hpl] at this
        exact this
      · refine (Any2.slices_Insert_int_end_grow laysI (some ⟨g, 0, none⟩) xs.length c vb 0 1 1 (xs.map num) [num x] w (by omega) hn (by omega) (by omega) (by simp) rfl (fun e => by cases e) (fun a ha j u hu => by cases ha; rw [Addr.add_lit]; exact hcs j u hu) hvs h1v).mono ?_
        rintro e w' ⟨rfl, rfl⟩
        have hge := grownCap_ge w (xs.length + 1) c (renI.t 3)
        have hle := grownCap_le_maxLen w (xs.length + 1) c (renI.t 3) (by unfold maxLen; omega)
        generalize grownCap w (xs.length + 1) c (renI.t 3) = G at hge hle ⊢
        refine ⟨_, rfl, ?_, ⟨rfl, rfl, rfl, by simp, fun k hk _ => Below.heap_alloc w.drew _ k hk⟩⟩
        have hput : put xs xs.length x = xs ++ [x] := by unfold put; simp
        have := own_of (w := w.drew.alloc (.cells ((xs.map num ++ [num x]).toArray ++ Builtin.zeroCells (Value.int .i64 0).cells (G - (xs.length + 1))) (renI.t 3))) (base := base) (g := w.heap.size) (c := G) (ys := (put xs xs.length x).map num) hbase (heap_alloc_new w.drew _) hle (by simp [Builtin.zeroCells, Value.cells]; omega) (by rw [List.length_map, hpl]; exact hge) (fun j hj => by
          rw [List.length_map, hpl] at hj
          rw [hput, Array.getElem?_append_left (by simp; omega)]
          simp)
        rw [List.length_map, hpl] at this
        exact this
end Go.Proofs.YtcfocbfocemapaaGreat.VarL

namespace Go.Proofs.YtcfocbfocemapaaGreat.VarW
open Go.RowKit Go.Proofs.YtcfocbfocemapaaGreat.PStackPlays Go.Proofs.YtcfocbfocemapaaGreatW.PrintWords Go.Proofs.YtcfocbfocemapaaGreat.VarP Go.Proofs.YtcfocbfocemapaaGreat.VarL Go.Proofs.YtcfocbfocemapaaGreat.Brk
set_option linter.unusedVariables false
set_option linter.unusedSimpArgs false

def outK (V : Int → Bool) (e : List Int) (k : Nat) : List Int := (e.take k).foldl (VarP.step V) []
theorem outK_succ (V : Int → Bool) (e : List Int) {k : Nat} (h : k < e.length) : outK V e (k + 1) = VarP.step V (outK V e k) e[k] := by
  unfold outK
  rw [List.take_succ_eq_append_getElem h, List.foldl_append]
  rfl
theorem outK_picks (V : Int → Bool) (e : List Int) (k : Nat) (h : k ≤ e.length) : Picks V (e.take k) (outK V e k) := by
  induction k with
  | zero => exact picks_nil V
  | succ k ih =>
    rw [outK_succ V e (by omega), List.take_succ_eq_append_getElem (by omega)]
    exact picks_step (ih (by omega)) _
theorem outK_len (V : Int → Bool) (e : List Int) (k : Nat) (h : k ≤ e.length) : (outK V e k).length ≤ k := by
  have hp := outK_picks V e k h
  have := rising_len _ (e.take k) hp.rising (fun x hx => ((hp.mem x).1 hx).1)
  rw [List.length_take] at this
  omega
theorem search_calls {w : World} {base : Nat} {v : Value} {xs : List Int} (h : w.ownsRow base 3 1 v xs.length (xs.map num)) (hp : xs.Pairwise (· < ·)) (hl : xs.length ≤ 1048576) (x : Int) :
    Calls Tryz.prog 88 #[v, .int .i64 x] w fun e w' => e = .returned (.tuple #[.int .i64 (xs.countP (· < x) : Nat), .bool (xs.contains x)]) ∧ Drawn0 w w' := by
  rcases h.2 with ⟨rfl, h0⟩ | ⟨g, c, cur, rfl, hb, hgg, hn, hc, hsz, ht⟩
  · have hx0 : xs = [] := List.eq_nil_of_length_eq_zero h0
    subst hx0
    refine (Any.slices_BinarySearch_int_empty laysS none 0 x w).mono ?_
    rintro e w' ⟨rfl, rfl⟩
    exact ⟨rfl, Drawn0.refl _⟩
  · have hcell : ∀ j, j < xs.length → w.cell? ⟨g, 0 + j, none⟩ = some (.int .i64 (xs.getD j 0)) := by
      intro j hj
      have hcj : cur[j]? = (xs.map num)[j]? := by
        rw [← ht, List.getElem?_take, if_pos (by simpa using hj)]
        simp
      rw [List.getElem?_map, List.getElem?_eq_getElem hj] at hcj
      simp [World.cell?, hgg, hcj, hj]
    have hs : (xs.take xs.length).Pairwise (· ≤ ·) := by
      rw [List.take_length]
      exact hp.imp (fun h => by omega)
    refine (Any.slices_BinarySearch_int laysS g 0 xs.length c xs x w (Nat.le_refl _) (by omega) hcell hs).mono ?_
    rintro e w' ⟨rfl, q, rfl⟩
    rw [List.take_length]
    exact ⟨rfl, q, rfl⟩

theorem cell_on {w w' : World} {a : Addr} {v : Value} (hb : Below w.heap.size w w') (h : w.cell? a = some v) : w'.cell? a = some v := (hb.cell (World.block_lt_of_cell? w _ h)).trans h

set_option maxHeartbeats 4000000 in
set_option maxRecDepth 100000 in
theorem evars_calls {w : World} (A : Option Addr) (c : Nat) (e : List Int) (hC : Kd.C (Kd.int .i64) w A e.length e) (he : e.length ≤ 1048576) :
    Calls Tryz.prog 71 #[.slice A e.length c, .func (.func 8) #[] #[]] w fun ed w' => ∃ v, ed = .returned v ∧ w'.ownsRow w.heap.size 3 1 v (outK VB e e.length).length ((outK VB e e.length).map num) ∧ Below w.heap.size w w' := by
  have HC := Aside0.mk hC
  clear hC
  go_enter Tryz.func71, Tryz.ntmps71
  go_wp2_with fail
  go_loopw [5, 12] (fun v5 v12 wr => ∃ k : Nat, k ≤ e.length ∧ v12 = .int .i64 k ∧ Aside0 (wr.ownsRow w.heap.size 3 1 v5 (outK VB e k).length ((outK VB e k).map num)) ∧ Aside0 (Below w.heap.size w wr)) (fun _ v12 _ => e.length - (intOf v12).toNat)
  case atStart => exact ⟨0, by omega, rfl, ⟨World.ownsRow_nil _ _ _ _⟩, ⟨Below.refl _ _⟩⟩
  case round =>
    obtain ⟨k, hk, rfl, HO, HB⟩ := hrel
    by_cases hlt : k < e.length
    · obtain ⟨ad, rfl, hx⟩ := Kd.at_int (Kd.C_below HC.out HB.out) (k : Int) (by omega) (by omega)
      rw [PlayP.rd_of hlt, Int.toNat_natCast] at hx
      have hpk := outK_picks VB e k (by omega)
      have hlk := outK_len VB e k (by omega)
      have hsucc := outK_succ VB e hlt
      generalize e[k] = x at hx hsucc
      unfold VarP.step at hsucc
      have Hrise := Aside0.mk hpk.rising
      clear hpk
      cases hcont : (outK VB e k).contains x with
      | true =>
        rw [if_pos hcont] at hsucc
        have Hsucc := Aside0.mk hsucc
        have Hcont := Aside0.mk hcont
        clear hsucc hcont
        go_wp2_with fail
        refine (search_calls HO.out Hrise.out (by omega) x).mono ?_
        rintro ed w2 ⟨rfl, nq, rfl⟩
        rw [Hcont.out]
        go_wp2_with fail
        go_roundw
        case rel => exact ⟨k + 1, by omega, by go_num, by rw [Hsucc.out]; exact ⟨HO.out⟩, ⟨pw_below_drewN HB.out nq⟩⟩
        case measure => simp [intOf]; omega
      | false =>
        rw [if_neg (by rw [hcont]; simp)] at hsucc
        have Hcont := Aside0.mk hcont
        clear hcont
        cases hv : VB x with
        | false =>
          rw [if_neg (by rw [hv]; simp)] at hsucc
          have Hsucc := Aside0.mk hsucc
          have Hv := Aside0.mk hv
          clear hsucc hv
          go_wp2_with fail
          refine (search_calls HO.out Hrise.out (by omega) x).mono ?_
          rintro ed w2 ⟨rfl, nq, rfl⟩
          rw [Hcont.out]
          go_wp2_with fail
          have HB2 := Aside0.mk (pw_below_drewN HB.out nq)
          refine (Brk.vars_calls x _).mono ?_
          rintro ed w3 ⟨rfl, nq3, rfl⟩
          rw [Hv.out]
          go_wp2_with fail
          go_roundw
          case rel => exact ⟨k + 1, by omega, by go_num, by rw [Hsucc.out]; exact ⟨HO.out⟩, ⟨pw_below_drewN HB.out (nq + nq3)⟩⟩
          case measure => simp [intOf]; omega
        | true =>
          rw [if_pos hv] at hsucc
          have Hsucc := Aside0.mk hsucc
          have Hv := Aside0.mk hv
          have hcl : (outK VB e k).countP (· < x) ≤ (outK VB e k).length := List.countP_le_length
          clear hsucc hv
          go_wp2_with fail
          refine (search_calls HO.out Hrise.out (by omega) x).mono ?_
          rintro ed w2 ⟨rfl, nq, rfl⟩
          rw [Hcont.out]
          go_wp2_with fail
          have HB2 := Aside0.mk (pw_below_drewN HB.out nq)
          refine (Brk.vars_calls x _).mono ?_
          rintro ed w3 ⟨rfl, nq3, rfl⟩
          rw [Hv.out]
          have HB3 := Aside0.mk (pw_below_drewN HB2.out nq3)
          obtain ⟨w3, hw3⟩ : ∃ w3, w3 = (wr.drewN nq).drewN nq3 := ⟨_, rfl⟩
          have HO3 := Aside0.mk (show w3.ownsRow w.heap.size 3 1 u5 (outK VB e k).length ((outK VB e k).map num) from by rw [hw3]; exact HO.out)
          rw [← hw3] at HB3 ⊢
          clear hw3 HB2 HO HB
          have hlt5 : ∀ b, u5.ownBlock = some b → b < w3.heap.size := fun b hb => (HO3.out.lt b hb).2
          go_wp2_with fail
          have hsz := HB3.out.size
          refine (insert_calls (HO3.out.alloc (.cells #[num x] 3)) (by simp; omega) (x := x) (vb := w3.heap.size) (heap_alloc_new w3 _) (fun e2 => by have := hlt5 _ e2; omega) (by omega) hcl).mono ?_
          rintro ed w4 ⟨v4, rfl, hown4, hgrow4⟩
          have HB4 := Aside0.mk ((HB3.out.alloc HB3.out.size (.cells #[num x] 3)).grown hgrow4 (by simp; omega) (fun b hb => (HO3.out.lt b hb).1))
          have HO4 := Aside0.mk hown4
          clear hown4 hgrow4 hlt5
          go_wp2_with fail
          go_roundw
          case rel =>
            refine ⟨k + 1, by omega, by go_num, ?_, HB4⟩
            rw [Hsucc.out]
            have hl := ins_length (outK VB e k) x
            rw [hl]
            exact ⟨HO4.out⟩
          case measure => simp [intOf]; omega
    · have hk' : k = e.length := by omega
      subst hk'
      go_wp2_with fail
      go_ret
      exact ⟨_, rfl, HO.out, HB.out⟩
end Go.Proofs.YtcfocbfocemapaaGreat.VarW
