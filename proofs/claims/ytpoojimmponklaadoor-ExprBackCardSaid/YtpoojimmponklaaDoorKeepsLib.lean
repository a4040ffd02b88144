/- slices.BinarySearch and slices.Insert of ints, as the library's shelf proves them, at this program; Insert into a list of one's own. -/
import Derived.Test.YtpoojimmponklaaDoorProg
import Derived.Test.YtpoojimmponklaaDoorKeepsPure
import Derived.Shelf.Lays2
import Derived.Shelf.Slices.SearchI
import Derived.Shelf.Slices.Empties
import Derived.Shelf.Spec.SlicesInsert
import Derived.Shelf.Spec.SlicesInsertGrow
namespace Go.Proofs.YtpoojimmponklaaDoor.KeepsLib
open Go.Shelf Go.RowKit Go.Proofs.YtpoojimmponklaaDoor.KeepsPure
set_option linter.unusedVariables false

def renS : Ren := ⟨fun | 25 => 70 | 31 => 80 | 32 => 81 | 37 => 90 | n => n, fun | 22 => 57 | 3 => 3 | 4 => 4 | 40 => 107 | 0 => 0 | n => n, fun n => n⟩
theorem laysS : Lays2.n25 Tryd.prog renS where
  mixed := by kernel_rfl
  f25 := Tryd.func70.trans (congrArg some (by kernel_rfl))
  f31 := Tryd.func80.trans (congrArg some (by kernel_rfl))
  f32 := Tryd.func81.trans (congrArg some (by kernel_rfl))
  f37 := Tryd.func90.trans (congrArg some (by kernel_rfl))
  t0 := Tryd.underlying0
  a0 := Tryd.isAgg0
  z0 := Tryd.sizeOf0
  v0 := Tryd.zeroValue0
  t3 := Tryd.underlying3
  a3 := Tryd.isAgg3
  z3 := Tryd.sizeOf3
  v3 := Tryd.zeroValue3
  t4 := Tryd.underlying4
  a4 := Tryd.isAgg4
  z4 := Tryd.sizeOf4
  v4 := Tryd.zeroValue4
  t22 := Tryd.underlying57
  a22 := Tryd.isAgg57
  z22 := Tryd.sizeOf57
  v22 := Tryd.zeroValue57
  t40 := Tryd.underlying107
  a40 := Tryd.isAgg107
  z40 := Tryd.sizeOf107
  v40 := Tryd.zeroValue107
def renI : Ren := ⟨fun | 21 => 71 | 27 => 82 | 28 => 83 | 35 => 91 | 39 => 95 | n => n, fun | 22 => 57 | 3 => 3 | 4 => 4 | 0 => 0 | n => n, fun n => n⟩
theorem laysI : Lays2.n21 Tryd.prog renI where
  mixed := by kernel_rfl
  f21 := Tryd.func71.trans (congrArg some (by kernel_rfl))
  f27 := Tryd.func82.trans (congrArg some (by kernel_rfl))
  f28 := Tryd.func83.trans (congrArg some (by kernel_rfl))
  f35 := Tryd.func91.trans (congrArg some (by kernel_rfl))
  f39 := Tryd.func95.trans (congrArg some (by kernel_rfl))
  t0 := Tryd.underlying0
  a0 := Tryd.isAgg0
  z0 := Tryd.sizeOf0
  v0 := Tryd.zeroValue0
  t3 := Tryd.underlying3
  a3 := Tryd.isAgg3
  z3 := Tryd.sizeOf3
  v3 := Tryd.zeroValue3
  t4 := Tryd.underlying4
  a4 := Tryd.isAgg4
  z4 := Tryd.sizeOf4
  v4 := Tryd.zeroValue4
  t22 := Tryd.underlying57
  a22 := Tryd.isAgg57
  z22 := Tryd.sizeOf57
  v22 := Tryd.zeroValue57
  i3 := by kernel_rfl

abbrev num (x : Int) : Value := .int .i64 x
/-! ### memory behind a run of stores -/
theorem setCells_at {w : World} {b : Nat} {t : TypeId} {fr : Nat × Nat} (vs : List Value) : ∀ (o : Nat) (w : World) (cur : Array Value), w.heap[b]? = some (.cells cur t fr) →
    ∃ cur', (w.setCells b o vs).heap[b]? = some (.cells cur' t fr) ∧ cur'.size = cur.size ∧ ∀ j, cur'[j]? = if o ≤ j ∧ j < o + vs.length ∧ j < cur.size then vs[j - o]? else cur[j]? := by
  induction vs with
  | nil =>
    intro o w cur h
    exact ⟨cur, h, rfl, fun j => by rw [if_neg (by simp; omega)]⟩
  | cons v r ih =>
    intro o w cur h
    have h1 : (w.setCell ⟨b, o, none⟩ v).heap[b]? = some (.cells (cur.setIfInBounds o v) t fr) := by
      simp [World.setCell, Array.getElem?_modify, h]
    obtain ⟨cur', g1, g2, g3⟩ := ih (o + 1) _ _ h1
    refine ⟨cur', g1, by rw [g2]; simp, fun j => ?_⟩
    rw [g3 j]
    simp only [Array.size_setIfInBounds, List.length_cons]
    by_cases ho : j = o
    · subst ho
      rw [if_neg (by omega)]
      by_cases hj : j < cur.size
      · rw [if_pos (by omega), Nat.sub_self]
        simp [hj]
      · rw [if_neg (by omega)]
        simp [hj]
    · by_cases hc : o + 1 ≤ j ∧ j < o + 1 + r.length ∧ j < cur.size
      · rw [if_pos hc, if_pos (by omega), show j - o = (j - (o + 1)) + 1 by omega]
        rfl
      · rw [if_neg hc, if_neg (by omega), Array.getElem?_setIfInBounds_ne (by omega)]
theorem setCells_other (b : Nat) (vs : List Value) : ∀ (o : Nat) (w : World) (k : Nat), k ≠ b → (w.setCells b o vs).heap[k]? = w.heap[k]? := by
  induction vs with
  | nil => intro o w k hk; rfl
  | cons v r ih =>
    intro o w k hk
    show ((w.setCell ⟨b, o, none⟩ v).setCells b (o + 1) r).heap[k]? = _
    rw [ih (o + 1) _ k hk]
    exact Below.heap_setCell w ⟨b, o, none⟩ v k hk
theorem setCells_rest (b : Nat) (vs : List Value) : ∀ (o : Nat) (w : World), (w.setCells b o vs).os = w.os ∧ (w.setCells b o vs).tape = w.tape ∧ (w.setCells b o vs).output = w.output ∧ (w.setCells b o vs).heap.size = w.heap.size := by
  induction vs with
  | nil => intro o w; exact ⟨rfl, rfl, rfl, rfl⟩
  | cons v r ih =>
    intro o w
    obtain ⟨h1, h2, h3, h4⟩ := ih (o + 1) (w.setCell ⟨b, o, none⟩ v)
    exact ⟨h1, h2, h3, h4.trans (by simp [World.setCell])⟩
theorem setCells_grown (b : Nat) (vs : List Value) (o : Nat) (w : World) : w.grownBy (w.setCells b o vs) (some b) := by
  obtain ⟨h1, h2, h3, h4⟩ := setCells_rest b vs o w
  exact ⟨h1, h2, h3, by omega, fun k _ hk => setCells_other b vs o w k (fun e => hk (by rw [e]))⟩
theorem own_of {w : World} {base g c : Nat} {cur : Array Value} {ys : List Value} (hg : base ≤ g) (h : w.heap[g]? = some (.cells cur 3 (0, 0))) (hc : c ≤ maxLen) (hs : cur.size = c) (hl : ys.length ≤ c) (hy : ∀ j, j < ys.length → cur[j]? = ys[j]?) : w.ownsRow base 3 1 (.slice (some ⟨g, 0, none⟩) ys.length c) ys.length ys := by
  refine ⟨by simp, .inr ⟨g, c, cur, rfl, hg, h, hl, hc, by simpa using hs, ?_⟩⟩
  apply List.ext_getElem?
  intro j
  rw [Nat.mul_one, List.getElem?_take]
  by_cases hj : j < ys.length
  · rw [if_pos hj, ← hy j hj]
    simp
  · rw [if_neg hj, List.getElem?_eq_none (by omega)]

/-- x put in ahead of the elements from i on. -/
def put (xs : List Int) (i : Nat) (x : Int) : List Int := xs.take i ++ x :: xs.drop i
theorem put_length {xs : List Int} {i : Nat} {x : Int} (h : i ≤ xs.length) : (put xs i x).length = xs.length + 1 := by
  unfold put
  rw [List.length_append, List.length_cons, List.length_take, List.length_drop]
  omega
theorem put_at {xs : List Int} {i : Nat} {x : Int} (h : i ≤ xs.length) (j : Nat) : ((put xs i x).map num)[j]? = if j < i then (xs.map num)[j]? else if j = i then some (num x) else (xs.map num)[j - 1]? := by
  unfold put
  rw [List.map_append, List.map_cons, List.map_take, List.map_drop, List.getElem?_append]
  simp only [List.length_take, List.length_map]
  rw [Nat.min_eq_left h]
  by_cases h1 : j < i
  · rw [if_pos h1, if_pos h1, List.getElem?_take, if_pos h1]
  · rw [if_neg h1, if_neg h1]
    by_cases h2 : j = i
    · subst h2
      simp
    · rw [if_neg h2, show j - i = (j - i - 1) + 1 by omega, List.getElem?_cons_succ, List.getElem?_drop]
      congr 1
      omega
set_option maxHeartbeats 1000000 in
theorem insert_calls {w : World} {base : Nat} {v : Value} {xs : List Int} (h : w.ownsRow base 3 1 v xs.length (xs.map num)) (hbase : base ≤ w.heap.size) {x : Int} {vb : Nat} (hv : w.heap[vb]? = some (.cells #[num x] 3 (0, 0))) (hne : v.ownBlock ≠ some vb) (hlen : xs.length ≤ 1048576) {i : Nat} (hi : i ≤ xs.length) :
    Calls Tryd.prog 71 #[v, .int .i64 i, .slice (some ⟨vb, 0, none⟩) 1 1] w fun e w' => ∃ v', e = .returned v' ∧ w'.ownsRow base 3 1 v' (xs.length + 1) ((put xs i x).map num) ∧ w.grownBy w' v.ownBlock := by
  have hvs : ∀ j u, [num x][j]? = some u → w.cell? ⟨vb, 0 + j, none⟩ = some u := by
    intro j u hu
    match j, hu with
    | 0, hu => simp at hu; subst hu; simp [World.cell?, hv]
  have h1v : ∀ u ∈ [num x], u.oneCell' = true := by intro u hu; simp at hu; subst hu; rfl
  have h1c : ∀ u ∈ xs.map num, u.oneCell' = true := by
    intro u hu
    obtain ⟨y, _, rfl⟩ := List.mem_map.1 hu
    rfl
  have hpl := put_length (x := x) hi
  have hgrown : ∀ {c : Nat}, c ≤ maxLen → c ≤ maxLen := fun h => h
  rcases h.2 with ⟨rfl, h0⟩ | ⟨g, c, cur, rfl, hb, hgg, hn, hc, hsz, ht⟩
  · -- nothing there yet
    have hx0 : xs = [] := List.eq_nil_of_length_eq_zero h0
    subst hx0
    have hi0 : i = 0 := by simpa using hi
    subst hi0
    refine (Any2.slices_Insert_int_end_grow laysI none 0 0 vb 0 1 1 [] [num x] w (by omega) (by omega) (by omega) (by omega) rfl rfl (fun _ => rfl) (fun a ha => by cases ha) hvs h1v).mono ?_
    rintro e w' ⟨rfl, rfl⟩
    have hge := grownCap_ge w (0 + 1) 0 (renI.t 3)
    have hle := grownCap_le_maxLen w (0 + 1) 0 (renI.t 3) (by unfold maxLen; omega)
    generalize grownCap w (0 + 1) 0 (renI.t 3) = G at hge hle ⊢
    refine ⟨_, rfl, ?_, ?_⟩
    · have := own_of (w := w.drew.alloc (.cells (([] ++ [num x] : List Value).toArray ++ Builtin.zeroCells (Value.int .i64 0).cells (G - (0 + 1))) (renI.t 3))) (base := base) (g := w.heap.size) (c := G) (ys := (put [] 0 x).map num) hbase (heap_alloc_new w.drew _) hle (by simp [Builtin.zeroCells, Value.cells]; omega) (by simp [put]; omega) (fun j hj => by
        have : j = 0 := by simpa [put] using hj
        subst this
        rw [Array.getElem?_append_left (by simp)]
        rfl)
      simpa [put] using this
    · exact ⟨rfl, rfl, rfl, by simp, fun k hk _ => Below.heap_alloc w.drew _ k hk⟩
  · have hcur : ∀ j, j < xs.length → cur[j]? = (xs.map num)[j]? := by
      intro j hj
      rw [← ht, List.getElem?_take, if_pos (by simpa using hj)]
      simp
    have hcs : ∀ j u, (xs.map num)[j]? = some u → w.cell? ⟨g, 0 + j, none⟩ = some u := by
      intro j u hu
      have hj := (List.getElem?_eq_some_iff.1 hu).1
      rw [List.length_map] at hj
      simp [World.cell?, hgg, Nat.zero_add, hcur j hj, hu]
    have hsz' : cur.size = c := by simpa using hsz
    have hsome : ∀ k, k < c → (w.cell? ⟨g, k, none⟩).isSome = true := by
      intro k hk
      simp [World.cell?, hgg]
      omega
    have hfz : ∀ k, w.frozen? ⟨g, k, none⟩ = false := by intro k; simp [World.frozen?, hgg]
    have hvg : vb ≠ g := fun e => hne (by rw [e]; rfl)
    have hgl : g < w.heap.size := (Array.getElem?_eq_some_iff.1 hgg).1
    unfold maxLen at hc
    by_cases hin : i < xs.length
    · by_cases hroom : xs.length + 1 ≤ c
      · refine (Any2.slices_Insert_int_shift laysI g 0 xs.length c i vb 0 1 1 (xs.map num) [num x] w hin (by omega) hroom (by omega) hvg (by simp) rfl hcs (fun j hj => by rw [Nat.zero_add]; exact hsome j (by omega)) (fun j hj => hfz _) hvs h1c h1v 3 3 1 c (by simp [World.shape?, hv]) (by simp [World.shape?, hgg, hsz']) (by omega) (by simp [World.frozen?, hv]) (by simp [World.frozen?, hv])).mono ?_
        rintro e w' ⟨rfl, rfl⟩
        obtain ⟨cur1, a1, a2, a3⟩ := setCells_at (w := w) (b := g) ((xs.map num).drop i) (0 + (i + 1)) w.drew cur hgg
        obtain ⟨cur2, b1, b2, b3⟩ := setCells_at (w := w) (b := g) [num x] (0 + i) _ cur1 a1
        refine ⟨_, rfl, ?_, ?_⟩
        · have := own_of (base := base) (ys := (put xs i x).map num) hb b1 (by unfold maxLen; exact hc) (by rw [b2, a2, hsz']) (by rw [List.length_map, hpl]; exact hroom) (fun j hj => by
            rw [List.length_map, hpl] at hj
            rw [put_at hi, b3, a3]
            simp only [List.length_singleton, List.length_drop, List.length_map, Nat.zero_add, a2, hsz']
            by_cases c1 : j < i
            · rw [if_neg (by omega), if_neg (by omega), if_pos c1]
              exact hcur j (by omega)
            · rw [if_neg c1]
              by_cases c2 : j = i
              · subst c2
                rw [if_pos (by omega), if_pos rfl, Nat.sub_self]
                rfl
              · rw [if_neg (by omega), if_pos (by omega), if_neg c2, List.getElem?_drop]
                congr 1
                omega)
          rw [List.length_map, hpl] at this
          exact this
        · have g1 := setCells_grown g ((xs.map num).drop i) (0 + (i + 1)) w.drew
          have g2 := setCells_grown g [num x] (0 + i) (w.drew.setCells g (0 + (i + 1)) ((xs.map num).drop i))
          exact ⟨g2.os.trans g1.os, g2.tape.trans g1.tape, g2.output.trans g1.output, Nat.le_trans g1.size g2.size, fun k hk hne => (g2.block k (Nat.lt_of_lt_of_le hk g1.size) hne).trans (g1.block k hk hne)⟩
      · refine (Any2.slices_Insert_int_grow laysI g 0 xs.length c i vb 0 1 1 (xs.map num) [num x] w hin (by omega) hn (by omega) (by omega) (by simp) rfl hcs hvs h1c h1v).mono ?_
        rintro e w' ⟨rfl, rfl⟩
        have hge := grownCap_ge w (xs.length + 1) c (renI.t 3)
        have hle := grownCap_le_maxLen w (xs.length + 1) c (renI.t 3) (by unfold maxLen; omega)
        generalize grownCap w (xs.length + 1) c (renI.t 3) = G at hge hle ⊢
        obtain ⟨ROW, hROW⟩ : ∃ ROW : Array Value, ROW = ((xs.map num).take i).toArray ++ Builtin.zeroCells (Value.int .i64 0).cells (xs.length + 1 - i) ++ Builtin.zeroCells (Value.int .i64 0).cells (G - (xs.length + 1)) := ⟨_, rfl⟩
        have hRs : ROW.size = G := by
          rw [hROW]
          simp [Builtin.zeroCells, Value.cells]
          omega
        have hR0 : ∀ j, j < i → ROW[j]? = (xs.map num)[j]? := by
          intro j hj
          rw [hROW, Array.append_assoc, Array.getElem?_append_left (by simp; omega)]
          simp [hj]
        rw [← hROW]
        have a0 : (w.alloc (.cells ROW (renI.t 3))).drew.heap[w.heap.size]? = some (.cells ROW 3 (0, 0)) := heap_alloc_new w _
        obtain ⟨cur1, a1, a2, a3⟩ := setCells_at (w := w) (b := w.heap.size) [num x] i (w.alloc (.cells ROW (renI.t 3))).drew ROW a0
        have a1' : (((w.alloc (.cells ROW (renI.t 3))).drew.setCells w.heap.size i [num x]).drew).heap[w.heap.size]? = some (.cells cur1 3 (0, 0)) := a1
        obtain ⟨cur2, b1, b2, b3⟩ := setCells_at (w := w) (b := w.heap.size) ((xs.map num).drop i) (i + 1) _ cur1 a1'
        refine ⟨_, rfl, ?_, ?_⟩
        · have := own_of (base := base) (ys := (put xs i x).map num) hbase b1 hle (by rw [b2, a2, hRs]) (by rw [List.length_map, hpl]; exact hge) (fun j hj => by
            rw [List.length_map, hpl] at hj
            rw [put_at hi, b3, a3]
            simp only [List.length_singleton, List.length_drop, List.length_map, a2, hRs]
            by_cases c1 : j < i
            · rw [if_neg (by omega), if_neg (by omega), if_pos c1]
              exact hR0 j c1
            · rw [if_neg c1]
              by_cases c2 : j = i
              · subst c2
                rw [if_neg (by omega), if_pos (by omega), if_pos rfl, Nat.sub_self]
                rfl
              · rw [if_pos (by omega), if_neg c2, List.getElem?_drop]
                congr 1
                omega)
          rw [List.length_map, hpl] at this
          exact this
        · have g1 := setCells_grown w.heap.size [num x] i (w.alloc (.cells ROW (renI.t 3))).drew
          have g2 := setCells_grown w.heap.size ((xs.map num).drop i) (i + 1) ((w.alloc (.cells ROW (renI.t 3))).drew.setCells w.heap.size i [num x]).drew
          have s1 : (w.alloc (.cells ROW (renI.t 3))).drew.heap.size = w.heap.size + 1 := by simp
          refine ⟨g2.os.trans g1.os, g2.tape.trans g1.tape, g2.output.trans g1.output, ?_, fun k hk _ => ?_⟩
          · have := g1.size
            have h2 := g2.size
            have h3 : ((w.alloc (.cells ROW (renI.t 3))).drew.setCells w.heap.size i [num x]).drew.heap.size = ((w.alloc (.cells ROW (renI.t 3))).drew.setCells w.heap.size i [num x]).heap.size := rfl
            omega
          · have hk1 : k < (w.alloc (.cells ROW (renI.t 3))).drew.heap.size := by omega
            have hk2 : k < ((w.alloc (.cells ROW (renI.t 3))).drew.setCells w.heap.size i [num x]).drew.heap.size := Nat.lt_of_lt_of_le hk1 g1.size
            exact (g2.block k hk2 (by simp; omega)).trans ((g1.block k hk1 (by simp; omega)).trans (Below.heap_alloc w _ k hk))
    · have hin' : i = xs.length := by omega
      subst hin'
      by_cases hroom : xs.length + 1 ≤ c
      · refine (Any2.slices_Insert_int_end_room laysI g 0 xs.length c vb 0 1 1 [num x] w (by omega) hroom (by omega) rfl (fun j hj => by exact hsome _ (by omega)) (fun j hj => hfz _) hvs h1v).mono ?_
        rintro e w' ⟨rfl, rfl⟩
        obtain ⟨cur1, a1, a2, a3⟩ := setCells_at (w := w) (b := g) [num x] (0 + xs.length) w cur hgg
        refine ⟨_, rfl, ?_, setCells_grown g [num x] (0 + xs.length) w⟩
        have := own_of (base := base) (ys := (put xs xs.length x).map num) hb a1 (by unfold maxLen; exact hc) (by rw [a2, hsz']) (by rw [List.length_map, hpl]; exact hroom) (fun j hj => by
          rw [List.length_map, hpl] at hj
          rw [put_at hi, a3]
          simp only [List.length_singleton, Nat.zero_add, hsz']
          by_cases c1 : j < xs.length
          · rw [if_neg (by omega), if_pos c1]
            exact hcur j c1
          · have c2 : j = xs.length := by omega
            subst c2
            rw [if_pos (by omega), if_neg c1, if_pos rfl, Nat.sub_self]
            rfl)
        rw [List.length_map, hpl] at this
        exact this
      · refine (Any2.slices_Insert_int_end_grow laysI (some ⟨g, 0, none⟩) xs.length c vb 0 1 1 (xs.map num) [num x] w (by omega) hn (by omega) (by omega) (by simp) rfl (fun e => by cases e) (fun a ha j u hu => by cases ha; rw [Addr.add_lit]; exact hcs j u hu) hvs h1v).mono ?_
        rintro e w' ⟨rfl, rfl⟩
        have hge := grownCap_ge w (xs.length + 1) c (renI.t 3)
        have hle := grownCap_le_maxLen w (xs.length + 1) c (renI.t 3) (by unfold maxLen; omega)
        generalize grownCap w (xs.length + 1) c (renI.t 3) = G at hge hle ⊢
        refine ⟨_, rfl, ?_, ⟨rfl, rfl, rfl, by simp, fun k hk _ => Below.heap_alloc w.drew _ k hk⟩⟩
        have hput : put xs xs.length x = xs ++ [x] := by unfold put; simp
        have := own_of (w := w.drew.alloc (.cells ((xs.map num ++ [num x]).toArray ++ Builtin.zeroCells (Value.int .i64 0).cells (G - (xs.length + 1))) (renI.t 3))) (base := base) (g := w.heap.size) (c := G) (ys := (put xs xs.length x).map num) hbase (heap_alloc_new w.drew _) hle (by simp [Builtin.zeroCells, Value.cells]; omega) (by rw [List.length_map, hpl]; exact hge) (fun j hj => by
          rw [List.length_map, hpl] at hj
          rw [hput, Array.getElem?_append_left (by simp; omega)]
          simp)
        rw [List.length_map, hpl] at this
        exact this
end Go.Proofs.YtpoojimmponklaaDoor.KeepsLib
