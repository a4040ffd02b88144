/- Nodes that are read, parts in memory. -/
import Derived.Test.YtkonloadedbpkaaKeys
import Derived.Test.YtkonloadedbpkaaFoldPure
import Derived.Laws.OwnMore
namespace Go.Proofs.Ytkonloadedbpkaa.FoldMem
open Go.RowKit Go.Maps Go.Proofs.Ytkonloadedbpkaa.Sep Go.Proofs.Ytkonloadedbpkaa.FMaps Go.Proofs.Ytkonloadedbpkaa.FoldPure
open Go.Proofs.YtkonloadedbpkaaW.PrintWords
set_option linter.unusedVariables false

abbrev num (n : Int) : Value := .int .i64 n
def nat (n : Nat) : Value := .int .i64 (n : Int)

theorem erase_set {α : Type} (r : α) : ∀ (l : List α) (i : Nat), (l.set i r).eraseIdx i = l.eraseIdx i
  | [], i => by simp
  | a :: l, 0 => rfl
  | a :: l, i + 1 => by simp [erase_set r l i]
theorem push {W w : World} {r' : Res} {l : List Res} {i : Nat} (h : Sep W w (r' :: l.eraseIdx i)) (hi : i < l.length) : Sep W w (l.set i r') := by
  refine h.perm ?_
  have h1 : i < (l.set i r').length := by simpa using hi
  have hp := pull_perm (l.set i r') i h1
  have e1 : (l.set i r')[i] = r' := by simp
  have e2 := erase_set r' l i
  rw [e1, e2] at hp
  exact hp.symm
/-- The thing at place i turns. -/
theorem at_ {W w w' : World} {r' : Res} {l : List Res} (h : Sep W w l) (i : Nat) (hi : i < l.length) (hd : ∀ rs, Sep W w (l[i] :: rs) → Sep W w' (r' :: rs)) : Sep W w' (l.set i r') := push (hd _ (h.pull i hi)) hi

/-! ### a thing that is read -/
/-- W: the world in which the law began. C holds while what lay there, and the thing's own blocks, stay. -/
def readR (W : World) (C : World → Prop) : Res :=
  ⟨fun w f => ∀ w', (∀ k, k < W.heap.size → w'.heap[k]? = W.heap[k]?) → (∀ k, f k → k < w.heap.size → w'.heap[k]? = w.heap[k]?) → C w',
   fun {w w1 f} h hm w' h1 h2 => h w' h1 (fun k hk hl => by
     have e := hm k hk
     have hl1 : k < w1.heap.size := by
       rcases Nat.lt_or_ge k w1.heap.size with h | h
       · exact h
       · rw [Array.getElem?_eq_none h, Array.getElem?_eq_getElem hl] at e
         cases e
     exact (h2 k hk hl1).trans e),
   fun h hm w' h1 h2 => h w' h1 (fun k hk => h2 k (hm k hk)),
   fun h w' h1 h2 => h w' h1 (fun k hk hl => h2 k ⟨hk, hl⟩ hl)⟩
theorem read_at {W w : World} {C : World → Prop} {rs : List Res} (h : Sep W w (readR W C :: rs)) : C w := by
  obtain ⟨f, hf, _⟩ := h.head
  exact hf w (fun k hk => h.1.block k hk) (fun _ _ _ => rfl)
/-- What lay there when the law began. -/
theorem read_old {W w : World} {C : World → Prop} {rs : List Res} (h : Sep W w rs) (hC : ∀ w', (∀ k, k < W.heap.size → w'.heap[k]? = W.heap[k]?) → C w') : Sep W w (readR W C :: rs) :=
  h.fresh (w' := w) (f := fun _ => False) (Turns.refl _ _) (fun w' h1 _ => hC w' h1) (fun _ h => h.elim)

/-- A cell that the thing always has lies in its own blocks, or lay there when the law began: it stays. -/
theorem read_cell {W w : World} {C : World → Prop} {rs : List Res} (h : Sep W w (readR W C :: rs)) (a : Addr) (hC : ∀ w', C w' → ∃ u, w'.cell? a = some u) {u : Value} (hu : w.cell? a = some u) :
    Sep W w (readR W (fun w' => C w' ∧ w'.cell? a = some u) :: rs) := by
  have hB := h.1
  refine h.told fun f hf w' h1 h2 => ⟨hf w' h1 h2, ?_⟩
  have hl : a.block < w.heap.size := World.block_lt_of_cell? w _ hu
  by_cases ho : a.block < W.heap.size
  · have e : w'.heap[a.block]? = w.heap[a.block]? := (h1 _ ho).trans (hB.block _ ho).symm
    unfold World.cell? at hu ⊢
    rw [e]
    exact hu
  by_cases hfa : f a.block
  · have e := h2 _ hfa hl
    unfold World.cell? at hu ⊢
    rw [e]
    exact hu
  · obtain ⟨v, hv⟩ := hC { w with heap := w.heap.setIfInBounds a.block (.map #[] 0) } (hf _ (fun k hk => by
      show (w.heap.setIfInBounds a.block (.map #[] 0))[k]? = _
      rw [Array.getElem?_setIfInBounds_ne (by omega)]
      exact hB.block k hk) (fun k hk _ => by
      show (w.heap.setIfInBounds a.block (.map #[] 0))[k]? = _
      rw [Array.getElem?_setIfInBounds_ne (by rintro rfl; exact hfa hk)]))
    exfalso
    unfold World.cell? at hv
    have e : (w.heap.setIfInBounds a.block (Obj.map #[] 0))[a.block]? = some (Obj.map #[] 0) := by simp [hl]
    simp only [e] at hv
    cases hv

/-! ### nodes -/
abbrev kP : Kd (ByteArray × List Int) := Kd.pair Kd.string (Kd.slice 3 (Kd.int .i64))
abbrev ints (ks : List Nat) : List Int := ks.map fun (n : Nat) => (n : Int)
def toP (x : Nd) : ByteArray × List Int := (x.1, ints x.2)
abbrev NodesC (A : Option Addr) (l : List Nd) (w : World) : Prop := Kd.C kP w A l.length (l.map toP)
theorem node_at {w : World} {A : Option Addr} {l : List Nd} (h : NodesC A l w) {i : Nat} (hi : i < l.length) :
    ∃ ad Ak ck, A = some ad ∧ w.cell? (ad.add (i * 2)) = some (.string l[i].1) ∧ w.cell? ⟨(ad.add (i * 2)).block, (ad.add (i * 2)).off + 1, none⟩ = some (.slice Ak l[i].2.length ck) ∧ l[i].2.length ≤ ck ∧
      Kd.C (Kd.int .i64) w Ak l[i].2.length (ints l[i].2) := by
  obtain ⟨ad, c, e, _, hK, hc0⟩ := Kd.C_get h (toP l[i]) (i : Int) (by omega) (by omega)
  have hx : (l.map toP).getD ((i : Int)).toNat (toP l[i]) = toP l[i] := by simp [hi]
  rw [hx] at hK
  have hc : ∀ j u, c[j]? = some u → w.cell? (ad.add (i * 2 + j)) = some u := hc0
  obtain ⟨_, _, rfl, rfl, ⟨A1, c1, rfl, l1, g1⟩⟩ := hK
  have hl : (toP l[i]).2.length = l[i].2.length := by simp [toP]
  rw [hl] at g1 hc l1
  exact ⟨ad, A1, c1, e, hc 0 _ rfl, by rw [← add_field _ _ 1 (by omega)]; exact hc 1 _ rfl, l1, g1⟩
theorem kid_at {w : World} {A : Option Addr} {n : Nat} {ks : List Nat} (h : Kd.C (Kd.int .i64) w A n (ints ks)) (hn : ks.length = n) {j : Nat} (hj : j < ks.length) : ∃ ad, A = some ad ∧ w.cell? (ad.add j) = some (num (ks[j] : Int)) := by
  obtain ⟨ad, e, hc⟩ := Kd.at_int h (j : Int) (by omega) (by omega)
  refine ⟨ad, e, ?_⟩
  rw [Int.toNat_natCast] at hc
  rw [hc]
  simp [rd, hj]

theorem kids_of {w : World} {ad : Addr} {l : List Nd} (h : NodesC (some ad) l w) {i : Nat} (hi : i < l.length) {Ak : Option Addr} {n ck : Nat} (hx : w.cell? ⟨(ad.add (i * 2)).block, (ad.add (i * 2)).off + 1, none⟩ = some (.slice Ak n ck)) :
    Kd.C (Kd.int .i64) w Ak l[i].2.length (ints l[i].2) := by
  obtain ⟨ad', Ak', ck', e, _, h2, _, h4⟩ := node_at h hi
  cases e
  rw [hx] at h2
  simp only [Option.some.injEq, Value.slice.injEq] at h2
  obtain ⟨rfl, _, _⟩ := h2
  exact h4
theorem nodes_cell {w : World} {ad : Addr} {l : List Nd} {i : Nat} (hi : i < l.length) : NodesC (some ad) l w → ∃ u, w.cell? ⟨(ad.add (i * 2)).block, (ad.add (i * 2)).off + 1, none⟩ = some u := by
  intro h
  obtain ⟨ad', _, _, e, _, h2, _⟩ := node_at h hi
  cases e
  exact ⟨_, h2⟩

/-! ### parts -/
/-- A part in memory: its save's number, where its kids lie. -/
structure PartM where
  part : Part
  number : Int
  A : Option Addr
  c : Nat
def PartM.kv (q : PartM) : Value := .slice q.A q.part.kids.length q.c
def cells1 (q : PartM) : List Value := [.string q.part.label, q.kv, num q.part.places, num q.number]
def partCells (items : List PartM) : List Value := items.flatMap cells1
theorem parts_len (items : List PartM) : (partCells items).length = items.length * 4 := by
  induction items with
  | nil => rfl
  | cons a l ih =>
    show (cells1 a ++ partCells l).length = _
    rw [List.length_append, ih]
    simp [cells1]
    omega
theorem parts_more (items : List PartM) (q : PartM) : partCells items ++ cells1 q = partCells (items ++ [q]) := by simp [partCells]
theorem parts_at (items : List PartM) : ∀ {k : Nat} (hk : k < items.length), (partCells items)[k * 4]? = some (.string items[k].part.label) ∧ (partCells items)[k * 4 + 1]? = some items[k].kv ∧ (partCells items)[k * 4 + 2]? = some (num items[k].part.places) ∧ (partCells items)[k * 4 + 3]? = some (num items[k].number) := by
  induction items with
  | nil => intro k hk; simp at hk
  | cons a l ih =>
    intro k hk
    have e : partCells (a :: l) = .string a.part.label :: a.kv :: num a.part.places :: num a.number :: partCells l := rfl
    rw [e]
    cases k with
    | zero => exact ⟨rfl, rfl, rfl, rfl⟩
    | succ k =>
      obtain ⟨h1, h2, h3, h4⟩ := ih (k := k) (by simpa using hk)
      rw [show (k + 1) * 4 = k * 4 + 1 + 1 + 1 + 1 by omega]
      exact ⟨by simpa using h1, by simpa [Nat.add_assoc] using h2, by simpa [Nat.add_assoc] using h3, by simpa [Nat.add_assoc] using h4⟩
theorem parts_set (items : List PartM) : ∀ {k : Nat} (hk : k < items.length) (f : PartM → PartM) (j : Nat) (u : Value), (cells1 items[k]).set j u = cells1 (f items[k]) → j < 4 → (partCells items).set (k * 4 + j) u = partCells (items.modify k f) := by
  induction items with
  | nil => intro k hk; simp at hk
  | cons a l ih =>
    intro k hk f j u hu hj
    have e : partCells (a :: l) = cells1 a ++ partCells l := rfl
    rw [e]
    cases k with
    | zero =>
      simp only [List.modify_zero_cons, List.getElem_cons_zero] at hu ⊢
      rw [Nat.zero_mul, Nat.zero_add, List.set_append_left _ _ (by simp [cells1]; omega), hu]
      rfl
    | succ k =>
      simp only [List.modify_succ_cons, List.getElem_cons_succ] at hu ⊢
      rw [List.set_append_right _ _ (by simp [cells1]; omega)]
      have : (k + 1) * 4 + j - (cells1 a).length = k * 4 + j := by simp [cells1]; omega
      rw [this, ih (by simpa using hk) f j u hu hj]
      rfl
/-- The kids of all parts lie in memory of their own. -/
def KidsAt (w : World) (items : List PartM) (f : Nat → Prop) : Prop := ∀ q ∈ items, RowAt w 3 1 q.kv q.part.kids.length (q.part.kids.map nat) f
def kidsR (items : List PartM) : Res :=
  ⟨fun w f => KidsAt w items f, fun h hm q hq => RowAt.move (h q hq) hm, fun h hm q hq => RowAt.mono (h q hq) hm, fun h q hq => RowAt.bound (h q hq)⟩
theorem kids_none {W w : World} {rs : List Res} (h : Sep W w rs) : Sep W w (kidsR [] :: rs) :=
  h.fresh (w' := w) (f := fun _ => False) (Turns.refl _ _) (fun q hq => by simp at hq) (fun _ h => h.elim)
theorem kids_more {W w : World} {rs : List Res} {items : List PartM} {q : PartM} (h : Sep W w (rowR 3 1 q.kv q.part.kids.length (q.part.kids.map nat) :: kidsR items :: rs)) : Sep W w (kidsR (items ++ [q]) :: rs) := by
  refine h.join fun f g hf hg x hx => ?_
  rcases List.mem_append.1 hx with hx | hx
  · exact RowAt.mono (hg x hx) (fun _ h => .inr h)
  · simp only [List.mem_singleton] at hx
    subst hx
    exact RowAt.mono hf (fun _ h => .inl h)
theorem kids_modify {W w : World} {rs : List Res} {items : List PartM} (h : Sep W w (kidsR items :: rs)) (k : Nat) (g : PartM → PartM) (hg : ∀ q, (g q).kv = q.kv ∧ (g q).part.kids = q.part.kids) : Sep W w (kidsR (items.modify k g) :: rs) := by
  refine h.told fun f hf q hq => ?_
  obtain ⟨i, hi⟩ := List.mem_iff_getElem?.1 hq
  rw [List.getElem?_modify] at hi
  cases hp : items[i]? with
  | none => rw [hp] at hi; cases hi
  | some r =>
    rw [hp] at hi
    have hi2 : (if k = i then g r else r) = q := Option.some.inj hi
    have hr := hf r (List.mem_of_getElem? hp)
    subst hi2
    split
    · rw [(hg r).1, (hg r).2]
      exact hr
    · exact hr
theorem kids_cell {W w : World} {rs : List Res} {items : List PartM} (h : Sep W w (kidsR items :: rs)) {q : PartM} (hq : q ∈ items) {j : Nat} (hj : j < q.part.kids.length) : ∃ b, q.A = some ⟨b, 0, none⟩ ∧ w.cell? ⟨b, j, none⟩ = some (nat q.part.kids[j]) := by
  obtain ⟨f, hf, _⟩ := h.head
  obtain ⟨b, cap, e, _, hc, _⟩ := row_some (hf q hq).1 (by omega)
  unfold PartM.kv at e
  simp only [Value.slice.injEq] at e
  exact ⟨b, e.1, hc j _ (by simp [hj])⟩
/-- A store into a list of one's own. -/
theorem stored_n {W w : World} {rs : List Res} {e size n c b j : Nat} {u : Value} {xs : List Value} (h : Sep W w (rowR e size (.slice (some ⟨b, 0, none⟩) n c) n xs :: rs)) (hj : j < n * size) (hu : u.oneCell' = true) :
    Sep W (w.setCell ⟨b, j, none⟩ u) (rowR e size (.slice (some ⟨b, 0, none⟩) n c) n (xs.set j u) :: rs) := by
  refine h.turn fun f ⟨h1, h2⟩ => ⟨⟨?_, fun k hk => .inl (h2 k hk)⟩, Turns.setCell w ⟨b, j, none⟩ u (h2 b rfl)⟩
  refine ⟨by have := h1.1; simpa using this, .inr ?_⟩
  rcases h1.2 with ⟨e1, _⟩ | ⟨g', cap', cur, e1, hb, hgg, hn, hc, hsz, htk⟩
  · cases e1
  · simp only [Value.slice.injEq, Option.some.injEq, Addr.mk.injEq, and_true, true_and] at e1
    obtain ⟨rfl, rfl⟩ := e1
    refine ⟨b, c, cur.setIfInBounds j u, rfl, hb, set_block hgg _ _, hn, hc, by simpa using hsz, ?_⟩
    rw [Array.toList_setIfInBounds, List.take_set, htk]
def bumpM (q : PartM) : PartM := { q with part := bump q.part }
theorem bumpM_parts (items : List PartM) (k : Nat) : (items.modify k bumpM).map PartM.part = (items.map PartM.part).modify k bump := by
  apply List.ext_getElem?
  intro i
  rw [List.getElem?_map, List.getElem?_modify, List.getElem?_modify, List.getElem?_map]
  cases items[i]? with
  | none => rfl
  | some q =>
    by_cases e : k = i
    · simp [e, bumpM]
    · simp [e]
theorem bumpM_cells (items : List PartM) {k : Nat} (hk : k < items.length) : (partCells items).set (k * 4 + 2) (num ((items[k].part.places : Int) + 1)) = partCells (items.modify k bumpM) :=
  parts_set items hk bumpM 2 _ rfl (by omega)
theorem modify_all {α : Type} {P : α → Prop} {l : List α} (h : ∀ q ∈ l, P q) {f : α → α} (hf : ∀ q, P q → P (f q)) (k : Nat) : ∀ q ∈ l.modify k f, P q := by
  intro q hq
  obtain ⟨i, hi⟩ := List.mem_iff_getElem?.1 hq
  rw [List.getElem?_modify] at hi
  cases hp : l[i]? with
  | none => rw [hp] at hi; cases hi
  | some r =>
    rw [hp] at hi
    have hi2 : (if k = i then f r else r) = q := Option.some.inj hi
    have hr := h r (List.mem_of_getElem? hp)
    subst hi2
    split
    · exact hf r hr
    · exact hr
theorem row_nil {W w : World} {rs : List Res} (h : Sep W w rs) (e size : Nat) : Sep W w (rowR e size (.slice none 0 0) 0 [] :: rs) :=
  h.fresh (w' := w) (f := fun _ => False) (Turns.refl _ _) ⟨World.ownsRow_nil _ _ _ _, fun k hk => by simp [Value.ownBlock] at hk⟩ (fun _ h => h.elim)
theorem info91 : (Try.prog.info? 91).map (fun i => (i.zero, i.size, i.bytes)) = some (some (.agg #[.string .empty, .slice none 0 0, .int .i64 0, .int .i64 0]), 4, 56) := by kernel_rfl
theorem info3 : (Try.prog.info? 3).map (fun i => (i.zero, i.size, i.bytes)) = some (some (.int .i64 0), 1, 8) := by kernel_rfl
theorem info4 : (Try.prog.info? 4).map (fun i => (i.zero, i.size, i.bytes)) = some (some (.bool false), 1, 1) := by kernel_rfl
theorem info9 : (Try.prog.info? 9).map (fun i => (i.zero, i.size, i.bytes)) = some (some (.string .empty), 1, 16) := by kernel_rfl
theorem row_cell {W w : World} {rs : List Res} {e size b n c : Nat} {xs : List Value} (h : Sep W w (rowR e size (.slice (some ⟨b, 0, none⟩) n c) n xs :: rs)) {j : Nat} {u : Value} (hu : xs[j]? = some u) : w.cell? ⟨b, j, none⟩ = some u := by
  have ho := h.row
  have hl := ho.1
  have hj := (List.getElem?_eq_some_iff.1 hu).1
  have hn : 0 < n := by
    rcases Nat.eq_zero_or_pos n with h0 | h0
    · rw [h0] at hl; simp at hl; rw [hl] at hj; simp at hj
    · exact h0
  obtain ⟨g, cap, e1, _, hc, _⟩ := row_some ho hn
  simp only [Value.slice.injEq, Option.some.injEq, Addr.mk.injEq, and_true, true_and] at e1
  rw [e1.1]
  exact hc j u hu
theorem box_cell {W w : World} {rs : List Res} {b : Nat} {t : TypeId} {cs : Array Value} (h : Sep W w (boxR b t cs :: rs)) {j : Nat} {u : Value} (hu : cs[j]? = some u) : w.cell? ⟨b, j, none⟩ = some u ∧ w.frozen? ⟨b, j, none⟩ = false :=
  ⟨(blk_cell (box_at h) j).trans hu, blk_frozen (box_at h) j⟩
/-- A block of one's own and a list of one's own lie apart. -/
theorem ne_row {W w : World} {rs : List Res} {b : Nat} {t : TypeId} {cs : Array Value} {e size n : Nat} {v : Value} {xs : List Value} (h : Sep W w (boxR b t cs :: rowR e size v n xs :: rs)) : v.ownBlock ≠ some b := by
  obtain ⟨_, fp, ⟨f, g, h1, ⟨f2, g2, k1, _, _, k4, _⟩, h3, _⟩, _⟩ := h
  intro hv
  exact h3 b h1.2 (k4 b (k1.2 b hv)).1
/-- Two lists of one's own lie apart. -/
theorem ne_rows {W w : World} {rs : List Res} {e size n c b : Nat} {xs : List Value} {e' size' n' : Nat} {v : Value} {ys : List Value} (h : Sep W w (rowR e size (.slice (some ⟨b, 0, none⟩) n c) n xs :: rowR e' size' v n' ys :: rs)) : v.ownBlock ≠ some b := by
  obtain ⟨_, fp, ⟨f, g, h1, ⟨f2, g2, k1, _, _, k4, _⟩, h3, _⟩, _⟩ := h
  intro hv
  exact h3 b (h1.2 b rfl) (k4 b (k1.2 b hv)).1
theorem read_weak {W w : World} {C C' : World → Prop} {rs : List Res} (h : Sep W w (readR W C :: rs)) (hC : ∀ w', C w' → C' w') : Sep W w (readR W C' :: rs) := h.told fun f hf w' h1 h2 => hC w' (hf w' h1 h2)
theorem row_free {W w : World} {rs : List Res} {e size b n c : Nat} {xs : List Value} (h : Sep W w (rowR e size (.slice (some ⟨b, 0, none⟩) n c) n xs :: rs)) (hn : 0 < n) (j : Nat) : w.frozen? ⟨b, j, none⟩ = false := by
  obtain ⟨g, cap, e1, _, _, hf, _⟩ := row_some h.row hn
  simp only [Value.slice.injEq, Option.some.injEq, Addr.mk.injEq, and_true, true_and] at e1
  rw [e1.1]
  exact hf j
theorem new_cell (w : World) (u : Value) (t : TypeId) : (w.alloc (.cells #[u] t)).cell? ⟨w.heap.size, 0, none⟩ = some u := by simp
theorem new_cell' (w : World) (u : Value) (t : TypeId) {n : Nat} (h : w.heap.size = n) : (w.alloc (.cells #[u] t)).cell? ⟨n, 0, none⟩ = some u := by subst h; simp
/-- 'append(l, u)' at the operation, l a list of one's own, of elements of one cell. -/
theorem wp_one {ops : Array Oper} {rest : List Oper} {o : Oper} {a : Act} {Q : Exit → Act → World → Prop} {W w : World} {rs : List Res} {v : Value} {n : Nat} {xs : List Value} {e : TypeId} (M : Sep W w (rowR e 1 v n xs :: rs)) (hgd : o.guard = none) (sl x : Operand) (t : TypeId) {z : Value} {b : Nat}
    (hop : o.op = .call { callee := .builtin .append, args := #[sl, x], argTypes := #[t, t] }) (ht : Try.prog.underlying t = some (.slice e)) (hi : (Try.prog.info? e).map (fun i => (i.zero, i.size, i.bytes)) = some (some z, 1, b)) (hz : z.cells.size = 1) (hs : a.eval sl = v)
    {ad : Addr} {c2 : Nat} {u : Value} (hx : a.eval x = .slice (some ad) 1 c2) (hnew : w.cell? ad = some u) (hu : u.oneCell' = true) (hb : b ≤ 16) (hn : n ≤ 4398046511104)
    (h : ∀ A c w', n + 1 ≤ c → Sep W w' (rowR e 1 (.slice A (n + 1) c) (n + 1) (xs ++ [u]) :: rs) → wpList Try.prog ops Q rest (a.put o.dst (.slice A (n + 1) c)) w') : wpList Try.prog ops Q (o :: rest) a w := by
  obtain ⟨i0, hi0, hz0, hz1, hz2⟩ := info_parts hi
  refine wpList_append_own_at w hgd sl x t hop 0 e i0 z 1 b ht hi0 hz0 hz1 hz2 hz (by decide) v n xs hs M.row ad 1 c2 [u] hx rfl ?_ (by intro y hy; simp at hy; subst hy; exact hu) (by unfold maxLen; omega) ?_ (Nat.zero_le _) ?_
  · intro j y hj
    cases j with
    | zero =>
      have : u = y := by simpa using hj
      subst this
      rw [show ad.add 0 = ad from by simp [Addr.add]]
      exact hnew
    | succ j => simp at hj
  · have : (n + 1) * b ≤ (n + 1) * 16 := Nat.mul_le_mul_left _ hb
    omega
  intro v' w' hown hgrow _ hat
  have M2 := M.appended hown hgrow hat
  obtain ⟨A, c, e2, hc⟩ := row_slice hown
  subst e2
  exact h A c w' hc M2
/-- 'make([]T, n)' at the operation, T of one cell. -/
theorem wp_make {ops : Array Oper} {rest : List Oper} {o : Oper} {a : Act} {Q : Exit → Act → World → Prop} {W w : World} {rs : List Res} (M : Sep W w rs) (hgd : o.guard = none) (lo co : Operand) (t e : TypeId) {z : Value} {b : Nat} (hop : o.op = Op.makeSlice t lo co) (ht : Try.prog.underlying t = some (.slice e))
    (hi : (Try.prog.info? e).map (fun i => (i.zero, i.size, i.bytes)) = some (some z, 1, b)) (hz : z.cells = #[z]) {n : Nat} (hl : a.eval lo = .int .i64 (n : Int)) (hc : a.eval co = .int .i64 (n : Int)) (hb : b ≤ 16) (hn : n ≤ 8796093022208)
    (h : ∀ w', Sep W w' (rowR e 1 (.slice (some ⟨w.heap.size, 0, none⟩) n n) n (List.replicate n z) :: rs) → wpList Try.prog ops Q rest (a.put o.dst (.slice (some ⟨w.heap.size, 0, none⟩) n n)) w') : wpList Try.prog ops Q (o :: rest) a w := by
  obtain ⟨i0, hi0, hz0, hz1, hz2⟩ := info_parts hi
  refine wpList_make_full w hgd lo co t hop 0 e i0 z 1 ht hi0 hz0 hz1 .i64 .i64 (n : Int) (n : Int) n hl hc rfl rfl ?_ (by unfold maxLen; omega) (Nat.zero_le _) ?_
  · rw [hz2]
    have : b * n ≤ 16 * n := Nat.mul_le_mul_right _ hb
    omega
  intro w' hown hgrow
  refine h w' (M.fresh (f := fun k => w.heap.size ≤ k) (Turns.of_grown hgrow (fun k hk => by cases hk)) ⟨?_, fun k hk => ?_⟩ (fun _ hk => hk))
  · rw [hz, Nat.mul_one, toList_madeCells_one] at hown
    exact hown
  · have : w.heap.size = k := by simpa [Value.ownBlock] using hk
    omega
end Go.Proofs.Ytkonloadedbpkaa.FoldMem
