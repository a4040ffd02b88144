/- NodeMem, Lits, Spare, Onto, CutW. -/
import Derived.Test.YtkonloadedbpkaaZ3
import Derived.Laws.Rows
import Derived.ArgAppend
namespace Go.Proofs.Ytkonloadedbpkaa.NodeMem
open Go.RowKit Go.Maps Go.Proofs.Ytkonloadedbpkaa.Sep Go.Proofs.Ytkonloadedbpkaa.FMaps Go.Proofs.Ytkonloadedbpkaa.FoldPure Go.Proofs.Ytkonloadedbpkaa.FoldMem
open Go.Proofs.YtkonloadedbpkaaW.PrintWords
open Go.Proofs.YtkonloadedbpkaaW.PrintLast
set_option linter.unusedVariables false
set_option linter.unusedSimpArgs false

/-- A node in memory is a part in memory of which the places and the number say nothing. -/
def nd (q : PartM) : Nd := (q.part.label, q.part.kids)
def cells2 (q : PartM) : List Value := [.string q.part.label, q.kv]
def nodeCells (items : List PartM) : List Value := items.flatMap cells2
theorem add0 (b j : Nat) : (⟨b, 0, none⟩ : Addr).add j = ⟨b, j, none⟩ := by unfold Addr.add; split <;> simp_all
theorem nodes_more (items : List PartM) (q : PartM) : nodeCells items ++ cells2 q = nodeCells (items ++ [q]) := by simp [nodeCells]
theorem nodes_at (items : List PartM) : ∀ {k : Nat} (hk : k < items.length), (nodeCells items)[k * 2]? = some (.string items[k].part.label) ∧ (nodeCells items)[k * 2 + 1]? = some items[k].kv := by
  induction items with
  | nil => intro k hk; simp at hk
  | cons a l ih =>
    intro k hk
    have e : nodeCells (a :: l) = .string a.part.label :: a.kv :: nodeCells l := rfl
    rw [e]
    cases k with
    | zero => exact ⟨rfl, rfl⟩
    | succ k =>
      obtain ⟨h1, h2⟩ := ih (k := k) (by simpa using hk)
      rw [show (k + 1) * 2 = k * 2 + 1 + 1 by omega]
      exact ⟨by simpa using h1, by simpa [Nat.add_assoc] using h2⟩
theorem kid_reads {w : World} {q : PartM} {f : Nat → Prop} (h : RowAt w 3 1 q.kv q.part.kids.length (q.part.kids.map nat) f) (hl : q.part.kids.length ≤ 9223372036854775807) : q.part.kids.length ≤ q.c ∧ Kd.C (Kd.int .i64) w q.A q.part.kids.length (ints q.part.kids) := by
  obtain ⟨A, cap, e, hc⟩ := row_slice h.1
  unfold PartM.kv at e
  simp only [Value.slice.injEq, true_and] at e
  obtain ⟨eA, ec⟩ := e
  refine ⟨by omega, by simp, hl, fun hn => ?_⟩
  obtain ⟨b, cap2, e2, _, hcell, _⟩ := row_some h.1 hn
  unfold PartM.kv at e2
  simp only [Value.slice.injEq, true_and] at e2
  refine ⟨⟨b, 0, none⟩, e2.1, fun j p hp => ⟨[.int .i64 p], rfl, rfl, fun i u hu => ?_⟩⟩
  have hi : i = 0 := by
    have := (List.getElem?_eq_some_iff.1 hu).1
    simpa using this
  subst hi
  simp at hu
  subst hu
  rw [List.getElem?_map] at hp
  obtain ⟨k, hk, rfl⟩ := Option.map_eq_some_iff.1 hp
  have := hcell j (nat k) (by rw [List.getElem?_map, hk]; rfl)
  have e3 : (⟨b, 0, none⟩ : Addr).add (j * (Kd.int .i64).sz + 0) = ⟨b, j, none⟩ := by
    show (⟨b, 0, none⟩ : Addr).add (j * 1 + 0) = _
    rw [add0, Nat.mul_one, Nat.add_zero]
  rw [e3]
  exact this
/-- Nodes of one's own, read from now on. -/
theorem nodes_read {W w : World} {rs : List Res} {A : Option Addr} {c : Nat} {items : List PartM} (h : Sep W w (rowR 27 2 (.slice A items.length c) items.length (nodeCells items) :: kidsR items :: rs)) (hl : items.length ≤ 4194304) (hk : ∀ q ∈ items, q.part.kids.length ≤ 4194304) : Sep W w (readR W (NodesC A (items.map nd)) :: rs) := by
  refine h.join fun f g hf hg w' _ hw => ?_
  have hf2 := (RowAt.bound hf).move (w' := w') fun k hk => hw k (.inl hk.1) hk.2
  have hg2 : ∀ q ∈ items, RowAt w' 3 1 q.kv q.part.kids.length (q.part.kids.map nat) (fun k => g k ∧ k < w.heap.size) := fun q hq => (RowAt.bound (hg q hq)).move fun k hk => hw k (.inr hk.1) hk.2
  show ReadsRow _ _ _ _ _ _
  rw [List.length_map]
  refine ⟨by simp, by omega, fun hn => ?_⟩
  obtain ⟨b, cap, e, _, hcell, _⟩ := row_some hf2.1 hn
  simp only [Value.slice.injEq, true_and] at e
  refine ⟨⟨b, 0, none⟩, e.1, fun j p hp => ?_⟩
  rw [List.map_map, List.getElem?_map] at hp
  obtain ⟨q, hq, rfl⟩ := Option.map_eq_some_iff.1 hp
  have hj := (List.getElem?_eq_some_iff.1 hq).1
  have hq2 : items[j] = q := (List.getElem?_eq_some_iff.1 hq).2
  have hqm := List.mem_of_getElem? hq
  obtain ⟨h1, h2⟩ := kid_reads (hg2 q hqm) (by have := hk q hqm; omega)
  obtain ⟨n1, n2⟩ := nodes_at items hj
  rw [hq2] at n1 n2
  refine ⟨[.string q.part.label, q.kv], rfl, ⟨[.string q.part.label], [q.kv], rfl, rfl, ⟨q.A, q.c, ?_, ?_, ?_⟩⟩, fun i u hu => ?_⟩
  · show [q.kv] = [.slice q.A (ints q.part.kids).length q.c]
    simp [PartM.kv]
  · show (ints q.part.kids).length ≤ q.c
    simpa using h1
  · show Kd.C (Kd.int .i64) w' q.A (ints q.part.kids).length (ints q.part.kids)
    rw [List.length_map]
    exact h2
  · have e3 : ∀ i, (⟨b, 0, none⟩ : Addr).add (j * kP.sz + i) = ⟨b, j * 2 + i, none⟩ := fun i => add0 b (j * 2 + i)
    rw [e3]
    match i, hu with
    | 0, hu => exact hcell _ u (by simp at hu; subst hu; exact n1)
    | 1, hu => exact hcell _ u (by simp at hu; subst hu; exact n2)
    | i + 2, hu => simp at hu
theorem info27 : (Try.prog.info? 27).map (fun i => (i.zero, i.size, i.bytes)) = some (some (.agg #[.string .empty, .slice none 0 0]), 2, 40) := by kernel_rfl
/-- 'append(l, x)' at the operation, l nodes of one's own. -/
theorem wp_node {ops : Array Oper} {rest : List Oper} {o : Oper} {a : Act} {Q : Exit → Act → World → Prop} {W w : World} {rs : List Res} {v : Value} {n : Nat} {xs : List Value} (M : Sep W w (rowR 27 2 v n xs :: rs)) (hgd : o.guard = none) (sl x : Operand)
    (hop : o.op = .call { callee := .builtin .append, args := #[sl, x], argTypes := #[24, 24] }) (hs : a.eval sl = v)
    {b c2 : Nat} {u0 u1 : Value} (hx : a.eval x = .slice (some ⟨b, 0, none⟩) 1 c2) (hnew : w.heap[b]? = some (.cells #[u0, u1] 27 (0, 0))) (hu0 : u0.oneCell' = true) (hu1 : u1.oneCell' = true) (hn : n ≤ 4194304)
    (h : ∀ A c w', n + 1 ≤ c → Sep W w' (rowR 27 2 (.slice A (n + 1) c) (n + 1) (xs ++ [u0, u1]) :: rs) → wpList Try.prog ops Q rest (a.put o.dst (.slice A (n + 1) c)) w') : wpList Try.prog ops Q (o :: rest) a w := by
  obtain ⟨i0, hi0, hz0, hz1, hz2⟩ := info_parts info27
  refine wpList_append_own_at w hgd sl x 24 hop 0 27 i0 _ 2 40 Try.underlying24 hi0 hz0 hz1 hz2 rfl (by decide) v n xs hs M.row ⟨b, 0, none⟩ 1 c2 [u0, u1] hx rfl ?_ (by intro y hy; simp at hy; rcases hy with rfl | rfl <;> assumption) (by unfold maxLen; omega) ?_ (Nat.zero_le _) ?_
  · intro j y hj
    rw [add0, (cell_at hnew j).1]
    simpa using hj
  · omega
  intro v' w' hown hgrow _ hat
  have M2 := M.appended hown hgrow hat
  obtain ⟨A, c, e2, hc⟩ := row_slice hown
  subst e2
  exact h A c w' hc M2
/-- A node more: its cells lie in the list, its kids beside it. -/
theorem item_more {W w : World} {rs : List Res} {v : Value} {items : List PartM} {q : PartM} (h : Sep W w (rowR 27 2 v (items.length + 1) (nodeCells items ++ [.string q.part.label, q.kv]) :: kidsR items :: rowR 3 1 q.kv q.part.kids.length (q.part.kids.map nat) :: rs)) :
    Sep W w (rowR 27 2 v (items ++ [q]).length (nodeCells (items ++ [q])) :: kidsR (items ++ [q]) :: rs) := by
  have h1 := (kids_more (h.swap3.swap3.swap)).swap
  rw [← nodes_more, List.length_append, List.length_singleton]
  exact h1
theorem build27 (s : ByteArray) (w : World) : (Instr.build 27 #[(0, .string s)]).run Try.prog w = .ok (.agg #[.string s, .slice none 0 0]) w := by kernel_rfl
end Go.Proofs.Ytkonloadedbpkaa.NodeMem

namespace Go.Proofs.Ytkonloadedbpkaa.Lits
open Go.RowKit Go.Proofs.Ytkonloadedbpkaa.Sep Go.Proofs.Ytkonloadedbpkaa.FoldMem Go.Proofs.Ytkonloadedbpkaa.NodeMem
open Go.Proofs.YtkonloadedbpkaaW.PrintWords
open Go.Proofs.YtkonloadedbpkaaW.PrintLast
set_option linter.unusedVariables false
/-- A list of one's own, of elements of one cell, as what the printed contracts read. -/
theorem row_C1 {α : Type} {w : World} {K : Kd α} {e : TypeId} {n c : Nat} {A : Option Addr} {enc : α → Value} (hsz : K.sz = 1) (hK : ∀ x, K.K w x [enc x]) {xs : List α} (h : w.ownsRow 0 e 1 (.slice A n c) n (xs.map enc)) (hn : n ≤ 9223372036854775807) : n ≤ c ∧ Kd.C K w A n xs := by
  obtain ⟨A2, c2, e2, hc⟩ := row_slice h
  simp only [Value.slice.injEq, true_and] at e2
  obtain ⟨rfl, rfl⟩ := e2
  have hl := h.1
  simp only [List.length_map, Nat.mul_one] at hl
  refine ⟨hc, hl, hn, fun hp => ?_⟩
  obtain ⟨b, cap, e3, _, hcell, _⟩ := row_some h hp
  simp only [Value.slice.injEq, true_and] at e3
  refine ⟨⟨b, 0, none⟩, e3.1, fun j p hp => ⟨[enc p], by rw [hsz]; rfl, hK p, fun i u hu => ?_⟩⟩
  have hi : i = 0 := by
    have := (List.getElem?_eq_some_iff.1 hu).1
    simpa using this
  subst hi
  simp at hu
  subst hu
  have := hcell j (enc p) (by rw [List.getElem?_map, hp]; rfl)
  rw [hsz, Nat.mul_one, Nat.add_zero, add0]
  exact this
theorem row_Cs {w : World} {n c : Nat} {A : Option Addr} {xs : List ByteArray} (h : w.ownsRow 0 9 1 (.slice A n c) n (xs.map Value.string)) (hn : n ≤ 9223372036854775807) : n ≤ c ∧ Kd.C Kd.string w A n xs :=
  row_C1 rfl (fun _ => rfl) h hn
theorem row_Ci {w : World} {n c : Nat} {A : Option Addr} {xs : List Int} (h : w.ownsRow 0 3 1 (.slice A n c) n (xs.map num)) (hn : n ≤ 9223372036854775807) : n ≤ c ∧ Kd.C (Kd.int .i64) w A n xs :=
  row_C1 rfl (fun _ => rfl) h hn
end Go.Proofs.Ytkonloadedbpkaa.Lits

namespace Go.Proofs.Ytkonloadedbpkaa.Spare
open Go.RowKit Go.Maps Go.Proofs.Ytkonloadedbpkaa.Sep Go.Proofs.Ytkonloadedbpkaa.FMaps Go.Proofs.Ytkonloadedbpkaa.FoldPure Go.Proofs.Ytkonloadedbpkaa.FoldMem Go.Proofs.Ytkonloadedbpkaa.NodeMem Go.Proofs.Ytkonloadedbpkaa.Lits
open Go.Proofs.YtkonloadedbpkaaW.PrintWords
open Go.Proofs.YtkonloadedbpkaaW.PrintLast
set_option linter.unusedVariables false
set_option linter.unusedSimpArgs false

/-- 'append(l, xs...)' at the operation, l of one's own, xs a list of elements of one cell that lies anywhere. -/
theorem wp_many {ops : Array Oper} {rest : List Oper} {o : Oper} {a : Act} {Q : Exit → Act → World → Prop} {W w : World} {rs : List Res} {v : Value} {n : Nat} {xs : List Value} {e : TypeId} (M : Sep W w (rowR e 1 v n xs :: rs)) (hgd : o.guard = none) (sl x : Operand) (t : TypeId) {z : Value} {b : Nat}
    (hop : o.op = .call { callee := .builtin .append, args := #[sl, x], argTypes := #[t, t] }) (ht : Try.prog.underlying t = some (.slice e)) (hi : (Try.prog.info? e).map (fun i => (i.zero, i.size, i.bytes)) = some (some z, 1, b)) (hz : z.cells.size = 1) (hs : a.eval sl = v)
    {A : Option Addr} {m c2 : Nat} {news : List Value} (hx : a.eval x = .slice A m c2) (hl : news.length = m) (hA : A = none → m = 0) (hnew : ∀ ad, A = some ad → ∀ j u, news[j]? = some u → w.cell? (ad.add j) = some u) (hu : ∀ u ∈ news, u.oneCell' = true) (hb : b ≤ 16) (hn : n + m ≤ 4398046511104)
    (h : ∀ v' w', Sep W w' (rowR e 1 v' (n + m) (xs ++ news) :: rs) → wpList Try.prog ops Q rest (a.put o.dst v') w') : wpList Try.prog ops Q (o :: rest) a w := by
  obtain ⟨i0, hi0, hz0, hz1, hz2⟩ := info_parts hi
  rcases A with _ | ad
  · have h0 := hA rfl
    subst h0
    obtain rfl : news = [] := List.eq_nil_of_length_eq_zero hl
    refine wpList_plain hgd fun K hK => ?_
    have hown := M.row
    have hrun : (Builtin.append_ #[t, t] o.type #[v, .slice none 0 c2]).run Try.prog w = .ok v w := by
      rcases hown.2 with ⟨rfl, hn0⟩ | ⟨g, cap, cur, rfl, _, _, hnc, _⟩
      · simp [Builtin.append_, run_underlying ht, sizeOf, typeInfo, hi0, Builtin.lenOf, Builtin.firstCells]
      · simp [Builtin.append_, run_underlying ht, sizeOf, typeInfo, hi0, Builtin.lenOf, Builtin.firstCells, hnc, storeCells]
    unfold Oper.wp
    simp [execOp, hop, resolve, invoke, builtin, hs, hx, hrun, Result.andThen]
    refine hK _ _ (h v w ?_)
    rw [List.append_nil]
    exact M
  · refine wpList_append_own_at w hgd sl x t hop 0 e i0 z 1 b ht hi0 hz0 hz1 hz2 hz (by decide) v n xs hs M.row ad m c2 news hx (by omega) (hnew ad rfl) hu (by unfold maxLen; omega) ?_ (Nat.zero_le _) ?_
    · have : (n + m) * b ≤ 4398046511104 * 16 := Nat.mul_le_mul hn hb
      omega
    intro v' w' hown hgrow _ hat
    exact h v' w' (M.appended hown hgrow hat)
/-- 'append(l, x, y)', two nodes at once. -/
theorem wp_two {ops : Array Oper} {rest : List Oper} {o : Oper} {a : Act} {Q : Exit → Act → World → Prop} {W w : World} {rs : List Res} {v : Value} {n : Nat} {xs : List Value} (M : Sep W w (rowR 27 2 v n xs :: rs)) (hgd : o.guard = none) (sl x : Operand)
    (hop : o.op = .call { callee := .builtin .append, args := #[sl, x], argTypes := #[24, 24] }) (hs : a.eval sl = v)
    {b c2 : Nat} {u0 u1 u2 u3 : Value} (hx : a.eval x = .slice (some ⟨b, 0, none⟩) 2 c2) (hnew : w.heap[b]? = some (.cells #[u0, u1, u2, u3] 27 (0, 0))) (hu0 : u0.oneCell' = true) (hu1 : u1.oneCell' = true) (hu2 : u2.oneCell' = true) (hu3 : u3.oneCell' = true) (hn : n ≤ 4194304)
    (h : ∀ g c w', n + 2 ≤ c → Sep W w' (rowR 27 2 (.slice (some ⟨g, 0, none⟩) (n + 2) c) (n + 2) (xs ++ [u0, u1, u2, u3]) :: rs) → wpList Try.prog ops Q rest (a.put o.dst (.slice (some ⟨g, 0, none⟩) (n + 2) c)) w') : wpList Try.prog ops Q (o :: rest) a w := by
  obtain ⟨i0, hi0, hz0, hz1, hz2⟩ := info_parts info27
  refine wpList_append_own_at w hgd sl x 24 hop 0 27 i0 _ 2 40 Try.underlying24 hi0 hz0 hz1 hz2 rfl (by decide) v n xs hs M.row ⟨b, 0, none⟩ 2 c2 [u0, u1, u2, u3] hx rfl ?_ (by intro y hy; simp at hy; rcases hy with rfl | rfl | rfl | rfl <;> assumption) (by unfold maxLen; omega) (by omega) (Nat.zero_le _) ?_
  · intro j y hj
    rw [add0, (cell_at hnew j).1]
    simpa using hj
  intro v' w' hown hgrow _ hat
  have M2 := M.appended hown hgrow hat
  obtain ⟨g, c, rfl, hc, _⟩ := row_some hown (by omega)
  exact h g c w' hc M2

/-! ### the nodes -/
structure SpM where
  lab : ByteArray
  kids : List Int
  A : Option Addr
  c : Nat
def pr (q : SpM) : ByteArray × List Int := (q.lab, q.kids)
def cellsS (items : List SpM) : List Value := items.flatMap fun q => [.string q.lab, .slice q.A q.kids.length q.c]
def spRow (x y : Int) (q : SpM) : List Value := q.kids.map num ++ [num x, num y]
def SpAt (x y : Int) (w : World) (items : List SpM) (f : Nat → Prop) : Prop := ∀ q ∈ items, RowAt w 3 1 (.slice q.A (q.kids.length + 2) q.c) (q.kids.length + 2) (spRow x y q) f
def spR (x y : Int) (items : List SpM) : Res :=
  ⟨fun w f => SpAt x y w items f, fun h hm q hq => RowAt.move (h q hq) hm, fun h hm q hq => RowAt.mono (h q hq) hm, fun h q hq => RowAt.bound (h q hq)⟩
theorem sp_none {W w : World} {rs : List Res} (x y : Int) (h : Sep W w rs) : Sep W w (spR x y [] :: rs) :=
  h.fresh (w' := w) (f := fun _ => False) (Turns.refl _ _) (fun q hq => by simp at hq) (fun _ h => h.elim)
theorem sp_more {W w : World} {rs : List Res} {x y : Int} {items : List SpM} {q : SpM} (h : Sep W w (rowR 3 1 (.slice q.A (q.kids.length + 2) q.c) (q.kids.length + 2) (spRow x y q) :: spR x y items :: rs)) : Sep W w (spR x y (items ++ [q]) :: rs) := by
  refine h.join fun f g hf hg p hp => ?_
  rcases List.mem_append.1 hp with hp | hp
  · exact (hg p hp).mono fun k hk => .inr hk
  · obtain rfl := List.mem_singleton.1 hp
    exact RowAt.mono hf fun k hk => .inl hk
theorem cellsS_more (items : List SpM) (q : SpM) : cellsS items ++ [.string q.lab, .slice q.A q.kids.length q.c] = cellsS (items ++ [q]) := by simp [cellsS]
theorem cellsS_len (items : List SpM) : (cellsS items).length = items.length * 2 := by
  induction items with
  | nil => rfl
  | cons a l ih =>
    show ([_, _] ++ cellsS l).length = _
    rw [List.length_append, ih]
    simp only [List.length_cons, List.length_nil]
    omega
theorem cellsS_at (items : List SpM) : ∀ {k : Nat} (hk : k < items.length), (cellsS items)[k * 2]? = some (.string items[k].lab) ∧ (cellsS items)[k * 2 + 1]? = some (.slice items[k].A items[k].kids.length items[k].c) := by
  induction items with
  | nil => intro k hk; simp at hk
  | cons a l ih =>
    intro k hk
    have e : cellsS (a :: l) = .string a.lab :: .slice a.A a.kids.length a.c :: cellsS l := rfl
    rw [e]
    cases k with
    | zero => exact ⟨rfl, rfl⟩
    | succ k =>
      obtain ⟨h1, h2⟩ := ih (k := k) (by simpa using hk)
      rw [show (k + 1) * 2 = k * 2 + 1 + 1 by omega]
      exact ⟨by simpa using h1, by simpa [Nat.add_assoc] using h2⟩
/-- What may be read of them: the list cut short, its cells, and each list of kids with its room. -/
structure SpareC (x y : Int) (A : Option Addr) (items : List SpM) (tl : List Value) (w : World) : Prop where
  nodes : Kd.C kP w A items.length (items.map pr)
  cells : ∃ b, A = some ⟨b, 0, none⟩ ∧ ∀ j u, (cellsS items ++ tl)[j]? = some u → w.cell? ⟨b, j, none⟩ = some u
  rows : ∀ q ∈ items, ∃ g, q.A = some ⟨g, 0, none⟩ ∧ q.kids.length + 2 ≤ q.c ∧ ∀ j u, (spRow x y q)[j]? = some u → w.cell? ⟨g, j, none⟩ = some u
theorem spare_core {x y : Int} {w : World} {A : Option Addr} {c n k : Nat} {items : List SpM} {tl : List Value} {f : Nat → Prop} (hn : items.length = n) (hl : n ≤ 4194304) (hk : ∀ q ∈ items, q.kids.length ≤ 4194304) (hkp : 0 < n + k)
    (h : w.ownsRow 0 27 2 (.slice A (n + k) c) (n + k) (cellsS items ++ tl)) (hs : SpAt x y w items f) : SpareC x y A items tl w := by
  obtain ⟨b, cap, e, _, hcell, _⟩ := row_some h hkp
  simp only [Value.slice.injEq, true_and] at e
  obtain ⟨rfl, rfl⟩ := e
  have hrows : ∀ q ∈ items, ∃ g, q.A = some ⟨g, 0, none⟩ ∧ q.kids.length + 2 ≤ q.c ∧ ∀ j u, (spRow x y q)[j]? = some u → w.cell? ⟨g, j, none⟩ = some u := by
    intro q hq
    obtain ⟨g, cap2, e2, hc2, hcell2, _⟩ := row_some (hs q hq).1 (by omega)
    simp only [Value.slice.injEq, true_and] at e2
    exact ⟨g, e2.1, by rw [e2.2]; exact hc2, hcell2⟩
  refine ⟨⟨by simp, by omega, fun hp => ⟨⟨b, 0, none⟩, rfl, fun j p hj => ?_⟩⟩, ⟨b, rfl, hcell⟩, hrows⟩
  rw [List.getElem?_map] at hj
  obtain ⟨q, hq, rfl⟩ := Option.map_eq_some_iff.1 hj
  have hjl := (List.getElem?_eq_some_iff.1 hq).1
  have hq2 : items[j] = q := (List.getElem?_eq_some_iff.1 hq).2
  have hqm := List.mem_of_getElem? hq
  obtain ⟨g, eg, hgc, hgcell⟩ := hrows q hqm
  obtain ⟨n1, n2⟩ := cellsS_at items hjl
  rw [hq2] at n1 n2
  have hll := cellsS_len items
  refine ⟨[.string q.lab, .slice q.A q.kids.length q.c], rfl, ⟨[.string q.lab], [.slice q.A q.kids.length q.c], rfl, rfl, ⟨q.A, q.c, rfl, by show q.kids.length ≤ q.c; omega, ?_⟩⟩, fun i u hu => ?_⟩
  · show Kd.C (Kd.int .i64) w q.A q.kids.length q.kids
    refine ⟨rfl, by have := hk q hqm; omega, fun _ => ⟨⟨g, 0, none⟩, eg, fun j p hp => ⟨[.int .i64 p], rfl, rfl, fun i u hu => ?_⟩⟩⟩
    have hi : i = 0 := by
      have := (List.getElem?_eq_some_iff.1 hu).1
      simpa using this
    subst hi
    simp at hu
    subst hu
    have hjk := (List.getElem?_eq_some_iff.1 hp).1
    have := hgcell j (.int .i64 p) (by
      unfold spRow
      rw [List.getElem?_append_left (by rw [List.length_map]; exact hjk), List.getElem?_map, hp]
      rfl)
    have e3 : (⟨g, 0, none⟩ : Addr).add (j * (Kd.int .i64).sz + 0) = ⟨g, j, none⟩ := by
      show (⟨g, 0, none⟩ : Addr).add (j * 1 + 0) = _
      rw [add0, Nat.mul_one, Nat.add_zero]
    rw [e3]
    exact this
  · have e3 : ∀ i, (⟨b, 0, none⟩ : Addr).add (j * kP.sz + i) = ⟨b, j * 2 + i, none⟩ := fun i => add0 b (j * 2 + i)
    rw [e3]
    match i, hu with
    | 0, hu => exact hcell _ u (by simp at hu; subst hu; rw [Nat.add_zero, List.getElem?_append_left (by omega)]; exact n1)
    | 1, hu => exact hcell _ u (by simp at hu; subst hu; rw [List.getElem?_append_left (by omega)]; exact n2)
    | i + 2, hu => simp at hu
/-- Read from now on. -/
theorem sp_read {W w : World} {rs : List Res} {x y : Int} {A : Option Addr} {c n k : Nat} {items : List SpM} {tl : List Value} (hn : items.length = n) (hl : n ≤ 4194304) (hk : ∀ q ∈ items, q.kids.length ≤ 4194304) (hkp : 0 < n + k)
    (h : Sep W w (rowR 27 2 (.slice A (n + k) c) (n + k) (cellsS items ++ tl) :: spR x y items :: rs)) : Sep W w (readR W (SpareC x y A items tl) :: rs) := by
  refine h.join fun f g hf hg w' _ hw => ?_
  have hf2 := (RowAt.bound hf).move (w' := w') fun k hk => hw k (.inl hk.1) hk.2
  have hg2 : SpAt x y w' items (fun k => g k ∧ k < w.heap.size) := fun q hq => (RowAt.bound (hg q hq)).move fun k hk => hw k (.inr hk.1) hk.2
  exact spare_core hn hl hk hkp hf2.1 hg2

/-! ### nodes of one's own, read with their very cells -/
structure ItemsC (A : Option Addr) (items : List PartM) (w : World) : Prop where
  nodes : NodesC A (items.map nd) w
  cells : ∀ k (h : k < items.length), ∃ b, A = some ⟨b, 0, none⟩ ∧ w.cell? ⟨b, k * 2, none⟩ = some (.string items[k].part.label) ∧ w.cell? ⟨b, k * 2 + 1, none⟩ = some items[k].kv ∧ items[k].part.kids.length ≤ items[k].c ∧ Kd.C (Kd.int .i64) w items[k].A items[k].part.kids.length (ints items[k].part.kids)
end Go.Proofs.Ytkonloadedbpkaa.Spare

namespace Go.Proofs.Ytkonloadedbpkaa.Onto
open Go.RowKit Go.Maps Go.Proofs.Ytkonloadedbpkaa.Sep Go.Proofs.Ytkonloadedbpkaa.FMaps Go.Proofs.Ytkonloadedbpkaa.FoldMem Go.Proofs.Ytkonloadedbpkaa.NodeMem Go.Proofs.Ytkonloadedbpkaa.Spare
open Go.Proofs.YtkonloadedbpkaaW.PrintWords
set_option linter.unusedVariables false
set_option maxRecDepth 100000

end Go.Proofs.Ytkonloadedbpkaa.Onto

namespace Go.Proofs.Ytkonloadedbpkaa.CutW
open Go.RowKit Go.Maps Go.Proofs.Ytkonloadedbpkaa.Sep Go.Proofs.Ytkonloadedbpkaa.FMaps Go.Proofs.Ytkonloadedbpkaa.FoldMem Go.Proofs.Ytkonloadedbpkaa.NodeMem Go.Proofs.Ytkonloadedbpkaa.Spare
open Go.Proofs.YtkonloadedbpkaaW.PrintWords
set_option linter.unusedVariables false

theorem wp_one24 {ops : Array Oper} {rest : List Oper} {o : Oper} {a : Act} {Q : Exit → Act → World → Prop} {W w : World} {rs : List Res} {v : Value} {n : Nat} {xs : List Value} {e : TypeId} (M : Sep W w (rowR e 1 v n xs :: rs)) (hgd : o.guard = none) (sl x : Operand) (t : TypeId) {z : Value} {b : Nat}
    (hop : o.op = .call { callee := .builtin .append, args := #[sl, x], argTypes := #[t, t] }) (ht : Try.prog.underlying t = some (.slice e)) (hi : (Try.prog.info? e).map (fun i => (i.zero, i.size, i.bytes)) = some (some z, 1, b)) (hz : z.cells.size = 1) (hs : a.eval sl = v)
    {ad : Addr} {c2 : Nat} {u : Value} (hx : a.eval x = .slice (some ad) 1 c2) (hnew : w.cell? ad = some u) (hu : u.oneCell' = true) (hb : b ≤ 24) (hn : n ≤ 4398046511104)
    (h : ∀ A c w', n + 1 ≤ c → Sep W w' (rowR e 1 (.slice A (n + 1) c) (n + 1) (xs ++ [u]) :: rs) → wpList Try.prog ops Q rest (a.put o.dst (.slice A (n + 1) c)) w') : wpList Try.prog ops Q (o :: rest) a w := by
  obtain ⟨i0, hi0, hz0, hz1, hz2⟩ := info_parts hi
  refine wpList_append_own_at w hgd sl x t hop 0 e i0 z 1 b ht hi0 hz0 hz1 hz2 hz (by decide) v n xs hs M.row ad 1 c2 [u] hx rfl ?_ (by intro y hy; simp at hy; subst hy; exact hu) (by unfold maxLen; omega) ?_ (Nat.zero_le _) ?_
  · intro j y hj
    cases j with
    | zero =>
      have : u = y := by simpa using hj
      subst this
      rw [show ad.add 0 = ad from by simp [Addr.add]]
      exact hnew
    | succ j => simp at hj
  · have : (n + 1) * b ≤ (n + 1) * 24 := Nat.mul_le_mul_left _ hb
    omega
  intro v' w' hown hgrow _ hat
  have M2 := M.appended hown hgrow hat
  obtain ⟨A, c, e2, hc⟩ := row_slice hown
  subst e2
  exact h A c w' hc M2
end Go.Proofs.Ytkonloadedbpkaa.CutW
