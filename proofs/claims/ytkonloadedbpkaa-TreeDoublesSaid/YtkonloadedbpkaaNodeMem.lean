/- Nodes that are built: in memory of one's own, then read. -/
import Derived.Test.YtkonloadedbpkaaNodesW
import Derived.Laws.Rows
namespace Go.Proofs.Ytkonloadedbpkaa.NodeMem
open Go.RowKit Go.Maps Go.Proofs.Ytkonloadedbpkaa.Sep Go.Proofs.Ytkonloadedbpkaa.FMaps Go.Proofs.Ytkonloadedbpkaa.FoldPure Go.Proofs.Ytkonloadedbpkaa.FoldMem
open Go.Proofs.YtkonloadedbpkaaW.PrintWords
open Go.Proofs.YtkonloadedbpkaaW.PrintLast
set_option linter.unusedVariables false
set_option linter.unusedSimpArgs false

/-- A node in memory is a part in memory of which the places and the number say nothing. -/
def nd (q : PartM) : Nd := (q.part.label, q.part.kids)
def cells2 (q : PartM) : List Value := [.string q.part.label, q.kv]
def nodeCells (items : List PartM) : List Value := items.flatMap cells2
theorem add0 (b j : Nat) : (⟨b, 0, none⟩ : Addr).add j = ⟨b, j, none⟩ := by unfold Addr.add; split <;> simp_all
theorem nodes_more (items : List PartM) (q : PartM) : nodeCells items ++ cells2 q = nodeCells (items ++ [q]) := by simp [nodeCells]
theorem nodes_at (items : List PartM) : ∀ {k : Nat} (hk : k < items.length), (nodeCells items)[k * 2]? = some (.string items[k].part.label) ∧ (nodeCells items)[k * 2 + 1]? = some items[k].kv := by
  induction items with
  | nil => intro k hk; simp at hk
  | cons a l ih =>
    intro k hk
    have e : nodeCells (a :: l) = .string a.part.label :: a.kv :: nodeCells l := rfl
    rw [e]
    cases k with
    | zero => exact ⟨rfl, rfl⟩
    | succ k =>
      obtain ⟨h1, h2⟩ := ih (k := k) (by simpa using hk)
      rw [show (k + 1) * 2 = k * 2 + 1 + 1 by omega]
      exact ⟨by simpa using h1, by simpa [Nat.add_assoc] using h2⟩
theorem kid_reads {w : World} {q : PartM} {f : Nat → Prop} (h : RowAt w 3 1 q.kv q.part.kids.length (q.part.kids.map nat) f) (hl : q.part.kids.length ≤ 9223372036854775807) : q.part.kids.length ≤ q.c ∧ Kd.C (Kd.int .i64) w q.A q.part.kids.length (ints q.part.kids) := by
  obtain ⟨A, cap, e, hc⟩ := row_slice h.1
  unfold PartM.kv at e
  simp only [Value.slice.injEq, true_and] at e
  obtain ⟨eA, ec⟩ := e
  refine ⟨by omega, by simp, hl, fun hn => ?_⟩
  obtain ⟨b, cap2, e2, _, hcell, _⟩ := row_some h.1 hn
  unfold PartM.kv at e2
  simp only [Value.slice.injEq, true_and] at e2
  refine ⟨⟨b, 0, none⟩, e2.1, fun j p hp => ⟨[.int .i64 p], rfl, rfl, fun i u hu => ?_⟩⟩
  have hi : i = 0 := by
    have := (List.getElem?_eq_some_iff.1 hu).1
    simpa using this
  subst hi
  simp at hu
  subst hu
  rw [List.getElem?_map] at hp
  obtain ⟨k, hk, rfl⟩ := Option.map_eq_some_iff.1 hp
  have := hcell j (nat k) (by rw [List.getElem?_map, hk]; rfl)
  have e3 : (⟨b, 0, none⟩ : Addr).add (j * (Kd.int .i64).sz + 0) = ⟨b, j, none⟩ := by
    show (⟨b, 0, none⟩ : Addr).add (j * 1 + 0) = _
    rw [add0, Nat.mul_one, Nat.add_zero]
  rw [e3]
  exact this
/-- Nodes of one's own, read from now on. -/
theorem nodes_read {W w : World} {rs : List Res} {A : Option Addr} {c : Nat} {items : List PartM} (h : Sep W w (rowR 27 2 (.slice A items.length c) items.length (nodeCells items) :: kidsR items :: rs)) (hl : items.length ≤ 4194304) (hk : ∀ q ∈ items, q.part.kids.length ≤ 4194304) : Sep W w (readR W (NodesC A (items.map nd)) :: rs) := by
  refine h.join fun f g hf hg w' _ hw => ?_
  have hf2 := (RowAt.bound hf).move (w' := w') fun k hk => hw k (.inl hk.1) hk.2
  have hg2 : ∀ q ∈ items, RowAt w' 3 1 q.kv q.part.kids.length (q.part.kids.map nat) (fun k => g k ∧ k < w.heap.size) := fun q hq => (RowAt.bound (hg q hq)).move fun k hk => hw k (.inr hk.1) hk.2
  show ReadsRow _ _ _ _ _ _
  rw [List.length_map]
  refine ⟨by simp, by omega, fun hn => ?_⟩
  obtain ⟨b, cap, e, _, hcell, _⟩ := row_some hf2.1 hn
  simp only [Value.slice.injEq, true_and] at e
  refine ⟨⟨b, 0, none⟩, e.1, fun j p hp => ?_⟩
  rw [List.map_map, List.getElem?_map] at hp
  obtain ⟨q, hq, rfl⟩ := Option.map_eq_some_iff.1 hp
  have hj := (List.getElem?_eq_some_iff.1 hq).1
  have hq2 : items[j] = q := (List.getElem?_eq_some_iff.1 hq).2
  have hqm := List.mem_of_getElem? hq
  obtain ⟨h1, h2⟩ := kid_reads (hg2 q hqm) (by have := hk q hqm; omega)
  obtain ⟨n1, n2⟩ := nodes_at items hj
  rw [hq2] at n1 n2
  refine ⟨[.string q.part.label, q.kv], rfl, ⟨[.string q.part.label], [q.kv], rfl, rfl, ⟨q.A, q.c, ?_, ?_, ?_⟩⟩, fun i u hu => ?_⟩
  · show [q.kv] = [.slice q.A (ints q.part.kids).length q.c]
    simp [PartM.kv]
  · show (ints q.part.kids).length ≤ q.c
    simpa using h1
  · show Kd.C (Kd.int .i64) w' q.A (ints q.part.kids).length (ints q.part.kids)
    rw [List.length_map]
    exact h2
  · have e3 : ∀ i, (⟨b, 0, none⟩ : Addr).add (j * kP.sz + i) = ⟨b, j * 2 + i, none⟩ := fun i => add0 b (j * 2 + i)
    rw [e3]
    match i, hu with
    | 0, hu => exact hcell _ u (by simp at hu; subst hu; exact n1)
    | 1, hu => exact hcell _ u (by simp at hu; subst hu; exact n2)
    | i + 2, hu => simp at hu
theorem info27 : (Try.prog.info? 27).map (fun i => (i.zero, i.size, i.bytes)) = some (some (.agg #[.string .empty, .slice none 0 0]), 2, 40) := by kernel_rfl
/-- 'append(l, x)' at the operation, l nodes of one's own. -/
theorem wp_node {ops : Array Oper} {rest : List Oper} {o : Oper} {a : Act} {Q : Exit → Act → World → Prop} {W w : World} {rs : List Res} {v : Value} {n : Nat} {xs : List Value} (M : Sep W w (rowR 27 2 v n xs :: rs)) (hgd : o.guard = none) (sl x : Operand)
    (hop : o.op = .call { callee := .builtin .append, args := #[sl, x], argTypes := #[24, 24] }) (hs : a.eval sl = v)
    {b c2 : Nat} {u0 u1 : Value} (hx : a.eval x = .slice (some ⟨b, 0, none⟩) 1 c2) (hnew : w.heap[b]? = some (.cells #[u0, u1] 27 (0, 0))) (hu0 : u0.oneCell' = true) (hu1 : u1.oneCell' = true) (hn : n ≤ 4194304)
    (h : ∀ A c w', n + 1 ≤ c → Sep W w' (rowR 27 2 (.slice A (n + 1) c) (n + 1) (xs ++ [u0, u1]) :: rs) → wpList Try.prog ops Q rest (a.put o.dst (.slice A (n + 1) c)) w') : wpList Try.prog ops Q (o :: rest) a w := by
  obtain ⟨i0, hi0, hz0, hz1, hz2⟩ := info_parts info27
  refine wpList_append_own_at w hgd sl x 24 hop 0 27 i0 _ 2 40 Try.underlying24 hi0 hz0 hz1 hz2 rfl (by decide) v n xs hs M.row ⟨b, 0, none⟩ 1 c2 [u0, u1] hx rfl ?_ (by intro y hy; simp at hy; rcases hy with rfl | rfl <;> assumption) (by unfold maxLen; omega) ?_ (Nat.zero_le _) ?_
  · intro j y hj
    rw [add0, (cell_at hnew j).1]
    simpa using hj
  · omega
  intro v' w' hown hgrow _ hat
  have M2 := M.appended hown hgrow hat
  obtain ⟨A, c, e2, hc⟩ := row_slice hown
  subst e2
  exact h A c w' hc M2
/-- A literal of one number: a list of one's own. -/
theorem row_lit {W w : World} {rs : List Res} (h : Sep W w rs) (u : Value) : Sep W (w.alloc (.cells #[u] 3)) (rowR 3 1 (.slice (some ⟨w.heap.size, 0, none⟩) 1 1) 1 [u] :: rs) :=
  h.fresh (f := fun k => w.heap.size ≤ k) (Turns.alloc _ w _) ⟨⟨rfl, .inr ⟨w.heap.size, 1, #[u], rfl, Nat.zero_le _, box_at (box_fresh h 3 #[u]), Nat.le_refl _, by unfold maxLen; omega, rfl, rfl⟩⟩, fun k hk => by
    have : w.heap.size = k := by simpa [Value.ownBlock] using hk
    omega⟩ (fun _ hk => hk)
theorem node_calls {W w : World} {rs : List Res} (M0 : Sep W w rs) (s : ByteArray) (A : Option Addr) (n c : Nat) : Calls Try.prog 10 #[.string s, .slice A n c] w fun e w' => e = .returned (.agg #[.string s, .slice A n c]) ∧ Sep W w' rs := by
  have M := Aside0.mk M0
  clear M0
  go_enter Try.func10, Try.ntmps10
  go_wp2_with fail
  exact bodyPost_ret (results_cell_row rfl _ _ w.heap.size 27 #[.string s, .slice A n c] (0, 0) _ rfl (box_at (box_fresh M.out 27 #[.string s, .slice A n c])) Try.underlying27 rfl (by kernel_rfl)) rfl ⟨rfl, M.out.alloc _⟩
/-- A node more: its cells lie in the list, its kids beside it. -/
theorem item_more {W w : World} {rs : List Res} {v : Value} {items : List PartM} {q : PartM} (h : Sep W w (rowR 27 2 v (items.length + 1) (nodeCells items ++ [.string q.part.label, q.kv]) :: kidsR items :: rowR 3 1 q.kv q.part.kids.length (q.part.kids.map nat) :: rs)) :
    Sep W w (rowR 27 2 v (items ++ [q]).length (nodeCells (items ++ [q])) :: kidsR (items ++ [q]) :: rs) := by
  have h1 := (kids_more (h.swap3.swap3.swap)).swap
  rw [← nodes_more, List.length_append, List.length_singleton]
  exact h1
theorem build27 (s : ByteArray) (w : World) : (Instr.build 27 #[(0, .string s)]).run Try.prog w = .ok (.agg #[.string s, .slice none 0 0]) w := by kernel_rfl
theorem build35 (w : World) : (Instr.build 35 #[]).run Try.prog w = .ok (.agg #[.slice none 0 0, .slice none 0 0, .slice none 0 0, .int .i64 0, .slice none 0 0]) w := by kernel_rfl
end Go.Proofs.Ytkonloadedbpkaa.NodeMem
