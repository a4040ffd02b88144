/- KeepsLast, Handed, ReadW, KeepsMore, KeepsLaw: in one text. -/
import Derived.Test.YtpoojimmponklaaDoorKeepsWalk
import Derived.Test.YtpoojimmponklaaDoorTabAll
import Derived.Test.YtpoojimmponklaaDoorPExprKeepsx3
import Derived.Laws.AppendOwnNone
namespace Go.Proofs.YtpoojimmponklaaDoor.KeepsLast
open Go.RowKit Go.Proofs.YtpoojimmponklaaDoor.PExprKeeps Go.Proofs.YtpoojimmponklaaDoorW.PrintWords Go.Proofs.YtpoojimmponklaaDoor.KeepsPure Go.Proofs.YtpoojimmponklaaDoor.KeepsFuns Go.Proofs.YtpoojimmponklaaDoor.KeepsLib Go.Proofs.YtpoojimmponklaaDoor.KeepsWalk
set_option linter.unusedVariables false

theorem pjoin_f (l : List (List Int)) (hb : l.flatten.length ≤ 4194304) (hl : l.length ≤ 1048577) : ∃ k, expr_Join.f k l = some (if 200 < l.flatten.length then ([], 31) else (l.flatten, 0)) := by
  by_cases h : 200 < l.flatten.length
  · rw [if_pos h]
    exact join_long l hl hb h
  · rw [if_neg h]
    exact join_ok l hl (by omega)

theorem roomy_f (l : List Int) (h : l.length ≤ 1048576) : lemmalaw03_roomy.f l = some (l ++ [-71, -72, -73]) := by
  unfold lemmalaw03_roomy.f
  rw [if_pos (by simp; omega)]
  simp only [Option.bind_some, List.nil_append]
  rw [if_pos (by simp; omega)]

abbrev CI (w : World) (A : Option Addr) (xs : List Int) : Prop := Kd.C (Kd.int .i64) w A xs.length xs
theorem R_block {w : World} {base : Nat} {ok : Nat → Prop} {v : Value} {xs : List Int} (h : Kd.R (Kd.int .i64) 3 w base ok v xs) (hn : 0 < xs.length) :
    ∃ g c, v = .slice (some ⟨g, 0, none⟩) xs.length c ∧ xs.length ≤ c ∧ CI w (some ⟨g, 0, none⟩) xs := by
  obtain ⟨A, c, e, hc, hC⟩ := Kd.R_reads h
  obtain ⟨h0, inner, ho, hr⟩ := h
  rcases ho.2 with ⟨e2, h2⟩ | ⟨g, cap, cur, e2, _⟩
  · rw [e2] at e
    simp only [Value.slice.injEq] at e
    omega
  · rw [e2] at e
    simp only [Value.slice.injEq] at e
    obtain ⟨rfl, -, rfl⟩ := e
    exact ⟨g, cap, e2, hc, hC⟩
theorem C_take {w : World} {A : Option Addr} {c n : Nat} {xs : List Int} (h : CI w A xs) (hc : xs.length ≤ c) (hn : n ≤ xs.length) : CI w A (xs.take n) := by
  obtain ⟨i0, hi0, _, hsz, _⟩ := info_parts info3
  obtain ⟨_, hA, _⟩ := print_take_of (P := Tryd.prog) (Value.int .i64) 0 57 3 .i64 Tryd.underlying57 hi0 hsz A c xs (n : Int) (by omega) (by omega) hc
  have := hA w (Kd.reads_of_C h)
  rw [Int.toNat_natCast] at this
  exact Kd.C_of_reads (h1 := fun _ => rfl) this
abbrev room (l : List Int) : List Int := l ++ [-71, -72, -73]
theorem room_len (l : List Int) : (room l).length = l.length + 3 := by simp [room]
theorem room_take (l : List Int) : (room l).take l.length = l := by simp [room]
theorem room_at {w : World} {g : Nat} {l : List Int} (h : CI w (some ⟨g, 0, none⟩) (room l)) :
    w.cell? ⟨g, l.length, none⟩ = some (.int .i64 (-71)) ∧ w.cell? ⟨g, l.length + 1, none⟩ = some (.int .i64 (-72)) ∧ w.cell? ⟨g, l.length + 2, none⟩ = some (.int .i64 (-73)) := by
  have key : ∀ (d : Nat) (x : Int), (room l)[l.length + d]? = some x → w.cell? ⟨g, l.length + d, none⟩ = some (.int .i64 x) := by
    intro d x hx
    have hlt := (List.getElem?_eq_some_iff.1 hx).1
    obtain ⟨ad, e, hc⟩ := Kd.at_int h ((l.length + d : Nat) : Int) (by omega) (by omega)
    rw [rd_of hlt, Int.toNat_natCast] at hc
    cases e
    rw [Addr.add_lit, Nat.zero_add] at hc
    rw [hc, (List.getElem?_eq_some_iff.1 hx).2]
  exact ⟨key 0 (-71) (by simp [room]), key 1 (-72) (by simp [room]), key 2 (-73) (by simp [room])⟩
set_option maxHeartbeats 1000000 in
theorem untouched_calls {w : World} {g c : Nat} {l : List Int} {A1 : Option Addr} {c1 : Nat} (hl : l.length ≤ 1048576) (hm : CI w (some ⟨g, 0, none⟩) (room l)) (hc : l.length + 3 ≤ c) (h1 : CI w A1 l) (hc1 : l.length ≤ c1) :
    Calls Tryd.prog 51 #[.slice (some ⟨g, 0, none⟩) (l.length + 3) c, .slice A1 l.length c1] w fun e w' => e = .returned (.bool true) ∧ Drawn0 w w' := by
  have ht := C_take (c := c) (n := l.length) hm (by rw [room_len]; exact hc) (by rw [room_len]; omega)
  rw [room_take] at ht
  obtain ⟨m0, m1, m2⟩ := room_at hm
  obtain ⟨k, hk⟩ := same_law l (by omega)
  have HS := Aside0.mk (lemmalaw03_same.calls k (some ⟨g, 0, none⟩) c l A1 c1 l true w ht (by omega) h1 hc1 hk)
  clear hm ht h1 hk
  go_enter Tryd.func51, Tryd.ntmps51
  go_wp2_with fail
  refine HS.out.mono ?_
  rintro e w2 ⟨rfl, nq, rfl⟩
  clear HS
  go_wp2_with fail
  go_ret
  exact ⟨rfl, ⟨_, rfl⟩⟩
end Go.Proofs.YtpoojimmponklaaDoor.KeepsLast

namespace Go.Proofs.YtpoojimmponklaaDoor.Handed
open Go.Proofs.YtpoojimmponklaaDoor.SymHeap hiding num
open Go.RowKit Go.Maps Go.Proofs.YtpoojimmponklaaDoor.SymTab Go.Proofs.YtpoojimmponklaaDoor.SymReads Go.Proofs.YtpoojimmponklaaDoor.SymApi Go.Proofs.YtpoojimmponklaaDoor.SymSep Go.Proofs.YtpoojimmponklaaDoor.PExprKeeps Go.Proofs.YtpoojimmponklaaDoor.KeepsPure Go.Proofs.YtpoojimmponklaaDoor.KeepsFuns Go.Proofs.YtpoojimmponklaaDoor.KeepsLast
open Go.Proofs.YtpoojimmponklaaDoor.SymAdd (cells_two_new)
open Go.Proofs.YtpoojimmponklaaDoorW.PrintWords
open Go.Proofs.YtpoojimmponklaaDoorW.PrintLast
open Go.Proofs.YtpoojimmponklaaDoor.KeepsLib (num)
set_option linter.unusedVariables false
set_option linter.unusedSimpArgs false

theorem owns_zero {w : World} {b e size n : Nat} {v : Value} {xs : List Value} (h : w.ownsRow b e size v n xs) : w.ownsRow 0 e size v n xs := by
  refine ⟨h.1, ?_⟩
  rcases h.2 with h2 | ⟨g, cap, cur, e1, hb, r⟩
  · exact .inl h2
  · exact .inr ⟨g, cap, cur, e1, Nat.zero_le _, r⟩
theorem s_blanks {W w : World} {rs : List Res} (h : Sep W w rs) (hb : SymScan.Blanks W) : SymScan.Blanks w := hb.move (h.1.block 0 hb.lt)
theorem RowAt.move {w w' : World} {e size n : Nat} {v : Value} {xs : List Value} {f : Nat → Prop} (h : RowAt w e size v n xs f) (hm : ∀ k, f k → w'.heap[k]? = w.heap[k]?) : RowAt w' e size v n xs f := ⟨own_move h.1 (fun k hk => hm k (h.2 k hk)), h.2⟩
theorem RowAt.mono {w : World} {e size n : Nat} {v : Value} {xs : List Value} {f g : Nat → Prop} (h : RowAt w e size v n xs f) (hm : ∀ k, f k → g k) : RowAt w e size v n xs g := ⟨h.1, fun k hk => hm k (h.2 k hk)⟩
theorem RowAt.bound {w : World} {e size n : Nat} {v : Value} {xs : List Value} {f : Nat → Prop} (h : RowAt w e size v n xs f) : RowAt w e size v n xs (fun k => f k ∧ k < w.heap.size) := ⟨h.1, fun k hk => ⟨h.2 k hk, (h.1.lt k hk).2⟩⟩

def full (n : Nat) (m : Int) : List Int := List.replicate n m
def long (n : Nat) (m : Int) : List Int := full n m ++ [m + 1, m + 2]
/-- A list that was handed out, written full, and the same lengthened: they may share their memory. -/
def HandAt (w : World) (L G : Value) (n : Nat) (m : Int) (f : Nat → Prop) : Prop := RowAt w 3 1 L n ((full n m).map num) f ∧ RowAt w 3 1 G (n + 2) ((long n m).map num) f
theorem HandAt.move {w w' : World} {L G : Value} {n : Nat} {m : Int} {f : Nat → Prop} (h : HandAt w L G n m f) (hm : ∀ k, f k → w'.heap[k]? = w.heap[k]?) : HandAt w' L G n m f := ⟨RowAt.move h.1 hm, RowAt.move h.2 hm⟩
theorem HandAt.mono {w : World} {L G : Value} {n : Nat} {m : Int} {f g : Nat → Prop} (h : HandAt w L G n m f) (hm : ∀ k, f k → g k) : HandAt w L G n m g := ⟨RowAt.mono h.1 hm, RowAt.mono h.2 hm⟩
def handR (L G : Value) (n : Nat) (m : Int) : Res :=
  ⟨fun w f => HandAt w L G n m f, fun h hm => h.move hm, fun h hm => h.mono hm, fun h => ⟨RowAt.bound h.1, RowAt.bound h.2⟩⟩

theorem own_take {w : World} {b n m c : Nat} {xs ys : List Value} (h : w.ownsRow 0 3 1 (.slice (some ⟨b, 0, none⟩) (n + m) c) (n + m) (xs ++ ys)) (hx : xs.length = n) : w.ownsRow 0 3 1 (.slice (some ⟨b, 0, none⟩) n c) n xs := by
  refine ⟨by simp [hx], .inr ?_⟩
  rcases h.2 with ⟨e1, _⟩ | ⟨g', cap', cur, e1, hb, hgg, hn, hc, hsz, htk⟩
  · cases e1
  · simp only [Value.slice.injEq, Option.some.injEq, Addr.mk.injEq, and_true, true_and] at e1
    obtain ⟨rfl, rfl⟩ := e1
    refine ⟨b, c, cur, rfl, hb, hgg, by omega, hc, hsz, ?_⟩
    have h2 := congrArg (List.take (n * 1)) htk
    rw [List.take_take, show min (n * 1) ((n + m) * 1) = n * 1 by omega] at h2
    rw [h2, List.take_append_of_le_length (by omega), List.take_of_length_le (by omega)]
theorem info3' : (Tryd.prog.info? 3).map (fun i => (i.zero, i.size, i.bytes)) = some (some (.int .i64 0), 1, 8) := by kernel_rfl
theorem wp_two {ops : Array Oper} {rest : List Oper} {o : Oper} {a : Act} {Q : Exit → Act → World → Prop} {w : World} (hgd : o.guard = none) (sl x : Operand)
    (hop : o.op = .call { callee := .builtin .append, args := #[sl, x], argTypes := #[57, 57] }) {v : Value} {n : Nat} {xs : List Value} {y z : Int} (hs : a.eval sl = v)
    (hown : w.ownsRow 0 3 1 v n xs) (ad : Addr) (c2 : Nat) (hx : a.eval x = .slice (some ad) 2 c2) (hnews : ∀ j u, [num y, num z][j]? = some u → w.cell? (ad.add j) = some u) (hn : n ≤ 2097152)
    (h : ∀ v' w', (w'.ownsRow 0 3 1 v n xs ∧ w'.ownsRow 0 3 1 v' (n + 2) (xs ++ [num y, num z]) ∧ w.grownBy w' v.ownBlock ∧
      (∀ k, v'.ownBlock = some k → v.ownBlock = some k ∨ w.heap.size ≤ k)) → wpList Tryd.prog ops Q rest (a.put o.dst v') w') : wpList Tryd.prog ops Q (o :: rest) a w := by
  obtain ⟨i0, hi, hz0, hz1, hz2⟩ := info_parts info3'
  have hlen := hown.1
  have grows : ∀ (A : Option Addr) (c : Nat), v = .slice A n c → (A = none → n = 0 ∧ c = 0) → (∀ b', A = some b' → ∀ j u, xs[j]? = some u → w.cell? (b'.add j) = some u) → c < n + 2 → wpList Tryd.prog ops Q (o :: rest) a w := by
    intro A c e1 hnone hcells hfit
    subst e1
    refine wpList_append_grows w hgd sl x 57 hop 3 i0 (.int .i64 0) 1 8 Tryd.underlying57 hi hz0 hz1 hz2 rfl (by decide) A n c xs hs hnone hlen hcells ad 2 c2 [num y, num z] hx rfl hnews (by intro u hu; simp at hu; rcases hu with rfl | rfl <;> rfl) (by omega) (by unfold maxLen; omega) (by omega) ?_
    intro v' w' hown' hgrow
    refine h v' w' ⟨own_move hown (fun k hk => hgrow.block k (hown.lt k hk).2 (by simp)), owns_zero hown', ⟨hgrow.os, hgrow.tape, hgrow.output, hgrow.size, fun k hk _ => hgrow.block k hk (by simp)⟩, fun k hk => .inr (hown'.lt k hk).1⟩
  rcases hown.2 with ⟨e1, h0⟩ | ⟨b, c, cur, e1, _⟩
  · subst h0
    exact grows none 0 e1 (fun _ => ⟨rfl, rfl⟩) (fun _ h => by cases h) (by omega)
  · by_cases hfit : n + 2 ≤ c
    · subst e1
      refine wpList_append_fits w hgd sl x 57 hop 0 3 i0 1 Tryd.underlying57 hi hz1 b n c _ hs hown ad 2 c2 [num y, num z] hx rfl hnews (by intro u hu; simp at hu; rcases hu with rfl | rfl <;> rfl) hfit ?_
      intro w' hown' hgrow
      exact h _ w' ⟨own_take hown' (by omega), hown', hgrow, fun k hk => .inl (by simpa [Value.ownBlock] using hk)⟩
    · refine grows _ c e1 (fun e => by cases e) (fun b' hb' j u hj => ?_) (by omega)
      subst e1
      cases hb'
      exact hown.cells rfl j u hj
theorem two_of {W w w' : World} {rs : List Res} {v v' : Value} {n : Nat} {m : Int} (h : Sep W w (rowR 3 1 v n ((full n m).map num) :: rs))
    (hx : w'.ownsRow 0 3 1 v n ((full n m).map num) ∧ w'.ownsRow 0 3 1 v' (n + 2) ((full n m).map num ++ [num (m + 1), num (m + 2)]) ∧ w.grownBy w' v.ownBlock ∧
      (∀ k, v'.ownBlock = some k → v.ownBlock = some k ∨ w.heap.size ≤ k)) : Sep W w' (handR v v' n m :: rs) := by
  obtain ⟨x1, x2, x3, x4⟩ := hx
  refine h.turn fun f ⟨h1, h2⟩ => ⟨⟨⟨x1, fun k hk => .inl (h2 k hk)⟩, ⟨by simpa [long] using x2, fun k hk => ?_⟩⟩, Turns.of_grown x3 (fun k hk => h2 k hk)⟩
  rcases x4 k hk with e | e
  · exact .inl (h2 _ e)
  · exact .inr e
theorem set_full (l : List Int) (m : Int) {i : Nat} (h : i < l.length) : ((full i m ++ l.drop i).map num).set i (num m) = (full (i + 1) m ++ l.drop (i + 1)).map num := by
  rw [List.drop_eq_getElem_cons h, full, full, List.replicate_succ', List.map_append, List.set_append_right _ _ (by simp), List.map_cons, show i - (List.map num (List.replicate i m)).length = 0 by simp, List.set_cons_zero]
  simp
theorem full_all (l : List Int) (m : Int) : full l.length m ++ l.drop l.length = full l.length m := by simp
theorem full_len (n : Nat) (m : Int) : (full n m).length = n := by simp [full]
theorem long_len (n : Nat) (m : Int) : (long n m).length = n + 2 := by simp [long, full]

/-- A block of one's own. -/
def boxR (b : Nat) (t : TypeId) (cs : Array Value) : Res :=
  ⟨fun w f => w.heap[b]? = some (.cells cs t (0, 0)) ∧ f b, fun h hm => ⟨(hm b h.2).trans h.1, h.2⟩, fun h hm => ⟨h.1, hm b h.2⟩, fun {w _} h => ⟨h.1, h.2, (Array.getElem?_eq_some_iff.1 h.1).1⟩⟩
theorem box_fresh {W w : World} {rs : List Res} (h : Sep W w rs) (t : TypeId) (cs : Array Value) : Sep W (w.alloc (.cells cs t)) (boxR w.heap.size t cs :: rs) :=
  h.fresh (f := fun k => w.heap.size ≤ k) (Turns.alloc _ w _) ⟨heap_alloc_new _ _, Nat.le_refl _⟩ (fun _ hk => hk)
theorem box_at {W w : World} {rs : List Res} {b : Nat} {t : TypeId} {cs : Array Value} (h : Sep W w (boxR b t cs :: rs)) : w.heap[b]? = some (.cells cs t (0, 0)) := by
  obtain ⟨f, hf, _⟩ := h.head
  exact hf.1
theorem box_set {W w : World} {rs : List Res} {b : Nat} {t : TypeId} {cs : Array Value} (h : Sep W w (boxR b t cs :: rs)) (j : Nat) (u : Value) : Sep W (w.setCell ⟨b, j, none⟩ u) (boxR b t (cs.setIfInBounds j u) :: rs) :=
  h.turn fun f ⟨h1, h2⟩ => ⟨⟨set_block h1 _ _, .inl h2⟩, Turns.setCell w ⟨b, j, none⟩ u h2⟩

set_option maxHeartbeats 4000000 in
theorem handed_calls {W w : World} {rs : List Res} {v : Value} {l : List Int} (h : Sep W w (rowR 3 1 v l.length (l.map num) :: rs)) (hl : l.length ≤ 2097152) (m : Int) (hm0 : -1000000000000 ≤ m) (hm1 : m ≤ 1000000000000) :
    Calls Tryd.prog 47 #[v, .int .i64 m] w fun e w' => ∃ A c A2 c2, e = .returned (.agg #[.slice A l.length c, .slice A2 (l.length + 2) c2, .int .i64 m]) ∧ Sep W w' (handR (.slice A l.length c) (.slice A2 (l.length + 2) c2) l.length m :: rs) := by
  obtain ⟨A, c, e, hc⟩ := row_slice h.row
  subst e
  have M := Aside0.mk h
  clear h
  go_enter Tryd.func47, Tryd.ntmps47
  go_wp2_with fail
  have M2 := Aside0.mk (box_fresh M.out 65 #[Value.slice none 0 0, Value.slice none 0 0, Value.int IntKind.i64 0]).swap
  clear M
  go_loopw [5] (fun v5 wq => ∃ i : Nat, i ≤ l.length ∧ v5 = .int .i64 i ∧ Aside0 (Sep W wq (rowR 3 1 (.slice A l.length c) l.length ((full i m ++ l.drop i).map num) :: boxR w.heap.size 65 #[Value.slice none 0 0, Value.slice none 0 0, Value.int IntKind.i64 0] :: rs))) (fun v5 _ => l.length - (intOf v5).toNat)
  case atStart => exact ⟨0, by omega, rfl, by simpa [full] using M2⟩
  case round =>
    clear M2
    obtain ⟨i, hi, rfl, M⟩ := hrel
    by_cases hlt : i < l.length
    · obtain ⟨b, cap, eb, _, hcell, hfz, _⟩ := row_some M.out.row (by omega)
      simp only [Value.slice.injEq, Option.some.injEq, Addr.mk.injEq, and_true, true_and] at eb
      obtain ⟨rfl, rfl⟩ := eb
      have ci := hcell i (num l[i]) (by rw [List.map_append, List.getElem?_append_right (by simp [full])]; simp [full, hlt])
      have fi := hfz i
      generalize l[i] = old at ci
      have hm := M.out.stored (j := i) (u := num m) hlt rfl
      rw [set_full l m hlt] at hm
      have M2 := Aside0.mk hm
      clear hcell hfz hm
      go_wp2_with fail
      go_roundw
      case rel => exact ⟨i + 1, by omega, by go_num, M2⟩
      case measure => simp [intOf]; omega
    · have hi' : i = l.length := by omega
      subst hi'
      have hm := M.out
      rw [full_all] at hm
      replace M := Aside0.mk hm
      clear hm
      have HR := Aside0.mk M.out.row
      go_wp2_with (at_builtin; refine wp_two (y := m + 1) (z := m + 2) rfl (.tmp 17) (.tmp 22) rfl rfl (HR.out.alloc _) ⟨wr.heap.size, 0, none⟩ 2 rfl (cells_two_new _ _ _ _) hl ?_)
      intro v5 w5 xa xb xc xd
      obtain ⟨A5, c5, e5, _⟩ := row_slice xb
      subst e5
      have hm := two_of (m := m) (M.out.alloc (Obj.cells #[Value.int IntKind.i64 (m + 1), Value.int IntKind.i64 (m + 2)] 3)) ⟨xa, xb, xc, by simpa using xd⟩
      replace M := Aside0.mk hm.swap
      clear hm xa xb xc xd HR
      have hbx := box_at M.out
      have k0 : w5.cell? ⟨w.heap.size, 0, none⟩ = some (.slice none 0 0) := (blk_cell hbx 0).trans rfl
      have k1 : w5.cell? ⟨w.heap.size, 1, none⟩ = some (.slice none 0 0) := (blk_cell hbx 1).trans rfl
      have k2 : w5.cell? ⟨w.heap.size, 2, none⟩ = some (.int .i64 0) := (blk_cell hbx 2).trans rfl
      have f0 := blk_frozen hbx 0
      have f1 := blk_frozen hbx 1
      have f2 := blk_frozen hbx 2
      clear hbx
      go_wp2_with fail
      have M3 := Aside0.mk (box_set (box_set (box_set M.out 0 (.slice A l.length c)) 1 (.slice A5 (l.length + 2) c5)) 2 (.int .i64 m))
      refine bodyPost_ret (results_cell_row (p := 4) (ty := 65) rfl _ _ w.heap.size 65 #[.slice A l.length c, .slice A5 (l.length + 2) c5, .int .i64 m] (0, 0) _ rfl (box_at M3.out) Tryd.underlying65 rfl (by kernel_rfl)) rfl ?_
      exact ⟨A, c, A5, c5, rfl, M3.out.tail⟩
end Go.Proofs.YtpoojimmponklaaDoor.Handed

namespace Go.Proofs.YtpoojimmponklaaDoor.ReadW
open Go.Proofs.YtpoojimmponklaaDoor.SymHeap hiding num
open Go.RowKit Go.Maps Go.Proofs.YtpoojimmponklaaDoor.SymTab Go.Proofs.YtpoojimmponklaaDoor.SymReads Go.Proofs.YtpoojimmponklaaDoor.SymApi Go.Proofs.YtpoojimmponklaaDoor.SymSep Go.Proofs.YtpoojimmponklaaDoor.KeepsPure Go.Proofs.YtpoojimmponklaaDoor.KeepsFuns Go.Proofs.YtpoojimmponklaaDoor.KeepsLast Go.Proofs.YtpoojimmponklaaDoor.Handed
open Go.Proofs.YtpoojimmponklaaDoorW.PrintWords
open Go.Proofs.YtpoojimmponklaaDoorW.PrintLast
open Go.Proofs.YtpoojimmponklaaDoor.KeepsLib (num)
set_option linter.unusedVariables false
set_option linter.unusedSimpArgs false

def readGo (T : Tab) : List ByteArray → Nat → List Int → List Int × Nat × Nat
  | [], _, out => (out, 0, 0)
  | s :: ws, i, out => if i = 200 then ([], i, 31) else match T.act s with
    | none => ([], i, 30)
    | some n => readGo T ws (i + 1) (out ++ [(n : Int)])
def readT (T : Tab) (ws : List ByteArray) : List Int × Nat × Nat := readGo T ws 0 []
theorem rdOf_of {xs : List ByteArray} {n : Nat} (h : n < xs.length) : rdOf ByteArray.empty xs (n : Int) = xs[n] := by
  unfold rdOf
  simp [h]
theorem info3' : (Tryd.prog.info? 3).map (fun i => (i.zero, i.size, i.bytes)) = some (some (.int .i64 0), 1, 8) := by kernel_rfl

set_option maxHeartbeats 4000000 in
theorem read_calls {w : World} {p g : Nat} {T : Tab} {fp : Nat → Prop} (h : TabIs w p g T fp) (hfp : ∀ k, fp k → k < w.heap.size) (A : Option Addr) (c : Nat) (ws : List ByteArray) (hC : Kd.C Kd.string w A ws.length ws) (hl : ws.length ≤ 1048576 * 4) (hs : ∀ s ∈ ws, s.size ≤ maxLen) :
    Calls Tryd.prog 50 #[.pointer (some ⟨p, 0, none⟩), .slice A ws.length c] w fun ed w' => ∃ v, ed = .returned (.tuple #[v, .int .i64 (readT T ws).2.1, .int .i64 (readT T ws).2.2]) ∧ w'.ownsRow w.heap.size 3 1 v (readT T ws).1.length ((readT T ws).1.map num) ∧ Below w.heap.size w w' := by
  have HT := Aside0.mk h
  have HC := Aside0.mk hC
  clear h hC
  go_enter Tryd.func50, Tryd.ntmps50
  go_wp2_with fail
  go_loopw [7, 14] (fun v7 v14 wr => ∃ (i : Nat) (out : List Int), i ≤ ws.length ∧ i ≤ 200 ∧ v14 = .int .i64 i ∧ out.length = i ∧ Aside0 (readGo T (ws.drop i) i out = readT T ws) ∧ Aside0 (wr.ownsRow w.heap.size 3 1 v7 i (out.map num)) ∧ Aside0 (Below w.heap.size w wr)) (fun _ v14 _ => ws.length - (intOf v14).toNat)
  case atStart => exact ⟨0, [], by omega, by omega, rfl, rfl, ⟨rfl⟩, ⟨World.ownsRow_nil _ _ _ _⟩, ⟨Below.refl _ _⟩⟩
  case round =>
    obtain ⟨i, out, hi, hi2, rfl, hout, HG, HO, HB⟩ := hrel
    by_cases hlt : i < ws.length
    · obtain ⟨ad, rfl, hx⟩ := Kd.at_string (Kd.C_below HC.out HB.out) (i : Int) (by omega) (by omega)
      rw [rdOf_of hlt, Int.toNat_natCast] at hx
      have hG := HG.out
      rw [List.drop_eq_getElem_cons hlt, readGo] at hG
      have hsz := hs ws[i] (List.getElem_mem hlt)
      generalize ws[i] = s at hx hG hsz
      by_cases h200 : i = 200
      · rw [if_pos h200] at hG
        have e200 : ((i : Int) == 200) = true := by simpa using (by omega : (i : Int) = 200)
        have HG' := Aside0.mk hG
        clear h200 hi2
        clear hG HG
        go_wp2_with fail
        go_ret3
        refine ⟨.slice none 0 0, ?_, ?_, HB.out⟩
        · rw [← HG'.out]; rfl
        · rw [← HG'.out]; exact World.ownsRow_nil _ _ _ _
      · rw [if_neg h200] at hG
        have e200 : ((i : Int) == 200) = false := by simpa using (by omega : ¬ (i : Int) = 200)
        clear HG
        have hTb := HT.out.move (fun k hk => HB.out.block k (hfp k hk))
        have hf := find_api hTb s hsz
        unfold findT at hf
        clear hTb
        cases hact : T.act s with
        | none =>
          rw [hact] at hG hf
          have HG' := Aside0.mk hG
          have Hf := Aside0.mk hf
          clear hG hf
          go_wp2_with fail
          refine Hf.out.mono ?_
          rintro ed w2 ⟨rfl, nq, rfl⟩
          clear Hf
          go_wp2_with fail
          go_ret3
          refine ⟨.slice none 0 0, ?_, ?_, pw_below_drewN HB.out nq⟩
          · rw [← HG'.out]; rfl
          · rw [← HG'.out]; exact World.ownsRow_nil _ _ _ _
        | some n =>
          rw [hact] at hG hf
          have HG' := Aside0.mk hG
          have Hf := Aside0.mk hf
          clear hG hf
          obtain ⟨A5, c5, e5, _⟩ := row_slice HO.out
          subst e5
          obtain ⟨i3, hi3, hz0, hz1, hz2⟩ := info_parts info3'
          have Hi3 := Aside0.mk hi3
          have Hz03 := Aside0.mk hz0
          have Hz13 := Aside0.mk hz1
          have Hz23 := Aside0.mk hz2
          clear hi3 hz0 hz1 hz2
          go_wp2_with fail
          refine Hf.out.mono ?_
          rintro ed w2 ⟨rfl, nq, rfl⟩
          clear Hf
          have HO2 := Aside0.mk (show (wr.drewN nq).ownsRow w.heap.size 3 1 (.slice A5 i c5) i (out.map num) from HO.out)
          have HB2 := Aside0.mk (pw_below_drewN HB.out nq)
          obtain ⟨w2, hw2⟩ : ∃ w2, w2 = wr.drewN nq := ⟨_, rfl⟩
          rw [← hw2] at HO2 HB2 ⊢
          clear hw2 HO HB
          go_wp2_with (at_builtin; refine wpList_append_own_at _ rfl (.tmp 31) (.tmp 33) 57 rfl w.heap.size 3 i3 (.int .i64 0) 1 8 Tryd.underlying57 Hi3.out Hz03.out Hz13.out Hz23.out rfl (by decide) _ i (out.map num) rfl (HO2.out.alloc _) ⟨w2.heap.size, 0, none⟩ 1 1 [num (n : Int)] rfl rfl (cell_one_new _ _ _) ?c2 (by unfold maxLen; omega) (by omega) ?c3 ?_)
          case c2 => intro u hu; simp at hu; subst hu; rfl
          case c3 => have := HB2.out.size; simp; omega
          intro v7 w7 hown7 hgrow7 hnil7 hat7
          have HO7 := Aside0.mk hown7
          have HB7 := Aside0.mk ((HB2.out.alloc HB2.out.size (.cells #[num (n : Int)] 3)).grown hgrow7 (by have := HB2.out.size; simp; omega) (fun b hb => (HO2.out.lt b hb).1))
          clear hown7 hgrow7 hnil7 hat7
          go_wp2_with fail
          go_roundw
          case rel => exact ⟨i + 1, out ++ [(n : Int)], by omega, by omega, by go_num, by simp [hout], HG', by simpa using HO7, HB7⟩
          case measure => simp [intOf]; omega
    · have hi' : i = ws.length := by omega
      have hG := HG.out
      rw [List.drop_of_length_le (by omega), readGo] at hG
      have HG' := Aside0.mk hG
      clear hG HG
      obtain ⟨A5, c5, e5, _⟩ := row_slice HO.out
      subst e5
      go_wp2_with fail
      go_ret3
      refine ⟨.slice A5 i c5, ?_, ?_, HB.out⟩
      · rw [← HG'.out]; rfl
      · rw [← HG'.out]; simpa [hout] using HO.out
end Go.Proofs.YtpoojimmponklaaDoor.ReadW

namespace Go.Proofs.YtpoojimmponklaaDoor.KeepsMore
open Go.Proofs.YtpoojimmponklaaDoor.SymHeap hiding num
open Go.RowKit Go.Maps Go.Proofs.YtpoojimmponklaaDoor.SymTab Go.Proofs.YtpoojimmponklaaDoor.SymReads Go.Proofs.YtpoojimmponklaaDoor.SymApi Go.Proofs.YtpoojimmponklaaDoor.SymSep Go.Proofs.YtpoojimmponklaaDoor.KeepsPure Go.Proofs.YtpoojimmponklaaDoor.KeepsFuns Go.Proofs.YtpoojimmponklaaDoor.KeepsLast Go.Proofs.YtpoojimmponklaaDoor.Handed Go.Proofs.YtpoojimmponklaaDoor.ReadW Go.Proofs.YtpoojimmponklaaDoor.PExprKeeps
open Go.Proofs.YtpoojimmponklaaDoorW.PrintWords
open Go.Proofs.YtpoojimmponklaaDoorW.PrintLast
open Go.Proofs.YtpoojimmponklaaDoor.KeepsLib (num)
set_option linter.unusedVariables false
set_option linter.unusedSimpArgs false

theorem at_list {w : World} {A : Option Addr} {l : List (List Int)} (h : Kd.C (Kd.slice 3 (Kd.int .i64)) w A l.length l) {i : Nat} (hi : i < l.length) :
    ∃ ad Ai ci, A = some ad ∧ w.cell? (ad.add i) = some (.slice Ai l[i].length ci) ∧ l[i].length ≤ ci ∧ CI w Ai l[i] := by
  obtain ⟨h1, h2, h3⟩ := h
  obtain ⟨ad, rfl, h4⟩ := h3 (by omega)
  obtain ⟨cs, _, ⟨Ai, ci, rfl, hci, hC⟩, h5⟩ := h4 i l[i] (List.getElem?_eq_getElem hi)
  refine ⟨ad, Ai, ci, rfl, ?_, hci, hC⟩
  have := h5 0 _ rfl
  simpa [Kd.slice] using this
theorem C_two (w : World) (x y : List Int) (Ax Ay : Option Addr) (cx cy : Nat) {t : TypeId} (hx : CI (w.alloc (.cells #[.slice Ax x.length cx, .slice Ay y.length cy] t)) Ax x) (hcx : x.length ≤ cx)
    (hy : CI (w.alloc (.cells #[.slice Ax x.length cx, .slice Ay y.length cy] t)) Ay y) (hcy : y.length ≤ cy) :
    Kd.C (Kd.slice 3 (Kd.int .i64)) (w.alloc (.cells #[.slice Ax x.length cx, .slice Ay y.length cy] t)) (some ⟨w.heap.size, 0, none⟩) ([x, y] : List (List Int)).length [x, y] := by
  have hh := heap_alloc_new w (.cells #[.slice Ax x.length cx, .slice Ay y.length cy] t)
  refine ⟨rfl, by simp, fun _ => ⟨_, rfl, fun j q hj => ?_⟩⟩
  have key : ∀ (k : Nat) (u : Value), (#[Value.slice Ax x.length cx, .slice Ay y.length cy] : Array Value)[k]? = some u → (w.alloc (.cells #[.slice Ax x.length cx, .slice Ay y.length cy] t)).cell? ⟨w.heap.size, k, none⟩ = some u := by
    intro k u hu
    unfold World.cell?
    simp only
    rw [hh]
    exact hu
  match j, hj with
  | 0, hj =>
    simp at hj
    subst hj
    exact ⟨[.slice Ax x.length cx], rfl, ⟨Ax, cx, rfl, hcx, hx⟩, fun i u hu => by
      have : i = 0 := by have := (List.getElem?_eq_some_iff.1 hu).1; simpa using this
      subst this
      simp at hu
      subst hu
      exact key 0 _ rfl⟩
  | 1, hj =>
    simp at hj
    subst hj
    exact ⟨[.slice Ay y.length cy], rfl, ⟨Ay, cy, rfl, hcy, hy⟩, fun i u hu => by
      have : i = 0 := by have := (List.getElem?_eq_some_iff.1 hu).1; simpa using this
      subst this
      simp at hu
      subst hu
      exact key 1 _ rfl⟩
theorem C_nil (w : World) : CI w none [] := ⟨rfl, by simp, fun h => absurd h (by simp)⟩

/-! ### what is kept -/
structure Hand1 where
  L : Value
  G : Value
  n : Nat
  m : Int
def cells1 (it : Hand1) : List Value := [it.L, it.G, num it.m]
def cellsOf (items : List Hand1) : List Value := items.flatMap cells1
theorem cells_more (items : List Hand1) (it : Hand1) : cellsOf items ++ cells1 it = cellsOf (items ++ [it]) := by simp [cellsOf]
theorem cells_at (items : List Hand1) : ∀ {k : Nat} (hk : k < items.length), (cellsOf items)[k * 3]? = some items[k].L ∧ (cellsOf items)[k * 3 + 1]? = some items[k].G ∧ (cellsOf items)[k * 3 + 2]? = some (num items[k].m) := by
  induction items with
  | nil => intro k hk; simp at hk
  | cons a l ih =>
    intro k hk
    have e : cellsOf (a :: l) = a.L :: a.G :: num a.m :: cellsOf l := rfl
    rw [e]
    cases k with
    | zero => exact ⟨rfl, rfl, rfl⟩
    | succ k =>
      obtain ⟨h1, h2, h3⟩ := ih (k := k) (by simpa using hk)
      rw [show (k + 1) * 3 = k * 3 + 1 + 1 + 1 by omega]
      exact ⟨by simpa using h1, by simpa [Nat.add_assoc] using h2, by simpa [Nat.add_assoc] using h3⟩
def KeptAt (w : World) (items : List Hand1) (f : Nat → Prop) : Prop := ∀ it ∈ items, HandAt w it.L it.G it.n it.m f
def keptR (items : List Hand1) : Res :=
  ⟨fun w f => KeptAt w items f, fun h hm it hi => (h it hi).move hm, fun h hm it hi => (h it hi).mono hm, fun h it hi => ⟨RowAt.bound (h it hi).1, RowAt.bound (h it hi).2⟩⟩
theorem kept_more {W w : World} {rs : List Res} {r : Res} {items : List Hand1} {it : Hand1} (h : Sep W w (r :: handR it.L it.G it.n it.m :: keptR items :: rs)) : Sep W w (keptR (items ++ [it]) :: r :: rs) := by
  have h2 : Sep W w (handR it.L it.G it.n it.m :: keptR items :: r :: rs) := (h.pull 1 (by simp)).perm (.cons _ (.swap _ _ _))
  refine h2.join fun f g hf hg x hx => ?_
  rcases List.mem_append.1 hx with hx | hx
  · exact (hg x hx).mono (fun _ h => .inr h)
  · simp only [List.mem_singleton] at hx
    subst hx
    exact hf.mono (fun _ h => .inl h)
theorem info65 : (Tryd.prog.info? 65).map (fun i => (i.zero, i.size, i.bytes)) = some (some (.agg #[.slice none 0 0, .slice none 0 0, .int .i64 0]), 3, 56) := by kernel_rfl
theorem wp_all {ops : Array Oper} {rest : List Oper} {o : Oper} {a : Act} {Q : Exit → Act → World → Prop} {W w : World} {rs : List Res} (hgd : o.guard = none) (sl x : Operand)
    (hop : o.op = .call { callee := .builtin .append, args := #[sl, x], argTypes := #[59, 59] }) {v : Value} {items : List Hand1} (it : Hand1) (hs : a.eval sl = v)
    (M : Sep W w (handR it.L it.G it.n it.m :: keptR items :: rowR 65 3 v items.length (cellsOf items) :: rs)) (h1 : it.L.oneCell' = true) (h2 : it.G.oneCell' = true) (ad : Addr) (c2 : Nat) (hx : a.eval x = .slice (some ad) 1 c2)
    (hnews : ∀ j u, (cells1 it)[j]? = some u → w.cell? (ad.add j) = some u) (hn : items.length ≤ 16777216)
    (h : ∀ A c w', items.length + 1 ≤ c → Sep W w' (keptR (items ++ [it]) :: rowR 65 3 (.slice A (items.length + 1) c) (items ++ [it]).length (cellsOf (items ++ [it])) :: rs) → wpList Tryd.prog ops Q rest (a.put o.dst (.slice A (items.length + 1) c)) w') : wpList Tryd.prog ops Q (o :: rest) a w := by
  obtain ⟨i0, hi, hz0, hz1, hz2⟩ := info_parts info65
  have M1 : Sep W w (rowR 65 3 v items.length (cellsOf items) :: handR it.L it.G it.n it.m :: keptR items :: rs) := M.pull 2 (by simp)
  refine wpList_append_own_at w hgd sl x 59 hop 0 65 i0 (.agg #[.slice none 0 0, .slice none 0 0, .int .i64 0]) 3 56 Tryd.underlying59 hi hz0 hz1 hz2 rfl (by decide) v items.length (cellsOf items) hs M1.row ad 1 c2 (cells1 it) hx rfl hnews ?_ (by unfold maxLen; omega) (by omega) (Nat.zero_le _) ?_
  · intro u hu
    simp only [cells1, List.mem_cons, List.not_mem_nil, or_false] at hu
    rcases hu with rfl | rfl | rfl
    · exact h1
    · exact h2
    · rfl
  intro v' w' hown hgrow hnil hat
  have hm := M1.appended (m := items.length + 1) (ys := cellsOf (items ++ [it])) (by rw [← cells_more]; exact hown) hgrow (by simpa using hat)
  obtain ⟨A, c, e, hc⟩ := row_slice hown
  subst e
  have hk := kept_more hm
  refine h A c w' hc ?_
  rw [show (items ++ [it]).length = items.length + 1 by simp]
  exact hk

/-! ### do they stand? -/
theorem wrap_nat {i : Nat} (h : i ≤ 9007199254740992) : wrap64 ((i : Int) + 1) = ((i + 1 : Nat) : Int) := by unfold wrap64; omega
theorem full_at (n : Nat) (m : Int) {i : Nat} (h : i < n) : rd (full n m) (i : Int) = m := by
  rw [rd_of (by rw [full_len]; exact h)]
  simp [full]
theorem long_at (n : Nat) (m : Int) {i : Nat} (h : i < n) : rd (long n m) (i : Int) = m := by
  rw [rd_of (by rw [long_len]; omega)]
  simp only [long]
  rw [List.getElem_append_left (by rw [full_len]; exact h)]
  simp [full]
theorem long_n (n : Nat) (m : Int) : rd (long n m) (n : Int) = m + 1 := by
  rw [rd_of (by rw [long_len]; omega)]
  simp only [long]
  rw [List.getElem_append_right (by rw [full_len]; omega)]
  simp [full]
theorem long_n1 (n : Nat) (m : Int) : rd (long n m) ((n + 1 : Nat) : Int) = m + 2 := by
  rw [rd_of (by rw [long_len]; omega)]
  simp only [long]
  rw [List.getElem_append_right (by rw [full_len]; omega)]
  simp [full]
theorem stands_l0 (n : Nat) (m : Int) (hn : n ≤ 2097152) (hm0 : -1000000000000 ≤ m) (hm1 : m ≤ 1000000000000) (d : Nat) : ∀ (k i : Nat), i ≤ n → n - i = d → d < k → lemmalaw03_Handed_stands.l0 k (n : Int) (i : Int) (full n m) (long n m) m = some true := by
  induction d with
  | zero =>
    intro k i hi hd hk
    obtain ⟨k, rfl⟩ : ∃ k', k = k' + 1 := ⟨k - 1, by omega⟩
    have : i = n := by omega
    subst this
    have e1 : wrap64 (m + 1) = m + 1 := by unfold wrap64; omega
    have e2 : wrap64 (m + 2) = m + 2 := by unfold wrap64; omega
    have e3 : wrap64 ((i : Int) + 2) = ((i + 2 : Nat) : Int) := by unfold wrap64; omega
    simp only [lemmalaw03_Handed_stands.l0]
    rw [if_neg (by omega), if_pos (by rw [long_len, e3]), if_pos (by omega), if_pos (by rw [long_len]; omega), if_pos (by rw [long_n, e1]), wrap_nat (by omega), if_pos (by omega), if_pos (by rw [long_len]; omega), long_n1, e2]
    simp
  | succ d ih =>
    intro k i hi hd hk
    obtain ⟨k, rfl⟩ : ∃ k', k = k' + 1 := ⟨k - 1, by omega⟩
    simp only [lemmalaw03_Handed_stands.l0]
    rw [if_pos (by omega), if_pos (by omega), if_pos (by rw [full_len]; omega), if_pos (full_at n m (by omega)), if_pos (by rw [long_len]; omega), if_pos (long_at n m (by omega)), wrap_nat (by omega)]
    exact ih k (i + 1) (by omega) (by omega) (by omega)
theorem stands_f (n : Nat) (m : Int) (hn : n ≤ 2097152) (hm0 : -1000000000000 ≤ m) (hm1 : m ≤ 1000000000000) : lemmalaw03_Handed_stands.f (n + 1) (full n m) (long n m) m = some true := by
  unfold lemmalaw03_Handed_stands.f
  rw [full_len]
  exact stands_l0 n m hn hm0 hm1 n (n + 1) 0 (by omega) (by omega) (by omega)
/-- An item that may be asked. -/
def Fit (it : Hand1) : Prop := it.n ≤ 2097152 ∧ -1000000000000 ≤ it.m ∧ it.m ≤ 1000000000000
theorem row_reads {w : World} {b : Nat} {v : Value} {xs : List Int} (h : w.ownsRow b 3 1 v xs.length (xs.map num)) : ∃ A c, v = .slice A xs.length c ∧ xs.length ≤ c ∧ CI w A xs :=
  Kd.R_reads (Kd.R_of_own (enc := Value.int .i64) (h1 := fun _ => rfl) (ok := fun _ => True) h (fun _ _ => trivial))
theorem stands_calls {W w : World} {rs : List Res} {items : List Hand1} (h : Sep W w (keptR items :: rs)) {it : Hand1} (hi : it ∈ items) (hf : Fit it) :
    Calls Tryd.prog 52 #[.agg #[it.L, it.G, .int .i64 it.m]] w fun e w' => e = .returned (.bool true) ∧ Sep W w' (keptR items :: rs) := by
  obtain ⟨f, hk, _⟩ := h.head
  obtain ⟨h1, h2⟩ := hk it hi
  obtain ⟨A, c, e1, hc, hC⟩ := row_reads (xs := full it.n it.m) (by rw [full_len]; exact h1.1)
  obtain ⟨A2, c2, e2, hc2, hC2⟩ := row_reads (xs := long it.n it.m) (by rw [long_len]; exact h2.1)
  rw [e1, e2]
  exact (lemmalaw03_Handed_stands.calls (it.n + 1) A c (full it.n it.m) A2 c2 (long it.n it.m) it.m true w hC hc hC2 hc2 (stands_f it.n it.m hf.1 hf.2.1 hf.2.2)).mono fun e w' ⟨he, hb⟩ => ⟨he, h.below hb⟩

/-! ### a new list; the table -/
theorem s_new {W w w' : World} {rs : List Res} {v : Value} {n : Nat} {xs : List Value} (h : Sep W w rs) (hb : Below w.heap.size w w') (ho : w'.ownsRow w.heap.size 3 1 v n xs) : Sep W w' (rowR 3 1 v n xs :: rs) :=
  h.fresh (f := fun k => w.heap.size ≤ k) ⟨hb.os, hb.tape, hb.output, hb.size, fun k hk _ => hb.block k hk⟩ ⟨owns_zero ho, fun k hk => (ho.lt k hk).1⟩ (fun _ hk => hk)
theorem s_new_R {W w w' : World} {rs : List Res} {v : Value} {xs : List Int} (h : Sep W w rs) (hb : Below w.heap.size w w') (ho : Kd.R (Kd.int .i64) 3 w' w.heap.size (fun _ => True) v xs) : Sep W w' (rowR 3 1 v xs.length (xs.map num) :: rs) :=
  s_new h hb (Kd.own_of_R ho)
theorem s_read {W w : World} {rs : List Res} {p g : Nat} {T : Tab} (h : Sep W w (tabR p g T :: rs)) (A : Option Addr) (c : Nat) (ws : List ByteArray) (hC : Kd.C Kd.string w A ws.length ws) (hl : ws.length ≤ 1048576 * 4) (hs : ∀ s ∈ ws, s.size ≤ maxLen) {out : List Int} {i f : Nat} (hr : readT T ws = (out, i, f)) :
    Calls Tryd.prog 50 #[.pointer (some ⟨p, 0, none⟩), .slice A ws.length c] w fun e w' => ∃ v, e = .returned (.tuple #[v, .int .i64 i, .int .i64 f]) ∧ Sep W w' (rowR 3 1 v out.length (out.map num) :: tabR p g T :: rs) ∧ Below w.heap.size w w' := by
  obtain ⟨fp, h1, h2⟩ := h.head
  refine (read_calls h1 (fun k hk => (h2 k hk).2) A c ws hC hl hs).mono fun e w' ⟨v, he, ho, hb⟩ => ?_
  rw [hr] at he ho
  exact ⟨v, he, s_new h hb ho, hb⟩
theorem s_const {W w : World} {rs : List Res} {p g : Nat} {T : Tab} (hb : SymScan.Blanks W) (h : Sep W w (tabR p g T :: rs)) {s : ByteArray} (hs : s.size ≤ maxLen) (hg : g + 2 < maxLen) {T' : Tab} {n c : Nat} (hc : constT T s = (T', n, c)) :
    Calls Tryd.prog 18 #[.pointer (some ⟨p, 0, none⟩), .string s] w fun e w' => e = .returned (.tuple #[.int .i64 (n : Int), .int .i64 (c : Int)]) ∧ Sep W w' (tabR p (g + 2) T' :: rs) := by
  refine h.calls fun F1 h1 => ?_
  have := const_api (s_blanks h hb) h1 s hs hg
  rw [hc] at this
  exact this
theorem s_tab {W w : World} {rs : List Res} (h : Sep W w rs) : Calls Tryd.prog 33 #[] w fun e w' => ∃ p, e = .returned (.pointer (some ⟨p, 0, none⟩)) ∧ Sep W w' (tabR p 0 empty :: rs) :=
  new_api.mono fun e w' ⟨p, he, h1, ht⟩ => ⟨p, he, h.fresh (f := fun k => w.heap.size ≤ k) ht h1 (fun _ hk => hk)⟩

/-! ### the table of the law -/
def cc : ByteArray := ⟨#[99]⟩
def Tc : Tab := ⟨[(cc, false)], upd (fun _ => none) cc 0, [], []⟩
theorem ok_cc : symOk cc = true := by decide
theorem const_cc : constT empty cc = (Tc, 0, 0) := by
  unfold constT
  simp [empty, ok_cc, idx, added, Tc]
theorem read_cc : readT Tc [cc, cc] = ([0, 0], 0, 0) := by
  simp [readT, readGo, Tc, upd]
end Go.Proofs.YtpoojimmponklaaDoor.KeepsMore

namespace Go.Proofs.YtpoojimmponklaaDoor.KeepsLaw
open Go.Proofs.YtpoojimmponklaaDoor.SymHeap hiding num
open Go.RowKit Go.Maps Go.Proofs.YtpoojimmponklaaDoor.SymTab Go.Proofs.YtpoojimmponklaaDoor.SymReads Go.Proofs.YtpoojimmponklaaDoor.SymApi Go.Proofs.YtpoojimmponklaaDoor.SymSep Go.Proofs.YtpoojimmponklaaDoor.KeepsPure Go.Proofs.YtpoojimmponklaaDoor.KeepsFuns Go.Proofs.YtpoojimmponklaaDoor.KeepsLast Go.Proofs.YtpoojimmponklaaDoor.KeepsWalk Go.Proofs.YtpoojimmponklaaDoor.Handed Go.Proofs.YtpoojimmponklaaDoor.ReadW Go.Proofs.YtpoojimmponklaaDoor.KeepsMore Go.Proofs.YtpoojimmponklaaDoor.PExprKeeps
open Go.Proofs.YtpoojimmponklaaDoorW.PrintWords
open Go.Proofs.YtpoojimmponklaaDoorW.PrintLast
open Go.Proofs.YtpoojimmponklaaDoor.KeepsLib (num)
set_option linter.unusedVariables false
set_option linter.unusedSimpArgs false

theorem x_C {w : World} {A : Option Addr} {n c : Nat} {xs : List Int} (hn : xs.length = n) (h : w.ownsRow 0 3 1 (.slice A n c) n (xs.map num)) : CI w A xs := by
  subst hn
  obtain ⟨A', c', e, _, hC⟩ := row_reads h
  simp only [Value.slice.injEq, true_and] at e
  rw [e.1]
  exact hC
theorem last5 {W w : World} {a b c d e : Res} (h : SymSep.Sep W w [a, b, c, d, e]) : SymSep.Sep W w [b, c, d, e, a] := by
  have h1 : SymSep.Sep W w [e, a, b, c, d] := Sep.pull h 4 (by simp)
  have h2 : SymSep.Sep W w [d, e, a, b, c] := Sep.pull h1 4 (by simp)
  have h3 : SymSep.Sep W w [c, d, e, a, b] := Sep.pull h2 4 (by simp)
  exact Sep.pull h3 4 (by simp)
theorem cells_all_new (w : World) (it : Hand1) (t : TypeId) : ∀ j u, (cells1 it)[j]? = some u → (w.alloc (.cells (cells1 it).toArray t)).cell? ((⟨w.heap.size, 0, none⟩ : Addr).add j) = some u := by
  intro j u hu
  rw [Addr.add_lit, Nat.zero_add]
  unfold World.cell?
  simp only
  rw [heap_alloc_new]
  simpa using hu
theorem C_strs (w : World) (x y : ByteArray) : Kd.C Kd.string (w.alloc (.cells #[.string x, .string y] 9)) (some ⟨w.heap.size, 0, none⟩) ([x, y] : List ByteArray).length [x, y] := by
  have hh := heap_alloc_new w (.cells #[.string x, .string y] 9)
  refine ⟨rfl, by simp, fun _ => ⟨_, rfl, fun j q hj => ⟨[.string q], rfl, rfl, fun i u hu => ?_⟩⟩⟩
  have hi : i = 0 := by have := (List.getElem?_eq_some_iff.1 hu).1; simpa using this
  subst hi
  simp at hu
  subst hu
  rw [Addr.add_lit]
  unfold World.cell?
  simp only
  rw [hh]
  match j, hj with
  | 0, hj => simp at hj; subst hj; rfl
  | 1, hj => simp at hj; subst hj; rfl
theorem re6 {W w : World} {r t k a b x : Res} (h : SymSep.Sep W w [r, t, k, a, b, x]) : SymSep.Sep W w [r, k, a, t, b, x] := by
  have h1 : SymSep.Sep W w [t, r, k, a, b, x] := h.swap
  have h2 : SymSep.Sep W w [k, a, t, r, b, x] := (Sep.pull (Sep.pull h1 3 (by simp)) 3 (by simp) : SymSep.Sep W w [k, a, t, r, b, x])
  exact (Sep.pull h2 3 (by simp) : SymSep.Sep W w [r, k, a, t, b, x])
theorem handed_two {W w : World} {rs : List Res} {v : Value} (h : SymSep.Sep W w (rowR 3 1 v 2 [num 0, num 0] :: rs)) (m : Int) (hm0 : -1000000000000 ≤ m) (hm1 : m ≤ 1000000000000) :
    Calls Tryd.prog 47 #[v, .int .i64 m] w fun e w' => ∃ A c A2 c2, e = .returned (.agg #[.slice A 2 c, .slice A2 4 c2, .int .i64 m]) ∧ SymSep.Sep W w' (handR (.slice A 2 c) (.slice A2 4 c2) 2 m :: rs) :=
  handed_calls (l := [0, 0]) h (by simp) m hm0 hm1
def AllFit (items : List Hand1) : Prop := ∀ it ∈ items, Fit it
theorem fit_more {items : List Hand1} {it : Hand1} (h : AllFit items) (hf : Fit it) : AllFit (items ++ [it]) := by
  intro x hx
  rcases List.mem_append.1 hx with hx | hx
  · exact h x hx
  · rw [List.mem_singleton.1 hx]
    exact hf
set_option maxHeartbeats 8000000 in
set_option maxRecDepth 100000 in
theorem walk {w : World} (hb : SymScan.Blanks w) (P : Option Addr) (c : Nat) (parts : List (List Int)) (D : Option Addr) (fc : Nat) (vars : List Int) (hp : Kd.C (Kd.slice 3 (Kd.int .i64)) w P parts.length parts) (hv : CI w D vars)
    (hpl : parts.length ≤ 1048576) (hpe : ∀ x ∈ parts, x.length ≤ 1048576) (hvl : vars.length ≤ 1048576) :
    Calls Tryd.prog 10 #[.slice P parts.length c, .slice D vars.length fc] w fun e w' => e = .returned (.bool true) ∧ Below w.heap.size w w' := by
  have Hb := Lib.hid hb
  have HP := Aside0.mk hp
  have HV := Aside0.mk hv
  clear hb hp hv
  go_enter Tryd.func10, Tryd.ntmps10
  go_wp2_with fail
  have M := Aside0.mk (box_fresh (Sep.start w) 57 #[Value.slice D vars.length fc])
  refine (s_tab M.out).mono ?_
  rintro e w1 ⟨p, rfl, hm⟩
  replace M := Aside0.mk hm
  clear hm
  go_wp2_with fail
  refine (s_const Hb.out M.out (s := cc) (by decide) (by unfold maxLen; omega) const_cc).mono ?_
  rintro e w2 ⟨rfl, hm⟩
  replace M := Aside0.mk hm
  clear hm
  go_wp2_with fail
  go_loopw [9, 10] (fun v9 v10 wr => ∃ (i : Nat) (items : List Hand1), i ≤ parts.length ∧ v10 = .int .i64 i ∧ Aside0 (items.length = 4 * i) ∧ Aside0 (AllFit items) ∧ Aside0 (SymSep.Sep w wr [keptR items, rowR 65 3 v9 items.length (cellsOf items), tabR p 2 Tc, boxR w.heap.size 57 #[Value.slice D vars.length fc]])) (fun _ v10 _ => parts.length - (intOf v10).toNat)
  case atStart =>
    refine ⟨0, [], by omega, rfl, ⟨rfl⟩, ⟨fun _ h => by simp at h⟩, ⟨?_⟩⟩
    have m1 := M.out.fresh (w' := w2) (r := rowR 65 3 (.slice none 0 0) 0 []) (f := fun _ => False) (Turns.refl _ _) ⟨World.ownsRow_nil _ _ _ _, fun k hk => by simp [Value.ownBlock] at hk⟩ (fun _ h => h.elim)
    exact m1.fresh (w' := w2) (r := keptR []) (f := fun _ => False) (Turns.refl _ _) (fun k v => by simp at v) (fun _ h => h.elim)
  case round =>
    clear M
    obtain ⟨i, items, hi, rfl, hit, HF, M⟩ := hrel
    by_cases hlt : i < parts.length
    · obtain ⟨ad, Ai, ci, rfl, hx0, hci, hCi0⟩ := at_list HP.out hlt
      have hl := hpe parts[i] (List.getElem_mem hlt)
      generalize parts[i] = l at hx0 hci hCi0 hl
      have HX0 := Aside0.mk hx0
      have HC0 := Aside0.mk hCi0
      have hx := cell_on M.out.1 HX0.out
      clear hCi0 hx0
      go_wp2_with fail
      refine (lemmalaw03_roomy.calls Ai ci l (room l) wr (Kd.C_below HC0.out M.out.1) hci (roomy_f l hl)).mono ?_
      rintro e w3 ⟨v3, rfl, hR3, hB3⟩
      have hlr : (room l).length = l.length + 3 := room_len l
      obtain ⟨gx, cx, rfl, hcx, hCx⟩ := R_block hR3 (by omega)
      have hm := s_new_R M.out hB3 hR3
      rw [hlr] at hm
      replace M := Aside0.mk (last5 hm)
      clear hm
      have Hx3 := cell_on M.out.1 HX0.out
      clear hR3 hB3 hx
      rw [hlr] at hcx ⊢
      go_wp2_with fail
      replace M := Aside0.mk (M.out.alloc (Obj.cells #[Value.slice (some { block := gx, off := 0 }) l.length cx, Value.slice none 0 0] 57))
      have hxr := x_C (xs := room l) hlr (M.out.pull 4 (by simp)).row
      have hxl := C_take (c := cx) (n := l.length) hxr (by omega) (by omega)
      rw [room_take] at hxl
      obtain ⟨kj, hj⟩ := pjoin_f [l, []] (by simp; omega) (by simp)
      rw [show ([l, []] : List (List Int)).flatten = l by simp] at hj
      have HJ := Aside0.mk (C_two w3 l [] (some ⟨gx, 0, none⟩) none cx 0 hxl (by omega) (C_nil _) (Nat.le_refl _))
      clear hxr hxl
      by_cases h200 : 200 < l.length
      case' pos =>
        rw [if_pos h200] at hj
        have e200 : decide ((l.length : Int) ≤ 200) = false := decide_eq_false (by omega)
        clear h200
        refine (expr_Join.calls kj _ 2 [l, []] [] 31 _ HJ.out (by simp) hj).mono ?_
        rintro e w4 ⟨vj, rfl, hR4, hB4⟩
        replace M := Aside0.mk (s_new_R M.out hB4 hR4)
        clear HJ hR4 hB4 hj
        go_wp2_with fail
        obtain ⟨j, hj, hjl⟩ : ∃ j : List Int, j = [] ∧ j.length ≤ 1048576 := ⟨[], rfl, by simp⟩
        have hm := M.out
        rw [show rowR 3 1 vj ([] : List Int).length (([] : List Int).map num) = rowR 3 1 vj j.length (j.map num) by rw [hj]] at hm
        replace M := Aside0.mk hm
        clear e200 hm hj
      case' neg =>
        rw [if_neg h200] at hj
        have e200 : decide ((l.length : Int) ≤ 200) = true := decide_eq_true (by omega)
        clear h200
        refine (expr_Join.calls kj _ 2 [l, []] l 0 _ HJ.out (by simp) hj).mono ?_
        rintro e w4 ⟨vj, rfl, hR4, hB4⟩
        obtain ⟨Aj, cj, e4, hcj, hCj⟩ := Kd.R_reads hR4
        subst e4
        replace M := Aside0.mk (s_new_R M.out hB4 hR4)
        have hxr := x_C (xs := room l) hlr (M.out.pull 5 (by simp)).row
        have hxl := C_take (c := cx) (n := l.length) hxr (by omega) (by omega)
        rw [room_take] at hxl
        obtain ⟨ks, hks⟩ := same_law l (by omega)
        have HS := Aside0.mk (lemmalaw03_same.calls ks Aj cj l (some ⟨gx, 0, none⟩) cx l true w4 hCj hcj hxl (by omega) hks)
        clear HJ hR4 hB4 hj hCj hxr hxl hks
        go_wp2_with fail
        refine HS.out.mono ?_
        rintro e w5 ⟨rfl, hd⟩
        replace M := Aside0.mk (M.out.drawn hd)
        clear hd HS
        go_wp2_with fail
        obtain ⟨j, hj, hjl⟩ : ∃ j : List Int, j = l ∧ j.length ≤ 1048576 := ⟨l, rfl, hl⟩
        have hm := M.out
        generalize hvj : Value.slice Aj l.length cj = vj at hm
        rw [show rowR 3 1 vj l.length (l.map num) = rowR 3 1 vj j.length (j.map num) by rw [hj]] at hm
        replace M := Aside0.mk hm
        obtain ⟨w4, hw4⟩ : ∃ w4, w4 = w5 := ⟨_, rfl⟩
        rw [← hw4] at M ⊢
        clear e200 hm hj hw4 hvj
      all_goals
        refine (handed_calls M.out (by omega) (-1000 - 10 * (i : Int)) (by omega) (by omega)).mono ?_
        rintro e w6 ⟨A6, c6, G6, d6, rfl, hm⟩
        have HF1 := Aside0.mk (fit_more (it := ⟨.slice A6 j.length c6, .slice G6 (j.length + 2) d6, j.length, -1000 - 10 * (i : Int)⟩) HF.out (show Fit _ from ⟨by show j.length ≤ _; omega, by show -1000000000000 ≤ -1000 - 10 * (i : Int); omega, by show -1000 - 10 * (i : Int) ≤ _; omega⟩))
        replace M := Aside0.mk hm
        clear hm HF
        go_wp2_with (at_builtin; refine wp_all rfl (.tmp 72) (.tmp 78) rfl (⟨.slice A6 j.length c6, .slice G6 (j.length + 2) d6, j.length, -1000 - 10 * (i : Int)⟩ : Hand1) rfl (M.out.alloc _) rfl rfl ⟨w6.heap.size, 0, none⟩ 1 rfl (cells_all_new _ _ _) (by have := hit.out; omega) ?_; intro A7 c7 w7 hc7 hm7; have M7 := Aside0.mk hm7; clear hm7 hc7 M)
        have hit1 := Aside0.mk (show (items ++ [(⟨.slice A6 j.length c6, .slice G6 (j.length + 2) d6, j.length, -1000 - 10 * (i : Int)⟩ : Hand1)]).length = items.length + 1 by simp)
        generalize items ++ [(⟨.slice A6 j.length c6, .slice G6 (j.length + 2) d6, j.length, -1000 - 10 * (i : Int)⟩ : Hand1)] = items1 at M7 HF1 hit1
        have hbox : w7.cell? ⟨w.heap.size, 0, none⟩ = some (.slice D vars.length fc) := (blk_cell (box_at (M7.out.pull 3 (by simp))) 0).trans rfl
        have hxr := x_C (xs := room l) hlr (M7.out.pull 4 (by simp)).row
        have hxl := C_take (c := cx) (n := l.length) hxr (by omega) (by omega)
        rw [room_take] at hxl
        refine (vars_calls (some ⟨gx, 0, none⟩) cx l hxl hl w.heap.size D fc vars hbox (Kd.C_below HV.out M7.out.1) hvl).mono ?_
        rintro e w8 ⟨v8, rfl, ho, hB8⟩
        have hk := outK_len vars.contains l l.length (Nat.le_refl _)
        generalize outK vars.contains l l.length = k at ho hk
        have hkl : k.length ≤ 1048576 := by omega
        have M8 := Aside0.mk (s_new M7.out hB8 ho)
        clear hbox hxr hxl ho hB8 hk M7
        go_wp2_with fail
        refine (handed_calls M8.out (by omega) (-1003 - 10 * (i : Int)) (by omega) (by omega)).mono ?_
        rintro e w9 ⟨A9, c9, G9, d9, rfl, hm⟩
        have HF2 := Aside0.mk (fit_more (it := ⟨.slice A9 k.length c9, .slice G9 (k.length + 2) d9, k.length, -1003 - 10 * (i : Int)⟩) HF1.out (show Fit _ from ⟨by show k.length ≤ _; omega, by show -1000000000000 ≤ -1003 - 10 * (i : Int); omega, by show -1003 - 10 * (i : Int) ≤ _; omega⟩))
        replace M8 := Aside0.mk hm
        clear hm HF1
        go_wp2_with (at_builtin; refine wp_all rfl (.tmp 80) (.tmp 88) rfl (⟨.slice A9 k.length c9, .slice G9 (k.length + 2) d9, k.length, -1003 - 10 * (i : Int)⟩ : Hand1) rfl (M8.out.alloc _) rfl rfl ⟨w9.heap.size, 0, none⟩ 1 rfl (cells_all_new _ _ _) (by have := hit.out; have := hit1.out; omega) ?_; intro A10 c10 w10 hc7 hm7; have M10 := Aside0.mk hm7; clear hm7 hc7 M8)
        have hit2 := Aside0.mk (show (items1 ++ [(⟨.slice A9 k.length c9, .slice G9 (k.length + 2) d9, k.length, -1003 - 10 * (i : Int)⟩ : Hand1)]).length = items1.length + 1 by simp)
        generalize items1 ++ [(⟨.slice A9 k.length c9, .slice G9 (k.length + 2) d9, k.length, -1003 - 10 * (i : Int)⟩ : Hand1)] = items2 at M10 HF2 hit2
        have hxr := x_C (xs := room l) hlr (M10.out.pull 4 (by simp)).row
        have hxl := C_take (c := cx) (n := l.length) hxr (by omega) (by omega)
        rw [room_take] at hxl
        obtain ⟨kp, np, hpl2, _, hnp⟩ := places_f l [] hl (by simp)
        have hq := placesTo_len l [] np
        generalize placesTo l [] np = q at hpl2 hq
        refine (expr_Places.calls kp (some ⟨gx, 0, none⟩) cx l none 0 [] q w10 hxl (by omega) (C_nil _) (Nat.le_refl _) hpl2).mono ?_
        rintro e w11 ⟨v11, rfl, hR, hB11⟩
        have hql : q.length ≤ 1048577 := by omega
        have M11 := Aside0.mk (s_new_R M10.out hB11 hR)
        clear hxr hxl hR hB11 M10 hpl2 hq
        go_wp2_with fail
        refine (handed_calls M11.out (by omega) (-1006 - 10 * (i : Int)) (by omega) (by omega)).mono ?_
        rintro e w12 ⟨A12, c12, G12, d12, rfl, hm⟩
        have HF3 := Aside0.mk (fit_more (it := ⟨.slice A12 q.length c12, .slice G12 (q.length + 2) d12, q.length, -1006 - 10 * (i : Int)⟩) HF2.out (show Fit _ from ⟨by show q.length ≤ _; omega, by show -1000000000000 ≤ -1006 - 10 * (i : Int); omega, by show -1006 - 10 * (i : Int) ≤ _; omega⟩))
        replace M11 := Aside0.mk hm
        clear hm HF2
        go_wp2_with (at_builtin; refine wp_all rfl (.tmp 90) (.tmp 97) rfl (⟨.slice A12 q.length c12, .slice G12 (q.length + 2) d12, q.length, -1006 - 10 * (i : Int)⟩ : Hand1) rfl (M11.out.alloc _) rfl rfl ⟨w12.heap.size, 0, none⟩ 1 rfl (cells_all_new _ _ _) (by have := hit.out; have := hit1.out; have := hit2.out; omega) ?_; intro A13 c13 w13 hc7 hm7; have M13 := Aside0.mk hm7; clear hm7 hc7 M11)
        have hit3 := Aside0.mk (show (items2 ++ [(⟨.slice A12 q.length c12, .slice G12 (q.length + 2) d12, q.length, -1006 - 10 * (i : Int)⟩ : Hand1)]).length = items2.length + 1 by simp)
        generalize items2 ++ [(⟨.slice A12 q.length c12, .slice G12 (q.length + 2) d12, q.length, -1006 - 10 * (i : Int)⟩ : Hand1)] = items3 at M13 HF3 hit3
        refine (s_read (p := p) ((M13.out.alloc (Obj.cells #[Value.string cc, Value.string cc] 9)).pull 2 (by simp)) (some ⟨w13.heap.size, 0, none⟩) 2 [cc, cc] (C_strs w13 cc cc) (by simp) (by intro s hs; simp at hs; subst hs; decide) read_cc).mono ?_
        rintro e w14 ⟨v14, rfl, hm, hB14⟩
        have M14 := Aside0.mk (re6 hm)
        obtain ⟨A14, c14, e14, _⟩ := row_slice M14.out.row
        subst e14
        have hx14 := cell_on M14.out.1 HX0.out
        have hr0 : decide ((2 : Int) = 2) = true := rfl
        clear hm hB14 M13
        go_wp2_with fail
        refine (untouched_calls hl (x_C hlr (M14.out.pull 5 (by simp)).row) hcx (Kd.C_below HC0.out M14.out.1) hci).mono ?_
        rintro e w15 ⟨rfl, hd⟩
        have M15 := Aside0.mk (M14.out.drawn hd)
        clear hd M14 hx14
        go_wp2_with fail
        refine (handed_two M15.out (7 + 10 * (i : Int)) (by omega) (by omega)).mono ?_
        rintro e w16 ⟨A16, c16, G16, d16, rfl, hm⟩
        have HF4 := Aside0.mk (fit_more (it := ⟨.slice A16 2 c16, .slice G16 4 d16, 2, 7 + 10 * (i : Int)⟩) HF3.out (show Fit _ from ⟨by show 2 ≤ _; omega, by show -1000000000000 ≤ 7 + 10 * (i : Int); omega, by show 7 + 10 * (i : Int) ≤ _; omega⟩))
        have M16 := Aside0.mk hm
        clear hm HF3 M15
        go_wp2_with (at_builtin; refine wp_all rfl (.tmp 122) (.tmp 128) rfl (⟨.slice A16 2 c16, .slice G16 4 d16, 2, 7 + 10 * (i : Int)⟩ : Hand1) rfl (M16.out.alloc _) rfl rfl ⟨w16.heap.size, 0, none⟩ 1 rfl (cells_all_new _ _ _) (by have := hit.out; have := hit1.out; have := hit2.out; have := hit3.out; omega) ?_; intro A17 c17 w17 hc17 hm7; have M17 := Aside0.mk hm7; clear hm7 hc17 M16)
        have hit4 := Aside0.mk (show (items3 ++ [(⟨.slice A16 2 c16, .slice G16 4 d16, 2, 7 + 10 * (i : Int)⟩ : Hand1)]).length = items3.length + 1 by simp)
        generalize items3 ++ [(⟨.slice A16 2 c16, .slice G16 4 d16, 2, 7 + 10 * (i : Int)⟩ : Hand1)] = items4 at M17 HF4 hit4
        have hlen := hit4.out
        have hsm : items3.length ≤ 16777216 := by have := hit.out; have := hit1.out; have := hit2.out; have := hit3.out; omega
        go_loopw [18] (fun v18 wq => ∃ k : Nat, k ≤ items3.length + 1 ∧ v18 = .int .i64 k ∧ Aside0 (SymSep.Sep w wq [keptR items4, rowR 65 3 (.slice A17 (items3.length + 1) c17) items4.length (cellsOf items4), tabR p 2 Tc, boxR w.heap.size 57 #[Value.slice D vars.length fc], rowR 3 1 (.slice (some ⟨gx, 0, none⟩) (l.length + 3) cx) (l.length + 3) ((room l).map num)])) (fun v18 _ => items3.length + 1 - (intOf v18).toNat)
        case atStart => exact ⟨0, by omega, rfl, M17⟩
        case round =>
          clear M17
          obtain ⟨k, hk, rfl, M17⟩ := hrel
          by_cases hkn : k < items3.length + 1
          · obtain ⟨b, cap, eb, _, hcell, hfz, _⟩ := row_some (M17.out.pull 1 (by simp)).row (by omega)
            simp only [Value.slice.injEq, true_and] at eb
            obtain ⟨rfl, -, rfl⟩ := eb
            obtain ⟨k0, k1, k2⟩ := cells_at items4 (k := k) (by omega)
            have c0 := hcell _ _ k0
            have c1 := hcell _ _ k1
            have c2 := hcell _ _ k2
            have hmem := List.getElem_mem (l := items4) (n := k) (by omega)
            have HS := Aside0.mk (stands_calls M17.out hmem (HF4.out _ hmem))
            generalize items4[k] = it at c0 c1 c2 HS
            clear hcell hfz k0 k1 k2 hmem
            go_wp2_with fail
            refine HS.out.mono ?_
            rintro e w18 ⟨rfl, hm⟩
            have M18 := Aside0.mk hm
            clear hm HS M17
            go_wp2_with fail
            go_roundw
            case rel => exact ⟨k + 1, by omega, by go_num, M18⟩
            case measure => simp [intOf]; omega
          · have hk' : k = items3.length + 1 := by omega
            subst hk'
            go_wp2_with fail
            go_roundw
            case rel => exact ⟨i + 1, items4, by omega, by go_num, ⟨by have := hit.out; have := hit1.out; have := hit2.out; have := hit3.out; omega⟩, HF4, ⟨(M17.out.pull 4 (by simp)).tail⟩⟩
            case measure => simp [intOf]; omega
    · have hi' : i = parts.length := by omega
      subst hi'
      go_wp2_with fail
      go_ret
      exact ⟨rfl, M.out.1⟩
end Go.Proofs.YtpoojimmponklaaDoor.KeepsLaw
