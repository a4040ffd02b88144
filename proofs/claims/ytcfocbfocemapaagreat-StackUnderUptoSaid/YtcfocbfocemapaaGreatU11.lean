/- StkA, StkB, StkC. -/
import Derived.Test.YtcfocbfocemapaaGreatU10
import Derived.StillTailTactics
namespace Go.Proofs.YtcfocbfocemapaaGreat.StkA
open Go.RowKit Go.Maps Go.Lib Go.Proofs.YtcfocbfocemapaaGreat.Sep Go.Proofs.YtcfocbfocemapaaGreat.Mem Go.Proofs.YtcfocbfocemapaaGreat.Sets Go.Proofs.YtcfocbfocemapaaGreat.PlayP Go.Proofs.YtcfocbfocemapaaGreat.PStackPlays Go.Proofs.YtcfocbfocemapaaGreat.LibC Go.Proofs.YtcfocbfocemapaaGreat.SubA Go.Proofs.YtcfocbfocemapaaGreat.SubC Go.Proofs.YtcfocbfocemapaaGreat.SubN Go.Proofs.YtcfocbfocemapaaGreat.IterA Go.Proofs.YtcfocbfocemapaaGreat.DistA Go.Proofs.YtcfocbfocemapaaGreat.Brk Go.Proofs.YtcfocbfocemapaaGreat.Asks Go.Proofs.YtcfocbfocemapaaGreat.Breach Go.Proofs.YtcfocbfocemapaaGreat.DistC Go.Proofs.YtcfocbfocemapaaGreat.DistB
open Go.Proofs.YtcfocbfocemapaaGreatW.PrintWords Go.Proofs.YtcfocbfocemapaaGreatW.PrintLast Go.Proofs.YtcfocbfocemapaaGreatW.PrintMore
attribute [local go_sem] max2_int min2_int max_two min_two
set_option linter.unusedVariables false
set_option linter.unusedSimpArgs false
set_option maxRecDepth 100000

/-- Two things made one. -/
theorem pair_up {W w : World} {a b : Res} {rs : List Res} (h : Sep W w (a :: b :: rs)) : Sep W w (bothR a b :: rs) := by
  obtain ⟨hB, fp, ⟨f, g, a1, ⟨f2, g2, b1, b2, b3, b4, b5⟩, a3, a4, a5⟩, h6⟩ := h
  refine ⟨hB, fp, ⟨fun k => f k ∨ f2 k, g2, ⟨f, f2, a1, b1, fun k hk => .inl hk, fun k hk => .inr hk, fun k hk hk2 => a3 k hk (b4 k hk2).1⟩, b2, fun k hk hk2 => ?_, fun k hk => ?_, fun k hk => a5 k (b5 k hk)⟩, h6⟩
  · rcases hk with hk | hk
    · exact a3 k hk (b5 k hk2)
    · exact b3 k hk hk2
  · rcases hk with hk | hk
    · exact a4 k hk
    · exact ⟨a5 k (b4 k hk).1, (b4 k hk).2⟩
def unitR : Res := ⟨fun _ _ => True, fun _ _ => trivial, fun _ _ => trivial, fun _ => trivial⟩
/-- Many things made one. -/
def bunR : List Res → Res
  | [] => unitR
  | a :: l => bothR a (bunR l)
theorem unit_up {W w : World} {rs : List Res} (h : Sep W w rs) : Sep W w (unitR :: rs) := h.fresh (w' := w) (f := fun _ => False) (Turns.refl _ _) trivial (fun _ h => h.elim)
theorem bun_open {W w : World} : ∀ (l : List Res) {rs : List Res}, Sep W w (bunR l :: rs) → Sep W w (l ++ rs)
  | [], rs, h => h.tail
  | a :: l, rs, h => by
    have h1 := bun_open l (split h).swap
    exact h1.perm List.perm_middle
theorem bun_shut {W w : World} : ∀ (l : List Res) {rs : List Res}, Sep W w (l ++ rs) → Sep W w (bunR l :: rs)
  | [], rs, h => unit_up h
  | a :: l, rs, h => by
    have h1 : Sep W w (l ++ (a :: rs)) := h.perm List.perm_middle.symm
    exact pair_up (bun_shut l h1).swap
def cellE (q : BI) : Value := .slice q.A q.ex.length q.c
theorem info24 : (Tryz.prog.info? 24).map (fun i => (i.zero, i.size, i.bytes)) = some (some (.slice none 0 0), 1, 24) := by kernel_rfl
/-- An append onto a list of one's own, or behind a cut of it. -/
theorem wp_lay {ops : Array Oper} {rest : List Oper} {o : Oper} {a : Act} {Q : Exit → Act → World → Prop} {W w : World} {rs : List Res} {A : Option Addr} {n c k kc : Nat} {xs : List Value} {e : TypeId} (M : Sep W w (rowR e 1 (.slice A n c) n xs :: rs)) (hgd : o.guard = none) (sl x : Operand) (t : TypeId) {z : Value} {b : Nat}
    (hop : o.op = .call { callee := .builtin .append, args := #[sl, x], argTypes := #[t, t] }) (ht : Tryz.prog.underlying t = some (.slice e)) (hi : (Tryz.prog.info? e).map (fun i => (i.zero, i.size, i.bytes)) = some (some z, 1, b)) (hz : z.cells.size = 1) (hk : (k = n ∧ kc = c) ∨ (k ≤ n ∧ kc = k)) (hs : a.eval sl = .slice A k kc)
    {ad : Addr} {c2 : Nat} {u : Value} (hx : a.eval x = .slice (some ad) 1 c2) (hnew : w.cell? ad = some u) (hu : u.oneCell' = true) (hb : b ≤ 24) (hn : n ≤ 4398046511104)
    (h : ∀ A c w', k + 1 ≤ c → Sep W w' (rowR e 1 (.slice A (k + 1) c) (k + 1) (xs.take k ++ [u]) :: rs) → wpList Tryz.prog ops Q rest (a.put o.dst (.slice A (k + 1) c)) w') : wpList Tryz.prog ops Q (o :: rest) a w := by
  rcases hk with ⟨rfl, rfl⟩ | ⟨hk, rfl⟩
  · refine wp_one24 M hgd sl x t hop ht hi hz hs hx hnew hu hb hn ?_
    intro A' c' w' hc' hm
    refine h A' c' w' hc' ?_
    have hl := M.row.1
    rw [List.take_of_length_le (by omega)]
    exact hm
  · exact wp_cutcap M hgd sl x t hop ht hi hz hk hs hx hnew hu hb hn h
set_option maxHeartbeats 4000000 in
theorem lay_calls {W w : World} {rs : List Res} {p n k kc c peak count m mc : Nat} {A B : Option Addr} {c0 c1 c2 : Value} {xs : List Value} (h : Sep W w (boxR p 77 #[c0, c1, c2, .slice A k kc, nat peak, nat count] :: rowR 24 1 (.slice A n c) n xs :: rs))
    (hk : (k = n ∧ kc = c) ∨ (k ≤ n ∧ kc = k)) (hn : n ≤ 1000) :
    Calls Tryz.prog 52 #[.pointer (some ⟨p, 0, none⟩), .slice B m mc] w fun e w' => e = .returned (.tuple #[]) ∧ ∃ A' c', Sep W w' (boxR p 77 #[c0, c1, c2, .slice A' (k + 1) c', nat (max peak (k + 1)), nat count] :: rowR 24 1 (.slice A' (k + 1) c') (k + 1) (xs.take k ++ [.slice B m mc]) :: rs) := by
  have M := Aside0.mk h
  have HK := Aside0.mk hk
  obtain ⟨b3, f3⟩ := box_cell h (j := 3) rfl
  clear h hk
  go_enter Tryz.func52, Tryz.ntmps52
  go_wp2_with (at_builtin; refine wp_lay (M.out.swap.alloc (.cells #[.slice B m mc] 24)) rfl _ _ 29 rfl Tryz.underlying29 info24 rfl HK.out rfl rfl (new_cell _ _ _) rfl (by omega) (by omega) ?_; intro A2 c2' w2 hc2 hm2; clear M b3 f3; have M := Aside0.mk hm2; clear hm2; obtain ⟨b3, f3⟩ := box_cell M.out.swap (j := 3) rfl)
  have M2 := Aside0.mk (box_set M.out.swap 3 (.slice A2 (k + 1) c2'))
  clear M b3 f3
  have b3 : (w2.setCell ⟨p, 3, none⟩ (.slice A2 (k + 1) c2')).cell? ⟨p, 3, none⟩ = some (.slice A2 (k + 1) c2') := (box_cell M2.out (j := 3) rfl).1
  have b4 : (w2.setCell ⟨p, 3, none⟩ (.slice A2 (k + 1) c2')).cell? ⟨p, 4, none⟩ = some (.int .i64 (peak : Int)) := (box_cell M2.out (j := 4) rfl).1
  have f4 : (w2.setCell ⟨p, 3, none⟩ (.slice A2 (k + 1) c2')).frozen? ⟨p, 4, none⟩ = false := (box_cell M2.out (j := 4) rfl).2
  generalize w2.setCell ⟨p, 3, none⟩ (.slice A2 (k + 1) c2') = w3 at M2 b3 b4 f4 ⊢
  go_still_tail 11, (by kernel_rfl)
  go_wp2_with fail
  · go_end0
    refine ⟨rfl, A2, c2', ?_⟩
    have e : nat (max peak (k + 1)) = .int .i64 ((k : Int) + 1) := by unfold nat; congr 1; omega
    rw [e]
    exact (box_set M2.out 4 (.int .i64 ((k : Int) + 1))).drawn ⟨1, rfl⟩
  · go_end0
    refine ⟨rfl, A2, c2', ?_⟩
    have e : nat (max peak (k + 1)) = .int .i64 (peak : Int) := by unfold nat; congr 1; omega
    rw [e]
    exact (box_set M2.out 4 (.int .i64 (peak : Int))).drawn ⟨1, rfl⟩
/-- A machine in memory. -/
structure Mac where
  pA : Option Addr
  pc : Nat
  ps : List S50
  gA : Option Addr
  gc : Nat
  goal : Ex
  eA : Option Addr
  ec : Nat
  items : List BI
  peak : Nat
  count : Nat
def Mac.ents (m : Mac) : List Ex := m.items.map BI.ex
def Mac.cells (m : Mac) : Array Value := #[.slice m.pA m.ps.length m.pc, .slice m.gA m.goal.length m.gc, .func (.func 8) #[] #[], .slice m.eA m.items.length m.ec, nat m.peak, nat m.count]
def Mac.rs (p : Nat) (m : Mac) : List Res := [boxR p 77 m.cells, rowR 24 1 (.slice m.eA m.items.length m.ec) m.items.length (m.items.map cellE), exR m.items, rowR 50 2 (.slice m.pA m.ps.length m.pc) m.ps.length (pairCells (m.ps.map prP)), rowR 3 1 (.slice m.gA m.goal.length m.gc) m.goal.length (m.goal.map num)]
/-- At most 40 entries; none too long; all symbols small. -/
structure Mac.OK (m : Mac) : Prop where
  few : m.items.length ≤ 40
  pairs : m.ps.length ≤ 4194304
  goal : m.goal.length ≤ 4194304
  short : ∀ q ∈ m.items, q.ex.length ≤ 1048576
def macR (p : Nat) (m : Mac) : Res := bunR (m.rs p)
theorem mac_open {W w : World} {p : Nat} {m : Mac} {rs : List Res} (h : Sep W w (macR p m :: rs)) : Sep W w (m.rs p ++ rs) := bun_open _ h
theorem mac_shut {W w : World} {p : Nat} {m : Mac} {rs : List Res} (h : Sep W w (m.rs p ++ rs)) : Sep W w (macR p m :: rs) := bun_shut _ h
theorem mac_b {W w : World} {p : Nat} {m : Mac} {rs : List Res} (h : Sep W w (m.rs p ++ rs)) : w.cell? ⟨p, 0, none⟩ = some (.slice m.pA m.ps.length m.pc) ∧ w.cell? ⟨p, 1, none⟩ = some (.slice m.gA m.goal.length m.gc) ∧ w.cell? ⟨p, 2, none⟩ = some (.func (.func 8) #[] #[]) ∧ w.cell? ⟨p, 3, none⟩ = some (.slice m.eA m.items.length m.ec) ∧ w.cell? ⟨p, 4, none⟩ = some (.int .i64 (m.peak : Int)) ∧ w.cell? ⟨p, 5, none⟩ = some (.int .i64 (m.count : Int)) :=
  ⟨(box_cell h (j := 0) rfl).1, (box_cell h (j := 1) rfl).1, (box_cell h (j := 2) rfl).1, (box_cell h (j := 3) rfl).1, (box_cell h (j := 4) rfl).1, (box_cell h (j := 5) rfl).1⟩
theorem mac_lay {W w : World} {p : Nat} {m : Mac} {r : Res} {rs : List Res} (h : Sep W w (r :: (m.rs p ++ rs))) : Sep W w (boxR p 77 #[.slice m.pA m.ps.length m.pc, .slice m.gA m.goal.length m.gc, .func (.func 8) #[] #[], .slice m.eA m.items.length m.ec, nat m.peak, nat m.count] :: rowR 24 1 (.slice m.eA m.items.length m.ec) m.items.length (m.items.map cellE) :: r :: exR m.items :: rowR 50 2 (.slice m.pA m.ps.length m.pc) m.ps.length (pairCells (m.ps.map prP)) :: rowR 3 1 (.slice m.gA m.goal.length m.gc) m.goal.length (m.goal.map num) :: rs) :=
  (Sep.pull (rs := r :: boxR p 77 m.cells :: rowR 24 1 (.slice m.eA m.items.length m.ec) m.items.length (m.items.map cellE) :: exR m.items :: rowR 50 2 (.slice m.pA m.ps.length m.pc) m.ps.length (pairCells (m.ps.map prP)) :: rowR 3 1 (.slice m.gA m.goal.length m.gc) m.goal.length (m.goal.map num) :: rs) h 2 (by simp)).pull 2 (by simp)
/-- Push lays an expression on the stack. -/
def Mac.push (m : Mac) (q : BI) (A : Option Addr) (c : Nat) : Mac := { m with eA := A, ec := c, items := m.items ++ [q], peak := max m.peak (m.items.length + 1) }
def PushOut (W : World) (p : Nat) (m : Mac) (e : Ex) (rs : List Res) (en : Ending) (w' : World) : Prop :=
  if 40 ≤ m.items.length then en = .returned (.int .i64 117) ∧ Sep W w' (macR p m :: rs)
  else en = .returned (.int .i64 0) ∧ ∃ A c q, q.ex = e ∧ Sep W w' (macR p (m.push q A c) :: rs)
set_option maxHeartbeats 4000000 in
theorem push_calls {W w : World} {rs : List Res} {p n : Nat} {m : Mac} (h : Sep W w (macR p m :: rs)) {B : Option Addr} {c : Nat} {e : Ex} (hC : Kd.C kI w B e.length e) (hn : m.items.length ≤ 40) (hl : e.length ≤ 4194304) :
    Calls Tryz.prog 22 #[.pointer (some ⟨p, 0, none⟩), .slice B e.length c] w (PushOut W p m e rs) := by
  have M := Aside0.mk (mac_open h)
  have HC := Aside0.mk hC
  have b3 := (mac_b M.out).2.2.2.1
  clear h hC
  by_cases hf : 40 ≤ m.items.length
  · have h1 : (40 : Int) ≤ (m.items.length : Int) := by omega
    go_enter Tryz.func22, Tryz.ntmps22
    go_wp2_with fail
    go_ret
    unfold PushOut
    rw [if_pos hf]
    exact ⟨rfl, mac_shut M.out⟩
  · have h1 : ¬ (40 : Int) ≤ (m.items.length : Int) := by omega
    go_enter Tryz.func22, Tryz.ntmps22
    go_wp2_with (first
      | (go_at_call 40; refine (clone_calls M.out HC.out (by omega)).mono ?_; rintro e w5 ⟨A2, c2, rfl, hc2, hm5⟩; have M5 := Aside0.mk (mac_lay hm5); clear M b3 hm5)
      | (go_at_call 52; refine (lay_calls M5.out (.inl ⟨rfl, rfl⟩) (by omega)).mono ?_; rintro e w6 ⟨rfl, A3, c3, hm6⟩; have M6 := Aside0.mk hm6; clear M5 hm6)
      | fail)
    go_ret
    unfold PushOut
    rw [if_neg hf]
    refine ⟨rfl, A3, c3, ⟨0, e, A2, c2⟩, rfl, mac_shut ?_⟩
    have h6 := M6.out
    rw [List.take_of_length_le (by simp)] at h6
    have h7 := ex_more (q := (⟨0, e, A2, c2⟩ : BI)) ((h6.pull 2 (by simp)).pull 3 (by simp)).swap
    have h8 := (h7.pull 2 (by simp)).pull 2 (by simp)
    have e1 : m.items.map cellE ++ [.slice A2 e.length c2] = (m.items ++ [(⟨0, e, A2, c2⟩ : BI)]).map cellE := by rw [List.map_append]; rfl
    rw [e1] at h8
    have e2 : (m.push ⟨0, e, A2, c2⟩ A3 c3).items.length = m.items.length + 1 := by simp [Mac.push]
    show Sep W w6 (Mac.rs p (m.push ⟨0, e, A2, c2⟩ A3 c3) ++ rs)
    unfold Mac.rs Mac.cells
    rw [e2]
    exact h8
end Go.Proofs.YtcfocbfocemapaaGreat.StkA

namespace Go.Proofs.YtcfocbfocemapaaGreat.StkB
open Go.RowKit Go.Maps Go.Lib Go.Proofs.YtcfocbfocemapaaGreat.Sep Go.Proofs.YtcfocbfocemapaaGreat.Mem Go.Proofs.YtcfocbfocemapaaGreat.Sets Go.Proofs.YtcfocbfocemapaaGreat.PlayP Go.Proofs.YtcfocbfocemapaaGreat.PStackPlays Go.Proofs.YtcfocbfocemapaaGreat.LibC Go.Proofs.YtcfocbfocemapaaGreat.SubA Go.Proofs.YtcfocbfocemapaaGreat.SubC Go.Proofs.YtcfocbfocemapaaGreat.SubN Go.Proofs.YtcfocbfocemapaaGreat.IterA Go.Proofs.YtcfocbfocemapaaGreat.DistB Go.Proofs.YtcfocbfocemapaaGreat.StkA
open Go.Proofs.YtcfocbfocemapaaGreatW.PrintWords Go.Proofs.YtcfocbfocemapaaGreatW.PrintLast Go.Proofs.YtcfocbfocemapaaGreatW.PrintMore
set_option linter.unusedVariables false
set_option linter.unusedSimpArgs false
set_option maxRecDepth 100000

/-- An entry, read. -/
theorem ent_at {W w : World} {A : Option Addr} {n c : Nat} {items : List BI} {rs : List Res} (M : Sep W w (rowR 24 1 (.slice A n c) n (items.map cellE) :: exR items :: rs)) {i : Nat} (hn : n = items.length) (hi : i < items.length) (hl : ∀ q ∈ items, q.ex.length ≤ 4194304) :
    ∃ b, A = some ⟨b, 0, none⟩ ∧ w.cell? ⟨b, i, none⟩ = some (.slice items[i].A items[i].ex.length items[i].c) ∧ items[i].ex.length ≤ items[i].c ∧ Kd.C kI w items[i].A items[i].ex.length items[i].ex := by
  obtain ⟨b, cap, e, -, hcell, -⟩ := row_some M.row (by omega)
  simp only [Value.slice.injEq, true_and] at e
  obtain ⟨f, hf, -⟩ := M.swap.head
  have hm : items[i] ∈ items := List.getElem_mem hi
  obtain ⟨h1, h2⟩ := ex_reads (hf _ hm) (by have := hl _ hm; omega)
  exact ⟨b, e.1, hcell i _ (by rw [List.getElem?_map, List.getElem?_eq_getElem hi]; rfl), h1, h2⟩
theorem mac_ents {W w : World} {p : Nat} {m : Mac} {rs : List Res} (h : Sep W w (m.rs p ++ rs)) : Sep W w (rowR 24 1 (.slice m.eA m.items.length m.ec) m.items.length (m.items.map cellE) :: exR m.items :: rowR 50 2 (.slice m.pA m.ps.length m.pc) m.ps.length (pairCells (m.ps.map prP)) :: rowR 3 1 (.slice m.gA m.goal.length m.gc) m.goal.length (m.goal.map num) :: rs) := Sep.tail (r := boxR p 77 m.cells) h
theorem len_calls {W w : World} {rs : List Res} {p : Nat} {m : Mac} (h : Sep W w (macR p m :: rs)) :
    Calls Tryz.prog 14 #[.pointer (some ⟨p, 0, none⟩)] w fun e w' => e = .returned (.int .i64 (m.items.length : Int)) ∧ w' = w := by
  have b3 := (mac_b (mac_open h)).2.2.2.1
  clear h
  go_enter Tryz.func14, Tryz.ntmps14
  go_wp2_with fail
  go_ret
  exact ⟨rfl, rfl⟩
theorem peak_calls {W w : World} {rs : List Res} {p : Nat} {m : Mac} (h : Sep W w (macR p m :: rs)) :
    Calls Tryz.prog 16 #[.pointer (some ⟨p, 0, none⟩)] w fun e w' => e = .returned (.int .i64 (m.peak : Int)) ∧ w' = w := by
  have b3 := (mac_b (mac_open h)).2.2.2.2.1
  clear h
  go_enter Tryz.func16, Tryz.ntmps16
  go_wp2_with fail
  go_ret
  exact ⟨rfl, rfl⟩
theorem count_calls {W w : World} {rs : List Res} {p : Nat} {m : Mac} (h : Sep W w (macR p m :: rs)) :
    Calls Tryz.prog 18 #[.pointer (some ⟨p, 0, none⟩)] w fun e w' => e = .returned (.int .i64 (m.count : Int)) ∧ w' = w := by
  have b3 := (mac_b (mac_open h)).2.2.2.2.2
  clear h
  go_enter Tryz.func18, Tryz.ntmps18
  go_wp2_with fail
  go_ret
  exact ⟨rfl, rfl⟩
/-- The last of the entries. -/
def topE (es : List Ex) : Ex := es.getLast?.getD []
def TopOut (W : World) (R : Res) (es : List Ex) (rs : List Res) (e : Ending) (w' : World) : Prop :=
  ∃ A c, e = .returned (.tuple #[.slice A (topE es).length c, .bool (decide (es ≠ []))]) ∧ (topE es).length ≤ c ∧ Sep W w' (rowR 3 1 (.slice A (topE es).length c) (topE es).length ((topE es).map num) :: R :: rs)
theorem top_at {items : List BI} {k : Nat} (h : items.length = k + 1) : ∃ hk : k < items.length, topE (items.map BI.ex) = items[k].ex := by
  refine ⟨by omega, ?_⟩
  unfold topE
  have e : items.length - 1 = k := by omega
  rw [List.getLast?_map, List.getLast?_eq_getElem?, e, List.getElem?_eq_getElem (by omega)]
  rfl
/-- The last entry, to be read wherever the machine is as it was. -/
theorem top_read {W w : World} {rs : List Res} {p k : Nat} {m : Mac} (h : Sep W w (macR p m :: rs)) (hk : m.items.length = k + 1) (hl : ∀ q ∈ m.items, q.ex.length ≤ 4194304) :
    ∃ b A c, (topE m.ents).length ≤ c ∧ (topE m.ents).length ≤ 4194304 ∧ ∀ w' rs', Sep W w' (macR p m :: rs') → (w'.cell? ⟨p, 3, none⟩ = some (.slice (some ⟨b, 0, none⟩) (k + 1) m.ec) ∧ w'.cell? ⟨b, k, none⟩ = some (.slice A (topE m.ents).length c)) ∧ Kd.C kI w' A (topE m.ents).length (topE m.ents) := by
  obtain ⟨htl, ht⟩ := top_at hk
  obtain ⟨b, hb, -, hx, -⟩ := ent_at (mac_ents (mac_open h)) rfl htl hl
  have hle := hl _ (List.getElem_mem htl)
  have HT : m.items.map BI.ex = m.ents := rfl
  refine ⟨b, m.items[k].A, m.items[k].c, by rw [← HT, ht]; exact hx, by rw [← HT, ht]; exact hle, fun w' rs' h2 => ?_⟩
  have M := mac_open h2
  obtain ⟨b2, hb2, x0, -, hC⟩ := ent_at (mac_ents M) rfl htl hl
  rw [hb] at hb2
  cases hb2
  have b3 := (mac_b M).2.2.2.1
  rw [hb, hk] at b3
  rw [← ht, HT] at x0 hC
  exact ⟨⟨b3, x0⟩, hC⟩
set_option maxHeartbeats 4000000 in
theorem top_calls {W w : World} {rs : List Res} {p : Nat} {m : Mac} (h : Sep W w (macR p m :: rs)) (hn : m.items.length ≤ 40) (hl : ∀ q ∈ m.items, q.ex.length ≤ 4194304) :
    Calls Tryz.prog 20 #[.pointer (some ⟨p, 0, none⟩)] w (TopOut W (macR p m) m.ents rs) := by
  have M := Aside0.mk (mac_open h)
  have HM := Aside0.mk h
  have b3 := (mac_b M.out).2.2.2.1
  clear h
  by_cases hz : m.items = []
  · have h0 : m.items.length = 0 := by rw [hz]; rfl
    rw [h0] at b3
    go_enter Tryz.func20, Tryz.ntmps20
    go_wp2_with fail
    go_ret2
    have he : m.ents = [] := by unfold Mac.ents; rw [hz]; rfl
    unfold TopOut
    rw [he]
    exact ⟨none, 0, rfl, Nat.le_refl _, row_nil HM.out 3 1⟩
  · have hpos : 0 < m.items.length := List.length_pos_iff.2 hz
    obtain ⟨k, hk⟩ : ∃ k, m.items.length = k + 1 := ⟨m.items.length - 1, by omega⟩
    obtain ⟨b, A, c, hx, hle, hrd⟩ := top_read HM.out hk hl
    have HR := Aside0.mk hrd
    have hne : m.ents ≠ [] := by
      have e : m.ents = m.items.map BI.ex := rfl
      rw [e]
      simpa using hz
    obtain ⟨⟨b3, x0⟩, hC⟩ := hrd w rs HM.out
    have HE := Aside0.mk hne
    clear hne hz hpos M hrd
    have h1 : ¬ ((k : Int) + 1 = 0) := by omega
    have h3 : (k : Int) < (k : Int) + 1 := by omega
    have hwr : IntKind.i64.wrap (k : Int) = (k : Int) := by rw [Go.Proofs.YtcfocbfocemapaaGreatW.PrintLast.i64_w]; unfold Go.RowKit.wrap64; omega
    clear hC
    go_enter Tryz.func20, Tryz.ntmps20
    go_upto_region 3 with fail
    have MD := Aside0.mk (HM.out.drawn (w' := w.drew) ⟨1, rfl⟩)
    have HCD := Aside0.mk (HR.out _ _ MD.out).2
    go_region_held3 (fun w' => w'.cell? ⟨p, 3, none⟩ = some (.slice (some ⟨b, 0, none⟩) (k + 1) m.ec) ∧ w'.cell? ⟨b, k, none⟩ = some (.slice A (topE m.ents).length c)) (first | exact ⟨b3, x0⟩ | exact (HR.out _ _ M5.out.tail).1)
      (first
        | (go_at_call 40; refine (clone_calls MD.out HCD.out (by omega)).mono ?_; rintro e w5 ⟨A2, c2, rfl, hc2, hm5⟩; have M5 := Aside0.mk hm5; clear hm5)
        | fail)
    go_wp2_with fail
    go_ret2
    unfold TopOut
    exact ⟨A2, c2, by rw [decide_eq_true HE.out]; rfl, hc2, M5.out⟩
theorem drawn_then {w w' : World} (hd : Drawn0 w.drew w') : Drawn0 w w' := by
  obtain ⟨n, rfl⟩ := hd
  exact ⟨1 + n, World.drewN_drewN (n := 1) (w := w) ..⟩
theorem drawn_cells {w w' : World} (hd : Drawn0 w.drew w') {a b c : Addr} {x y z : Value} (h : (w.cell? a = some x ∧ w.cell? b = some y) ∧ w.cell? c = some z) : (w'.cell? a = some x ∧ w'.cell? b = some y) ∧ w'.cell? c = some z := by
  obtain ⟨n, rfl⟩ := hd
  exact h
/-- Does the goal stand there, and nothing else? -/
def endE (es : List Ex) (goal : Ex) : Int := if es.length ≠ 1 then 118 else if topE es ≠ goal then 119 else 0
set_option maxHeartbeats 4000000 in
theorem end_calls {W w : World} {rs : List Res} {p : Nat} {m : Mac} (h : Sep W w (macR p m :: rs)) (hn : m.items.length ≤ 40) (hl : ∀ q ∈ m.items, q.ex.length ≤ 4194304) (hg : m.goal.length ≤ 4194304) :
    Calls Tryz.prog 25 #[.pointer (some ⟨p, 0, none⟩)] w fun e w' => e = .returned (.int .i64 (endE m.ents m.goal)) ∧ Drawn0 w w' := by
  have HM := Aside0.mk h
  have b3 := (mac_b (mac_open h)).2.2.2.1
  have b1 := (mac_b (mac_open h)).2.1
  clear h
  have hel : m.ents.length = m.items.length := by unfold Mac.ents; rw [List.length_map]
  by_cases hz : m.items.length = 1
  · obtain ⟨b, A, c, hx, hle, hrd⟩ := top_read (k := 0) HM.out hz hl
    obtain ⟨⟨b3, x0⟩, hC⟩ := hrd w rs HM.out
    obtain ⟨hgc, hG⟩ := row_Ci (Sep.row (rs := boxR p 77 m.cells :: rowR 24 1 (.slice m.eA m.items.length m.ec) m.items.length (m.items.map cellE) :: exR m.items :: rowR 50 2 (.slice m.pA m.ps.length m.pc) m.ps.length (pairCells (m.ps.map prP)) :: rs) ((mac_open HM.out).pull 4 (by simp [Mac.rs]))) (by omega)
    have HX := Aside0.mk hx
    have HCc := Aside0.mk hC
    have HG := Aside0.mk hG
    have HGC := Aside0.mk hgc
    have HE : endE m.ents m.goal = if decide (topE m.ents = m.goal) = true then 0 else 119 := by
      unfold endE
      rw [if_neg (by rw [hel, hz]; simp)]
      by_cases he : topE m.ents = m.goal
      · rw [if_neg (by simpa using he), decide_eq_true he, if_pos rfl]
      · rw [if_pos he, decide_eq_false he, if_neg (by simp)]
    have HEE := Aside0.mk HE
    obtain ⟨k, hk⟩ := eq_ok (topE m.ents) m.goal hle
    obtain ⟨q, hq⟩ : ∃ q, q = decide (topE m.ents = m.goal) := ⟨_, rfl⟩
    rw [← hq] at hk HE HEE
    clear hx hC hG hgc hrd HE
    have HQ := Aside0.mk hq
    have HK := Aside0.mk hk
    clear hq hk
    cases q
    all_goals go_enter Tryz.func25, Tryz.ntmps25
    all_goals go_upto_region 3 with fail
    all_goals
      have MD := Aside0.mk (HM.out.drawn (w' := w.drew) ⟨1, rfl⟩)
      have HCD := Aside0.mk (Kd.C_below HCc.out (below_drew (Below.refl w.heap.size w)))
      have HGD := Aside0.mk (Kd.C_below HG.out (below_drew (Below.refl w.heap.size w)))
      have bw : (w.cell? ⟨p, 3, none⟩ = some (.slice (some ⟨b, 0, none⟩) (0 + 1) m.ec) ∧ w.cell? ⟨b, 0, none⟩ = some (.slice A (topE m.ents).length c)) ∧ w.cell? ⟨p, 1, none⟩ = some (.slice m.gA m.goal.length m.gc) := ⟨⟨b3, x0⟩, b1⟩
      go_region_held3 (fun w' => (w'.cell? ⟨p, 3, none⟩ = some (.slice (some ⟨b, 0, none⟩) (0 + 1) m.ec) ∧ w'.cell? ⟨b, 0, none⟩ = some (.slice A (topE m.ents).length c)) ∧ w'.cell? ⟨p, 1, none⟩ = some (.slice m.gA m.goal.length m.gc)) (first | exact bw | exact B5.out)
        ((go_at_call 54; refine (expr_Equal.calls k A c (topE m.ents) m.gA m.gc m.goal _ _ HCD.out HX.out HGD.out HGC.out HK.out).mono ?_; rintro e w5 ⟨rfl, hd5⟩; have HD5 := Aside0.mk hd5; have B5 := Aside0.mk (drawn_cells hd5 bw); clear hd5))
      go_wp2_with fail
      go_ret
      rw [HEE.out]
      exact ⟨rfl, drawn_then HD5.out⟩
  · have h0 : ¬ (m.items.length : Int) = 1 := by omega
    go_enter Tryz.func25, Tryz.ntmps25
    go_wp2_with fail
    go_ret
    unfold endE
    rw [if_pos (by rw [hel]; exact hz)]
    exact ⟨rfl, ⟨0, rfl⟩⟩
end Go.Proofs.YtcfocbfocemapaaGreat.StkB

namespace Go.Proofs.YtcfocbfocemapaaGreat.StkC
open Go.RowKit Go.Maps Go.Lib Go.Proofs.YtcfocbfocemapaaGreat.Sep Go.Proofs.YtcfocbfocemapaaGreat.Mem Go.Proofs.YtcfocbfocemapaaGreat.Sets Go.Proofs.YtcfocbfocemapaaGreat.PlayP Go.Proofs.YtcfocbfocemapaaGreat.PStackPlays Go.Proofs.YtcfocbfocemapaaGreat.LibC Go.Proofs.YtcfocbfocemapaaGreat.SubA Go.Proofs.YtcfocbfocemapaaGreat.SubC Go.Proofs.YtcfocbfocemapaaGreat.SubN Go.Proofs.YtcfocbfocemapaaGreat.IterA Go.Proofs.YtcfocbfocemapaaGreat.DistB Go.Proofs.YtcfocbfocemapaaGreat.StkA Go.Proofs.YtcfocbfocemapaaGreat.StkB Go.Proofs.YtcfocbfocemapaaGreat.NewS
open Go.Proofs.YtcfocbfocemapaaGreatW.PrintWords Go.Proofs.YtcfocbfocemapaaGreatW.PrintLast Go.Proofs.YtcfocbfocemapaaGreatW.PrintMore
set_option linter.unusedVariables false
set_option linter.unusedSimpArgs false
set_option maxRecDepth 100000

theorem box5 {W w : World} {rs : List Res} {b : Nat} {t : TypeId} {x0 x1 x2 x3 x4 : Value} (h : Sep W w (boxR b t #[x0, x1, x2, x3, x4] :: rs)) : w.cell? ⟨b, 1, none⟩ = some x1 ∧ w.cell? ⟨b, 4, none⟩ = some x4 := ⟨(box_cell h (j := 1) rfl).1, (box_cell h (j := 4) rfl).1⟩
set_option maxHeartbeats 4000000 in
theorem new_sep {w : World} {A B : Option Addr} {c d : Nat} {ps : List S50} {g : Ex} (v0 v2 v3 : Value) (hP : Kd.C k50 w A ps.length ps) (hG : Kd.C kI w B g.length g) (hpl : ps.length ≤ 4194304) (hgl : g.length ≤ 4194304) :
    Calls Tryz.prog 7 #[.agg #[v0, .slice A ps.length c, v2, v3, .slice B g.length d], .func (.func 8) #[] #[]] w fun e w' => ∃ p A' c' B' d', e = .returned (.pointer (some ⟨p, 0, none⟩)) ∧ ps.length ≤ c' ∧ g.length ≤ d' ∧ Sep w w' [macR p ⟨A', c', ps, B', d', g, none, 0, [], 0, 0⟩] := by
  have M0 := box_fresh (Sep.start w) 37 #[v0, .slice A ps.length c, v2, v3, .slice B g.length d]
  have MD := Aside0.mk (M0.drawn (w' := (w.alloc (.cells #[v0, .slice A ps.length c, v2, v3, .slice B g.length d] 37)).drew) ⟨1, rfl⟩)
  have HP := Aside0.mk (Kd.C_below hP MD.out.1)
  have HG := Aside0.mk hG
  clear hP hG M0
  go_enter Tryz.func7, Tryz.ntmps7
  go_upto_region 1 with fail
  go_region_held3 (fun w' => w'.cell? ⟨w.heap.size, 1, none⟩ = some (.slice A ps.length c) ∧ w'.cell? ⟨w.heap.size, 4, none⟩ = some (.slice B g.length d))
    (first | exact box5 MD.out | exact box5 M5.out.tail | exact box5 M6.out.tail.tail | exact box5 (M6.out.tail.tail.alloc _))
    (first
      | (go_at_call 39; refine (cloneP_calls MD.out HP.out (by omega)).mono ?_; rintro e w5 ⟨A2, c2, rfl, hc2, hm5⟩; have M5 := Aside0.mk hm5; clear hm5)
      | (go_at_call 40; refine (clone_calls M5.out (Kd.C_below HG.out M5.out.1) (by omega)).mono ?_; rintro e w6 ⟨A3, c3, rfl, hc3, hm6⟩; have M6 := Aside0.mk hm6; clear hm6)
      | fail)
  go_wp2_with fail
  go_ret
  refine ⟨w6.heap.size, A2, c2, A3, c3, rfl, hc2, hc3, mac_shut ?_⟩
  have h7 := box_fresh (ex_none (row_nil (M6.out.pull 1 (by simp)) 24 1)) 77 #[.slice A2 ps.length c2, .slice A3 g.length c3, .func (.func 8) #[] #[], .slice none 0 0, .int .i64 0, .int .i64 0]
  have h8 := (h7.pull 5 (by simp)).tail
  exact (h8.pull 2 (by simp)).pull 1 (by simp)
theorem new_calls {W w : World} {rs : List Res} (h : Sep W w rs) {A B : Option Addr} {c d : Nat} {ps : List S50} {g : Ex} (v0 v2 v3 : Value) (hP : Kd.C k50 w A ps.length ps) (hG : Kd.C kI w B g.length g) (hpl : ps.length ≤ 4194304) (hgl : g.length ≤ 4194304) :
    Calls Tryz.prog 7 #[.agg #[v0, .slice A ps.length c, v2, v3, .slice B g.length d], .func (.func 8) #[] #[]] w fun e w' => ∃ p A' c' B' d', e = .returned (.pointer (some ⟨p, 0, none⟩)) ∧ ps.length ≤ c' ∧ g.length ≤ d' ∧ Sep W w' (macR p ⟨A', c', ps, B', d', g, none, 0, [], 0, 0⟩ :: rs) := by
  refine (new_sep v0 v2 v3 hP hG hpl hgl).mono ?_
  rintro e w' ⟨p, A', c', B', d', h1, h2, h3, h4⟩
  exact ⟨p, A', c', B', d', h1, h2, h3, sep_over h h4⟩
end Go.Proofs.YtcfocbfocemapaaGreat.StkC
