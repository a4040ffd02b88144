/- FrmA, FrmB, FrmC, FrmD, FrmE, FrmP, FrmF. -/
import Derived.Test.YtcfocbfocemapaaGreatU12
import Derived.StillTailTactics
namespace Go.Proofs.YtcfocbfocemapaaGreat.FrmA
open Go.RowKit Go.Maps Go.Lib Go.Proofs.YtcfocbfocemapaaGreat.Sep Go.Proofs.YtcfocbfocemapaaGreat.Mem Go.Proofs.YtcfocbfocemapaaGreat.Sets Go.Proofs.YtcfocbfocemapaaGreat.PlayP Go.Proofs.YtcfocbfocemapaaGreat.BindP Go.Proofs.YtcfocbfocemapaaGreat.PStackPlays Go.Proofs.YtcfocbfocemapaaGreat.DistC Go.Proofs.YtcfocbfocemapaaGreat.SubA Go.Proofs.YtcfocbfocemapaaGreat.BindW
open Go.Proofs.YtcfocbfocemapaaGreatW.PrintWords Go.Proofs.YtcfocbfocemapaaGreatW.PrintLast Go.Proofs.YtcfocbfocemapaaGreatW.PrintMore
set_option linter.unusedVariables false
set_option linter.unusedSimpArgs false
set_option maxRecDepth 100000

theorem fl_more {hs : List Hy} {i : Nat} (h : i < hs.length) : flVars (hs.take (i + 1)) = flVars (hs.take i) ++ (if (hs[i]).f1 then [(hs[i]).f2] else []) := by
  unfold flVars
  rw [List.take_succ_eq_append_getElem h, List.filter_append, List.map_append]
  cases hf : (hs[i]).f1 <;> simp [hf]
theorem fl_mem {hs : List Hy} {i : Nat} (h : i < hs.length) (hf : (hs[i]).f1 = true) : (hs[i]).f2 ∈ flVars hs := by
  unfold flVars
  exact List.mem_map.2 ⟨hs[i], List.mem_filter.2 ⟨List.getElem_mem h, hf⟩, rfl⟩
set_option maxHeartbeats 4000000 in
theorem typeOf_calls {w : World} {sb c : Nat} {A : Option Addr} {hs : List Hy} (hb : w.cell? ⟨sb, 0, none⟩ = some (.slice A hs.length c)) (hC : Kd.C k93 w A hs.length hs) (hl : hs.length ≤ 4194304) (hty : ∀ h ∈ hs, h.f1 = true → h.f3 ≠ []) (x : Int) (q : Bool) (hq : q = decide (x ∈ flVars hs)) :
    Calls Tryz.prog 86 #[.pointer (some ⟨sb, 0, none⟩), .int .i64 x] w fun e w' => (∃ t : Int, e = .returned (.tuple #[.int .i64 t, .bool q])) ∧ Below w.heap.size w w' := by
  have HC := Aside0.mk hC
  have HTY := Aside0.mk hty
  have HQ := Aside0.mk hq
  clear hC hty hq
  go_enter Tryz.func86, Tryz.ntmps86
  go_wp2_with fail
  go_loopw [7, 13] (fun v7 v13 wr => ∃ (i : Nat), i ≤ hs.length ∧ v13 = .int .i64 i ∧ Aside0 (x ∉ flVars (hs.take i)) ∧ Aside0 (Below w.heap.size w wr)) (fun _ v13 _ => hs.length - (intOf v13).toNat)
  case atStart => exact ⟨0, by omega, rfl, ⟨by simp [flVars]⟩, ⟨Below.refl _ _⟩⟩
  case round =>
    clear hb
    obtain ⟨i, hi, rfl, HN, B⟩ := hrel
    by_cases hlt : i < hs.length
    · obtain ⟨ad, A3, c3, rfl, y0, y1, y2, y3, hc3, hK3⟩ := hyp_at (Kd.C_below HC.out B.out) hlt
      have HM := Aside0.mk (fl_more hlt)
      have HF := Aside0.mk (fl_mem hlt)
      have hty := HTY.out _ (List.getElem_mem hlt)
      obtain ⟨h, hh⟩ : ∃ h, h = hs[i] := ⟨_, rfl⟩
      rw [← hh] at y0 y1 y2 y3 hc3 hK3 hty
      rw [← hh] at HM HF
      clear hh
      obtain ⟨f0, f1, v, tc⟩ := h
      simp only at y0 y1 y2 y3 hc3 hK3 hty
      simp only at HM HF
      have B2 := Aside0.mk (B.out.trans ((Below.refl wr.heap.size wr).alloc (Nat.le_refl _) (.cells #[.string f0, .bool f1, .int .i64 v, .slice A3 tc.length c3] 93) |>.mono B.out.size))
      cases f1 with
      | false =>
        have HN1 := Aside0.mk (show x ∉ flVars (hs.take (i + 1)) by rw [HM.out, if_neg (by simp), List.append_nil]; exact HN.out)
        clear HM HF hK3
        go_wp2_with fail
        go_roundw
        case rel => exact ⟨i + 1, by omega, by go_num, HN1, B2⟩
        case measure => simp [intOf]; omega
      | true =>
        obtain ⟨t0, t2, rfl⟩ := List.exists_cons_of_ne_nil (hty rfl)
        obtain ⟨a3, rfl, k3⟩ := int_at hK3 (i := 0) (by simp)
        simp only [List.getElem_cons_zero] at k3
        rw [show a3.add 0 = a3 from by simp [Addr.add]] at k3
        have k4 : (wr.alloc (.cells #[.string f0, .bool true, .int .i64 v, .slice (some a3) (t2.length + 1) c3] 93)).cell? a3 = some (.int .i64 t0) := BindW.cell_grown k3 (World.grownBy_alloc _ _ _)
        have h0 : (0 : Int) < (t2.length : Int) + 1 := by omega
        by_cases hv : v = x
        · subst hv
          have hqt : q = true := by rw [HQ.out, decide_eq_true_iff]; exact HF.out rfl
          subst hqt
          clear HM HF hK3
          go_wp2_with fail
          go_ret2
          exact ⟨⟨t0, rfl⟩, B2.out⟩
        · have HN1 := Aside0.mk (show x ∉ flVars (hs.take (i + 1)) by
            rw [HM.out, if_pos rfl, List.mem_append, List.mem_singleton]
            rintro (h5 | h5)
            · exact HN.out h5
            · exact hv h5.symm)
          have hvb : (v == x) = false := by simpa using hv
          clear HM HF hK3
          go_wp2_with fail
          go_roundw
          case rel => exact ⟨i + 1, by omega, by go_num, HN1, B2⟩
          case measure => simp [intOf]; omega
    · have hie : i = hs.length := by omega
      subst hie
      rw [List.take_length] at HN
      have hqt : q = false := by rw [HQ.out, decide_eq_false_iff_not]; exact HN.out
      subst hqt
      go_wp2_with fail
      go_ret2
      exact ⟨⟨0, rfl⟩, B.out⟩
end Go.Proofs.YtcfocbfocemapaaGreat.FrmA

namespace Go.Proofs.YtcfocbfocemapaaGreat.FrmB
open Go.RowKit Go.Maps Go.Lib Go.Proofs.YtcfocbfocemapaaGreat.Sep Go.Proofs.YtcfocbfocemapaaGreat.Mem Go.Proofs.YtcfocbfocemapaaGreat.Sets Go.Proofs.YtcfocbfocemapaaGreat.PlayP Go.Proofs.YtcfocbfocemapaaGreat.BindP Go.Proofs.YtcfocbfocemapaaGreat.PStackPlays Go.Proofs.YtcfocbfocemapaaGreat.IterA Go.Proofs.YtcfocbfocemapaaGreat.DistB Go.Proofs.YtcfocbfocemapaaGreat.DistC Go.Proofs.YtcfocbfocemapaaGreat.SubA Go.Proofs.YtcfocbfocemapaaGreat.BindW Go.Proofs.YtcfocbfocemapaaGreat.StkA Go.Proofs.YtcfocbfocemapaaGreat.FrmA
open Go.Proofs.YtcfocbfocemapaaGreatW.PrintWords Go.Proofs.YtcfocbfocemapaaGreatW.PrintLast Go.Proofs.YtcfocbfocemapaaGreatW.PrintMore
set_option linter.unusedVariables false
set_option linter.unusedSimpArgs false
set_option maxRecDepth 100000

/-- A hypothesis in memory, its expression of one's own. -/
structure HI where
  f0 : ByteArray
  f1 : Bool
  x : Int
  ex : Ex
  A : Option Addr
  c : Nat
def HI.hy (h : HI) : Hy := ⟨h.f0, h.f1, h.x, h.ex⟩
def encH (h : HI) : List Value := [.string h.f0, .bool h.f1, .int .i64 h.x, .slice h.A h.ex.length h.c]
def cellsH (l : List HI) : List Value := l.flatMap encH
theorem cellsH_more (l : List HI) (q : HI) : cellsH (l ++ [q]) = cellsH l ++ encH q := by simp [cellsH]
theorem cellsH_at (l : List HI) : ∀ {k : Nat} (hk : k < l.length), (cellsH l)[k * 4]? = some (.string l[k].f0) ∧ (cellsH l)[k * 4 + 1]? = some (.bool l[k].f1) ∧ (cellsH l)[k * 4 + 2]? = some (.int .i64 l[k].x) ∧ (cellsH l)[k * 4 + 3]? = some (.slice l[k].A l[k].ex.length l[k].c) := by
  induction l with
  | nil => intro k hk; simp at hk
  | cons a l ih =>
    intro k hk
    have e : cellsH (a :: l) = .string a.f0 :: .bool a.f1 :: .int .i64 a.x :: .slice a.A a.ex.length a.c :: cellsH l := rfl
    rw [e]
    cases k with
    | zero => exact ⟨rfl, rfl, rfl, rfl⟩
    | succ k =>
      obtain ⟨h1, h2, h3, h4⟩ := ih (k := k) (by simpa using hk)
      rw [show (k + 1) * 4 = k * 4 + 1 + 1 + 1 + 1 by omega]
      exact ⟨by simpa using h1, by simpa [Nat.add_assoc] using h2, by simpa [Nat.add_assoc] using h3, by simpa [Nat.add_assoc] using h4⟩
def ExHAt (w : World) (items : List HI) (f : Nat → Prop) : Prop := ∀ q ∈ items, RowAt w 3 1 (.slice q.A q.ex.length q.c) q.ex.length (q.ex.map num) f
def exH (items : List HI) : Res :=
  ⟨fun w f => ExHAt w items f, fun h hm q hq => RowAt.move (h q hq) hm, fun h hm q hq => RowAt.mono (h q hq) hm, fun h q hq => RowAt.bound (h q hq)⟩
theorem exH_none {W w : World} {rs : List Res} (h : Sep W w rs) : Sep W w (exH [] :: rs) :=
  h.fresh (w' := w) (f := fun _ => False) (Turns.refl _ _) (fun q hq => by simp at hq) (fun _ h => h.elim)
theorem exH_more {W w : World} {rs : List Res} {items : List HI} {q : HI} (h : Sep W w (rowR 3 1 (.slice q.A q.ex.length q.c) q.ex.length (q.ex.map num) :: exH items :: rs)) : Sep W w (exH (items ++ [q]) :: rs) := by
  refine h.join fun f g hf hg x hx => ?_
  rcases List.mem_append.1 hx with hx | hx
  · exact RowAt.mono (hg x hx) (fun _ h => .inr h)
  · simp only [List.mem_singleton] at hx
    subst hx
    exact RowAt.mono hf (fun _ h => .inl h)
/-- Hypotheses of one's own are hypotheses that are read. -/
theorem hyps_C {W w : World} {rs : List Res} {A : Option Addr} {c n : Nat} {items : List HI} (h : Sep W w (rowR 93 4 (.slice A n c) n (cellsH items) :: exH items :: rs)) (hn : n = items.length) (hl : n ≤ 4194304) (hs : ∀ q ∈ items, q.ex.length ≤ 4194304) : Kd.C k93 w A (items.map HI.hy).length (items.map HI.hy) := by
  obtain ⟨f, hf, -⟩ := h.swap.head
  have hrow := h.row
  rw [List.length_map]
  refine ⟨by simp, by omega, fun hp => ?_⟩
  obtain ⟨b, cap, e, _, hcell, _⟩ := row_some hrow (by omega)
  simp only [Value.slice.injEq, true_and] at e
  refine ⟨⟨b, 0, none⟩, e.1, fun j p hp => ?_⟩
  rw [List.getElem?_map] at hp
  obtain ⟨q, hq, rfl⟩ := Option.map_eq_some_iff.1 hp
  have hj := (List.getElem?_eq_some_iff.1 hq).1
  have hq2 : items[j] = q := (List.getElem?_eq_some_iff.1 hq).2
  have hqm := List.mem_of_getElem? hq
  obtain ⟨h1, h2⟩ := row_Ci (hf q hqm).1 (by have := hs q hqm; omega)
  obtain ⟨n1, n2, n3, n4⟩ := cellsH_at items hj
  rw [hq2] at n1 n2 n3 n4
  refine ⟨encH q, rfl, k93_mk w (HI.hy q) h1 h2, fun i u hu => ?_⟩
  have e3 : ∀ i, (⟨b, 0, none⟩ : Addr).add (j * k93.sz + i) = ⟨b, j * 4 + i, none⟩ := fun i => add0 b (j * 4 + i)
  rw [e3]
  match i, hu with
  | 0, hu => simp [encH] at hu; subst hu; exact hcell _ _ n1
  | 1, hu => simp [encH] at hu; subst hu; exact hcell _ _ n2
  | 2, hu => simp [encH] at hu; subst hu; exact hcell _ _ n3
  | 3, hu => simp [encH] at hu; subst hu; exact hcell _ _ n4
  | i + 4, hu => simp [encH] at hu
/-- A stack with its one scope. -/
structure FS where
  sb : Nat
  hA : Option Addr
  hc : Nat
  hi : List HI
  pA : Option Addr
  pc : Nat
  ps : List S50
def FS.rs (s : Nat) (m : FS) : List Res := [boxR s 114 #[.func (.func 8) #[] #[], .slice (some ⟨m.sb, 0, none⟩) 1 1], boxR m.sb 125 #[.slice m.hA m.hi.length m.hc, .slice m.pA m.ps.length m.pc], rowR 93 4 (.slice m.hA m.hi.length m.hc) m.hi.length (cellsH m.hi), exH m.hi, rowR 50 2 (.slice m.pA m.ps.length m.pc) m.ps.length (pairCells (m.ps.map prP))]
def FS.hyps (m : FS) : List Hy := m.hi.map HI.hy
theorem fs_b {W w : World} {s : Nat} {m : FS} {rs : List Res} (h : Sep W w (m.rs s ++ rs)) : w.cell? ⟨s, 0, none⟩ = some (.func (.func 8) #[] #[]) ∧ w.cell? ⟨s, 1, none⟩ = some (.slice (some ⟨m.sb, 0, none⟩) 1 1) ∧ w.cell? ⟨m.sb, 0, none⟩ = some (.slice m.hA m.hi.length m.hc) ∧ w.cell? ⟨m.sb, 1, none⟩ = some (.slice m.pA m.ps.length m.pc) :=
  ⟨(box_cell h (j := 0) rfl).1, (box_cell h (j := 1) rfl).1, (box_cell (Sep.tail h) (j := 0) rfl).1, (box_cell (Sep.tail h) (j := 1) rfl).1⟩
theorem fs_hyps {W w : World} {s : Nat} {m : FS} {rs : List Res} (h : Sep W w (m.rs s ++ rs)) : Sep W w (rowR 93 4 (.slice m.hA m.hi.length m.hc) m.hi.length (cellsH m.hi) :: exH m.hi :: rowR 50 2 (.slice m.pA m.ps.length m.pc) m.ps.length (pairCells (m.ps.map prP)) :: rs) := Sep.tail (Sep.tail (rs := boxR m.sb 125 #[.slice m.hA m.hi.length m.hc, .slice m.pA m.ps.length m.pc] :: rowR 93 4 (.slice m.hA m.hi.length m.hc) m.hi.length (cellsH m.hi) :: exH m.hi :: rowR 50 2 (.slice m.pA m.ps.length m.pc) m.ps.length (pairCells (m.ps.map prP)) :: rs) h)
structure FS.OK (m : FS) : Prop where
  few : m.hi.length ≤ 2097152
  short : ∀ q ∈ m.hi, q.ex.length ≤ 2097152
  typed : ∀ q ∈ m.hi, q.f1 = true → q.ex ≠ []
  nodup : (flVars m.hyps).Nodup
theorem inner_calls {W w : World} {rs : List Res} {s : Nat} {m : FS} (h : Sep W w (m.rs s ++ rs)) :
    Calls Tryz.prog 62 #[.pointer (some ⟨s, 0, none⟩)] w fun e w' => e = .returned (.pointer (some ⟨m.sb, 0, none⟩)) ∧ Drawn0 w w' := by
  have b1 := (fs_b h).2.1
  clear h
  go_enter Tryz.func62, Tryz.ntmps62
  go_upto_region 1 with fail
  go_quiet (fail)
  go_wp2_with fail
  go_ret
  exact ⟨rfl, ⟨nq, rfl⟩⟩
set_option maxHeartbeats 4000000 in
theorem type_calls {W w : World} {rs : List Res} {s : Nat} {m : FS} (h : Sep W w (m.rs s ++ rs)) (hm : m.OK) (x : Int) (q : Bool) (hq : q = decide (x ∈ flVars m.hyps)) :
    Calls Tryz.prog 61 #[.pointer (some ⟨s, 0, none⟩), .int .i64 x] w fun e w' => (∃ t : Int, e = .returned (.tuple #[.int .i64 t, .bool q])) ∧ Below w.heap.size w w' := by
  have hC := hyps_C (fs_hyps h) rfl (by have := hm.few; omega) (fun q hq => by have := hm.short q hq; omega)
  have hcs := (fs_b h).2
  have hel : m.hyps.length = m.hi.length := List.length_map ..
  have hfew := hm.few
  have HT := Aside0.mk (fun w' (hb : Below w.heap.size w w') => typeOf_calls (w := w') (sb := m.sb) (c := m.hc) (A := m.hA) (hs := m.hyps) (by rw [hel]; exact (hb.cell (World.block_lt_of_cell? _ _ hcs.2.1)).trans hcs.2.1) (Kd.C_below hC hb) (by omega) (fun y hy hf => by
    obtain ⟨z, hz, rfl⟩ := List.mem_map.1 hy
    exact hm.typed z hz hf) x q hq)
  have HS := Aside0.mk (fun w' (hb : Below w.heap.size w w') => ((hb.cell (World.block_lt_of_cell? _ _ hcs.1)).trans hcs.1 : w'.cell? ⟨s, 1, none⟩ = some (.slice (some ⟨m.sb, 0, none⟩) 1 1)))
  have b1 := hcs.1
  have B0 := Aside0.mk (Below.refl w.heap.size w)
  clear h hC hcs hel hfew hm hq
  go_enter Tryz.func61, Tryz.ntmps61
  go_wp2_with fail
  go_loopw [6, 7, 8, 14] (fun v6 v7 v8 v14 wr => ∃ (i : Nat), i ≤ 1 ∧ v14 = .int .i64 i ∧ (i = 1 → q = false) ∧ Aside0 (Below w.heap.size w wr)) (fun _ _ _ v14 _ => 1 - (intOf v14).toNat)
  case atStart => exact ⟨0, by omega, rfl, by omega, B0⟩
  case round =>
    clear B0 b1
    obtain ⟨i, hi, rfl, hiq, B⟩ := hrel
    by_cases hlt : i < 1
    · obtain rfl : i = 0 := by omega
      have b1 := HS.out _ B.out
      clear hiq
      cases q with
      | true =>
        go_wp2_with (go_at_call 86; refine (HT.out _ B.out).mono ?_; rintro e w2 ⟨⟨t, rfl⟩, hb⟩; have B2 := Aside0.mk (below_then B.out B.out.size hb); clear B hb b1)
        go_ret2
        exact ⟨⟨t, rfl⟩, B2.out⟩
      | false =>
        go_wp2_with (go_at_call 86; refine (HT.out _ B.out).mono ?_; rintro e w2 ⟨⟨t, rfl⟩, hb⟩; have B2 := Aside0.mk (below_then B.out B.out.size hb); clear B hb b1)
        go_roundw
        case rel => exact ⟨1, by omega, by go_num, by simp, B2⟩
        case measure => simp [intOf]
    · obtain rfl : i = 1 := by omega
      have hqf := hiq rfl
      subst hqf
      go_wp2_with fail
      go_ret2
      exact ⟨⟨0, rfl⟩, B.out⟩
end Go.Proofs.YtcfocbfocemapaaGreat.FrmB

namespace Go.Proofs.YtcfocbfocemapaaGreat.FrmC
open Go.RowKit Go.Maps Go.Lib Go.Proofs.YtcfocbfocemapaaGreat.Sep Go.Proofs.YtcfocbfocemapaaGreat.Mem Go.Proofs.YtcfocbfocemapaaGreat.Sets Go.Proofs.YtcfocbfocemapaaGreat.PlayP Go.Proofs.YtcfocbfocemapaaGreat.BindP Go.Proofs.YtcfocbfocemapaaGreat.PStackPlays Go.Proofs.YtcfocbfocemapaaGreat.IterA Go.Proofs.YtcfocbfocemapaaGreat.DistB Go.Proofs.YtcfocbfocemapaaGreat.DistC Go.Proofs.YtcfocbfocemapaaGreat.SubA Go.Proofs.YtcfocbfocemapaaGreat.BindW Go.Proofs.YtcfocbfocemapaaGreat.StkA Go.Proofs.YtcfocbfocemapaaGreat.FrmA Go.Proofs.YtcfocbfocemapaaGreat.FrmB
open Go.Proofs.YtcfocbfocemapaaGreatW.PrintWords Go.Proofs.YtcfocbfocemapaaGreatW.PrintLast Go.Proofs.YtcfocbfocemapaaGreatW.PrintMore
set_option linter.unusedVariables false
set_option linter.unusedSimpArgs false
set_option maxRecDepth 100000

theorem info125 : (Tryz.prog.info? 125).map (fun i => (i.zero, i.size, i.bytes)) = some (some (.agg #[.slice none 0 0, .slice none 0 0]), 2, 48) := by kernel_rfl
theorem made125 : (madeCells (Value.agg #[.slice none 0 0, .slice none 0 0]).cells (1 * 2)).toList = (#[.slice none 0 0, .slice none 0 0] : Array Value).toList := by first | kernel_rfl | decide | (simp [madeCells, Value.cells]; done)
set_option maxHeartbeats 4000000 in
theorem fnew_calls {W w : World} {rs : List Res} (h : Sep W w rs) :
    Calls Tryz.prog 42 #[.func (.func 8) #[] #[]] w fun e w' => ∃ s sb, e = .returned (.pointer (some ⟨s, 0, none⟩)) ∧ Sep W w' (FS.rs s ⟨sb, none, 0, [], none, 0, []⟩ ++ rs) := by
  have M := Aside0.mk h
  clear h
  go_enter Tryz.func42, Tryz.ntmps42
  obtain ⟨i0, hi0, hz0, hz1, hz2⟩ := info_parts info125
  go_wp2_with (at_make; refine wpList_make_full w rfl _ _ 112 rfl 0 125 i0 _ 2 Tryz.underlying112 hi0 hz0 hz1 .i64 .i64 1 1 1 rfl rfl rfl rfl (by rw [hz2]; decide) (by decide) (Nat.zero_le _) ?_; intro w2 hown hgrow)
  go_ret
  have hg : w2.heap[w.heap.size]? = some (.cells #[.slice none 0 0, .slice none 0 0] 125 (0, 0)) := by
    rcases hown.2 with ⟨h0, -⟩ | ⟨g, cap, cur, e1, -, hgb, -, -, r3, r4⟩
    · simp at h0
    · simp only [Value.slice.injEq, Option.some.injEq, Addr.mk.injEq, and_true, true_and] at e1
      obtain ⟨rfl, rfl⟩ := e1
      have hcur : cur = #[.slice none 0 0, .slice none 0 0] := by
        apply Array.ext'
        rw [List.take_of_length_le (by rw [Array.length_toList, r3]; decide)] at r4
        rw [r4]
        exact made125
      rw [hgb, hcur]
  have hsz : w.heap.size < w2.heap.size := (Array.getElem?_eq_some_iff.1 hg).1
  have h2 : Sep W w2 (boxR w.heap.size 125 #[.slice none 0 0, .slice none 0 0] :: rs) := M.out.fresh (f := fun k => w.heap.size ≤ k) (Turns.of_grown hgrow (fun k hk => by cases hk)) ⟨hg, Nat.le_refl _⟩ (fun _ hk => hk)
  have h3 := exH_none (row_nil (row_nil h2 50 2) 93 4)
  have h4 := box_fresh h3 114 #[.func (.func 8) #[] #[], .slice (some ⟨w.heap.size, 0, none⟩) 1 1]
  refine ⟨w2.heap.size, w.heap.size, rfl, ?_⟩
  exact ((h4.pull 2 (by simp)).pull 4 (by simp)).pull 2 (by simp)
end Go.Proofs.YtcfocbfocemapaaGreat.FrmC

namespace Go.Proofs.YtcfocbfocemapaaGreat.FrmD
open Go.RowKit Go.Maps Go.Lib Go.Proofs.YtcfocbfocemapaaGreat.Sep Go.Proofs.YtcfocbfocemapaaGreat.Mem Go.Proofs.YtcfocbfocemapaaGreat.Sets Go.Proofs.YtcfocbfocemapaaGreat.PlayP Go.Proofs.YtcfocbfocemapaaGreat.BindP Go.Proofs.YtcfocbfocemapaaGreat.PStackPlays Go.Proofs.YtcfocbfocemapaaGreat.DistA Go.Proofs.YtcfocbfocemapaaGreat.IterA Go.Proofs.YtcfocbfocemapaaGreat.SortB Go.Proofs.YtcfocbfocemapaaGreat.DistB Go.Proofs.YtcfocbfocemapaaGreat.DistC Go.Proofs.YtcfocbfocemapaaGreat.SubA Go.Proofs.YtcfocbfocemapaaGreat.BindW Go.Proofs.YtcfocbfocemapaaGreat.StkA Go.Proofs.YtcfocbfocemapaaGreat.ApplyW Go.Proofs.YtcfocbfocemapaaGreat.FrmA Go.Proofs.YtcfocbfocemapaaGreat.FrmB
open Go.Proofs.YtcfocbfocemapaaGreatW.PrintWords Go.Proofs.YtcfocbfocemapaaGreatW.PrintLast Go.Proofs.YtcfocbfocemapaaGreatW.PrintMore
set_option linter.unusedVariables false
set_option linter.unusedSimpArgs false
set_option maxRecDepth 100000

theorem nil_C (w : World) : Kd.C k50 w none ([] : List S50).length [] := ⟨rfl, by simp, fun hn => by simp at hn⟩
set_option maxHeartbeats 4000000 in
theorem active_calls {W w : World} {rs : List Res} {s : Nat} {m : FS} (h : Sep W w (m.rs s ++ rs)) (hpl : m.ps.length ≤ 4194304) (hpo : ∀ p ∈ m.ps, PairOK (prP p)) :
    Calls Tryz.prog 67 #[.pointer (some ⟨s, 0, none⟩)] w fun e w' => ∃ (v : Value) (ss : List PI), e = .returned v ∧ ListOf (unionF [] m.ps) ss ∧ ss.length ≤ m.ps.length ∧ Sep w w' [rowR 50 2 v ss.length (pairCells ss)] := by
  have hC := row_CP (Sep.row (rs := boxR s 114 #[.func (.func 8) #[] #[], .slice (some ⟨m.sb, 0, none⟩) 1 1] :: boxR m.sb 125 #[.slice m.hA m.hi.length m.hc, .slice m.pA m.ps.length m.pc] :: rowR 93 4 (.slice m.hA m.hi.length m.hc) m.hi.length (cellsH m.hi) :: exH m.hi :: rs) (h.pull 4 (by simp [FS.rs]))) (by omega)
  have hcs := (fs_b h).2
  have M0 := Aside0.mk (read_old (Sep.start w) (C := fun w' => Kd.C k50 w' m.pA m.ps.length m.ps) (fun w' hw => Kd.Heap.C k50_heap hw hC))
  have HS := Aside0.mk (fun w' (hb : Below w.heap.size w w') => (⟨(hb.cell (World.block_lt_of_cell? _ _ hcs.1)).trans hcs.1, (hb.cell (World.block_lt_of_cell? _ _ hcs.2.1)).trans hcs.2.1, (hb.cell (World.block_lt_of_cell? _ _ hcs.2.2)).trans hcs.2.2⟩ : w'.cell? ⟨s, 1, none⟩ = some (.slice (some ⟨m.sb, 0, none⟩) 1 1) ∧ w'.cell? ⟨m.sb, 0, none⟩ = some (.slice m.hA m.hi.length m.hc) ∧ w'.cell? ⟨m.sb, 1, none⟩ = some (.slice m.pA m.ps.length m.pc)))
  have HPO := Aside0.mk hpo
  have b1 := hcs.1
  clear h hC hcs hpo
  go_enter Tryz.func67, Tryz.ntmps67
  go_wp2_with fail
  go_loopw [3, 5, 11] (fun v3 v5 v11 wr => ∃ (i : Nat), i ≤ 1 ∧ v11 = .int .i64 i ∧ (i = 0 → v3 = .slice none 0 0 ∧ Aside0 (Sep w wr [readR w (fun w' => Kd.C k50 w' m.pA m.ps.length m.ps)])) ∧
    (i = 1 → ∃ ss : List PI, Aside0 (ListOf (unionF [] m.ps) ss) ∧ ss.length ≤ m.ps.length ∧ Aside0 (Sep w wr [rowR 50 2 v3 ss.length (pairCells ss)]))) (fun _ _ v11 _ => 1 - (intOf v11).toNat)
  case atStart => exact ⟨0, by omega, rfl, fun _ => ⟨rfl, M0⟩, fun h => by omega⟩
  case round =>
    clear M0 b1
    obtain ⟨i, hi, rfl, h0, h1⟩ := hrel
    by_cases hlt : i < 1
    · obtain rfl : i = 0 := by omega
      obtain ⟨rfl, M⟩ := h0 rfl
      obtain ⟨b1, b2, b3⟩ := HS.out _ M.out.1
      clear h0 h1
      have M2 := Aside0.mk (M.out.alloc (.cells #[.slice m.hA m.hi.length m.hc, .slice m.pA m.ps.length m.pc] 125))
      have hun := union_calls (A := none) (ca := 0) (cb := m.pc) (xs := []) (ys := m.ps) M2.out (fun w' _ => nil_C w') (fun w' hw => hw) (fun p hp => by simp at hp) HPO.out (by simp) hpl
      go_wp2_with (go_at_call 66; refine hun.mono ?_; clear hun; rintro e w3 ⟨v, ss, rfl, hlo, hsl, hm⟩; have M3 := Aside0.mk hm.swap.tail; have HL := Aside0.mk hlo; clear hm hlo M M2 b1 b2 b3)
      have hsl2 : ss.length ≤ m.ps.length := by simpa using hsl
      go_roundw
      case rel => exact ⟨1, by omega, by go_num, fun h => by omega, fun _ => ⟨ss, HL, hsl2, M3⟩⟩
      case measure => simp [intOf]
    · obtain rfl : i = 1 := by omega
      obtain ⟨ss, HL, hsl, M⟩ := h1 rfl
      go_wp2_with fail
      go_ret
      exact ⟨_, rfl, ss, HL.out, hsl, M.out⟩
end Go.Proofs.YtcfocbfocemapaaGreat.FrmD

namespace Go.Proofs.YtcfocbfocemapaaGreat.FrmE
open Go.RowKit Go.Maps Go.Lib Go.Proofs.YtcfocbfocemapaaGreat.Sep Go.Proofs.YtcfocbfocemapaaGreat.Mem Go.Proofs.YtcfocbfocemapaaGreat.Sets Go.Proofs.YtcfocbfocemapaaGreat.PlayP Go.Proofs.YtcfocbfocemapaaGreat.BindP Go.Proofs.YtcfocbfocemapaaGreat.PStackPlays Go.Proofs.YtcfocbfocemapaaGreat.DistA Go.Proofs.YtcfocbfocemapaaGreat.IterA Go.Proofs.YtcfocbfocemapaaGreat.SortB Go.Proofs.YtcfocbfocemapaaGreat.DistB Go.Proofs.YtcfocbfocemapaaGreat.DistC Go.Proofs.YtcfocbfocemapaaGreat.SubA Go.Proofs.YtcfocbfocemapaaGreat.BindW Go.Proofs.YtcfocbfocemapaaGreat.StkA Go.Proofs.YtcfocbfocemapaaGreat.ApplyW Go.Proofs.YtcfocbfocemapaaGreat.FrmA Go.Proofs.YtcfocbfocemapaaGreat.FrmB
open Go.Proofs.YtcfocbfocemapaaGreatW.PrintWords Go.Proofs.YtcfocbfocemapaaGreatW.PrintLast Go.Proofs.YtcfocbfocemapaaGreatW.PrintMore
set_option linter.unusedVariables false
set_option linter.unusedSimpArgs false
set_option maxRecDepth 100000

set_option maxHeartbeats 4000000 in
/-- apart: the set of pairs becomes the union. -/
theorem apart_calls {W w : World} {rs : List Res} {s : Nat} {m : FS} (h : Sep W w (m.rs s ++ rs)) (hpl : m.ps.length ≤ 2097152) (hpo : ∀ p ∈ m.ps, PairOK (prP p)) {B : Option Addr} {c : Nat} {l : List S50} (hB : Kd.C k50 w B l.length l) (hll : l.length ≤ 2097152) (hlo : ∀ p ∈ l, PairOK (prP p)) :
    Calls Tryz.prog 68 #[.pointer (some ⟨m.sb, 1, none⟩), .slice B l.length c] w fun e w' => e = .returned (.tuple #[]) ∧ ∃ (A' : Option Addr) (c' : Nat) (ss : List S50), ListOf (unionF m.ps l) (ss.map prP) ∧ ss.length ≤ m.ps.length + l.length ∧ Sep W w' (FS.rs s { m with pA := A', pc := c', ps := ss } ++ rs) := by
  have hC := row_CP (Sep.row (rs := boxR s 114 #[.func (.func 8) #[] #[], .slice (some ⟨m.sb, 0, none⟩) 1 1] :: boxR m.sb 125 #[.slice m.hA m.hi.length m.hc, .slice m.pA m.ps.length m.pc] :: rowR 93 4 (.slice m.hA m.hi.length m.hc) m.hi.length (cellsH m.hi) :: exH m.hi :: rs) (h.pull 4 (by simp [FS.rs]))) (by omega)
  have hcs := (fs_b h).2
  have hun := union_calls (A := m.pA) (ca := m.pc) (B := B) (cb := c) (xs := m.ps) (ys := l) (read_old (Sep.start w) (C := fun w' => Kd.C k50 w' m.pA m.ps.length m.ps ∧ Kd.C k50 w' B l.length l) (fun w' hw => ⟨Kd.Heap.C k50_heap hw hC, Kd.Heap.C k50_heap hw hB⟩)) (fun w' hw => hw.1) (fun w' hw => hw.2) hpo hlo (by omega) (by omega)
  have HM := Aside0.mk h
  have b1 := hcs.2.2
  clear h hC hcs hpo hlo hB
  go_enter Tryz.func68, Tryz.ntmps68
  go_wp2_with (go_at_call 66; refine hun.mono ?_; clear hun; rintro e w3 ⟨v, ss, rfl, hlo, hsl, hm⟩; obtain ⟨A', c', rfl, hc'⟩ := row_slice hm.row; have M3 := Aside0.mk (Sep.pull (sep_over HM.out hm.swap.tail) 2 (by simp [FS.rs])); have HL := Aside0.mk hlo; have b1 : w3.cell? ⟨m.sb, 1, none⟩ = some (.slice m.pA m.ps.length m.pc) := (box_cell M3.out (j := 1) rfl).1; have f1 : w3.frozen? ⟨m.sb, 1, none⟩ = false := (box_cell M3.out (j := 1) rfl).2; clear hm hlo)
  go_end0
  obtain ⟨l2, rfl⟩ : ∃ l2 : List S50, ss = l2.map prP := ⟨ss.map (fun p => ⟨p.1, p.2⟩), by rw [List.map_map]; exact (List.map_id' _).symm⟩
  rw [List.length_map] at hsl M3 ⊢
  refine ⟨rfl, A', c', l2, HL.out, hsl, ?_⟩
  have h4 : Sep W (w3.setCell ⟨m.sb, 1, none⟩ (.slice A' l2.length c')) (boxR m.sb 125 #[.slice m.hA m.hi.length m.hc, .slice A' l2.length c'] :: rowR 50 2 (.slice A' l2.length c') l2.length (pairCells (l2.map prP)) :: boxR s 114 #[.func (.func 8) #[] #[], .slice (some ⟨m.sb, 0, none⟩) 1 1] :: rowR 93 4 (.slice m.hA m.hi.length m.hc) m.hi.length (cellsH m.hi) :: exH m.hi :: rowR 50 2 (.slice m.pA m.ps.length m.pc) m.ps.length (pairCells (m.ps.map prP)) :: rs) := box_set M3.out 1 (.slice A' l2.length c')
  have h5 := (h4.pull 5 (by simp)).tail
  exact ((((h5.pull 1 (by simp)).pull 4 (by simp)).pull 4 (by simp)).pull 3 (by simp)).pull 4 (by simp)
end Go.Proofs.YtcfocbfocemapaaGreat.FrmE

namespace Go.Proofs.YtcfocbfocemapaaGreat.FrmP
open Go.RowKit Go.Maps Go.Lib Go.Proofs.YtcfocbfocemapaaGreat.Sep Go.Proofs.YtcfocbfocemapaaGreat.Mem Go.Proofs.YtcfocbfocemapaaGreat.Sets Go.Proofs.YtcfocbfocemapaaGreat.PlayP Go.Proofs.YtcfocbfocemapaaGreat.BindP Go.Proofs.YtcfocbfocemapaaGreat.PStackPlays Go.Proofs.YtcfocbfocemapaaGreat.DistA Go.Proofs.YtcfocbfocemapaaGreat.IterA Go.Proofs.YtcfocbfocemapaaGreat.SortB Go.Proofs.YtcfocbfocemapaaGreat.DistB Go.Proofs.YtcfocbfocemapaaGreat.DistC Go.Proofs.YtcfocbfocemapaaGreat.SubA Go.Proofs.YtcfocbfocemapaaGreat.BindW Go.Proofs.YtcfocbfocemapaaGreat.FrmB
open Go.Proofs.YtcfocbfocemapaaGreatW.PrintWords Go.Proofs.YtcfocbfocemapaaGreatW.PrintLast Go.Proofs.YtcfocbfocemapaaGreatW.PrintMore
set_option linter.unusedVariables false
set_option linter.unusedSimpArgs false
set_option maxRecDepth 100000

def hits (l : List S50) (x : PI) : Bool := l.any fun p => decide (p.f0 ≠ p.f1) && decide (turnP (prP p) = x)
theorem putAll_hits (l : List S50) : ∀ (f : PI → Bool) (x : PI), DistB.putAll f l x = (f x || hits l x) := by
  induction l with
  | nil => intro f x; simp [DistB.putAll, hits]
  | cons p l ih =>
    intro f x
    have e : DistB.putAll f (p :: l) = DistB.putAll (putS f (prP p)) l := rfl
    rw [e, ih]
    have e2 : hits (p :: l) x = (decide (p.f0 ≠ p.f1) && decide (turnP (prP p) = x) || hits l x) := rfl
    rw [e2]
    unfold putS
    by_cases h : p.f0 = p.f1
    · rw [if_pos (show (prP p).1 = (prP p).2 from h)]
      simp [h]
    · rw [if_neg (show ¬ (prP p).1 = (prP p).2 from h)]
      unfold upd
      simp only [h, ne_eq, not_false_eq_true, decide_true, Bool.true_and]
      rw [show decide (x = turnP (prP p)) = decide (turnP (prP p) = x) from decide_eq_decide.2 ⟨Eq.symm, Eq.symm⟩]
      cases f x <;> cases decide (turnP (prP p) = x) <;> simp
theorem unionF_hits (a b : List S50) (x : PI) : unionF a b x = (hits a x || hits b x) := by
  unfold unionF
  rw [putAll_hits, putAll_hits]
  simp
theorem turn_le (p : PI) : (turnP p).1 ≤ (turnP p).2 := by
  obtain ⟨a, b⟩ := p
  unfold turnP
  simp only
  split <;> (simp only at *; omega)
theorem turn_id {p : PI} (h : p.1 ≤ p.2) : turnP p = p := by
  unfold turnP
  rw [if_neg (by omega)]
theorem turn_ne {p : PI} (h : p.1 ≠ p.2) : (turnP p).1 ≠ (turnP p).2 := by
  obtain ⟨a, b⟩ := p
  unfold turnP
  simp only at h ⊢
  split <;> (simp only at *; omega)
theorem hits_of {m l2 : List S50} (h : ListOf (unionF [] m) (l2.map prP)) (x : PI) (hx : PairOK x) : hits l2 x = hits m x := by
  have hm : ∀ y, PairOK y → (y ∈ l2.map prP ↔ hits m y = true) := fun y hy => by
    rw [h.2.2 y hy, unionF_hits]
    simp [hits]
  rw [Bool.eq_iff_iff]
  constructor
  · intro h1
    obtain ⟨p, hp, h2⟩ := List.any_eq_true.1 h1
    rw [Bool.and_eq_true, decide_eq_true_iff, decide_eq_true_iff] at h2
    have hp2 : prP p ∈ l2.map prP := List.mem_map_of_mem hp
    have hpo := h.2.1 _ hp2
    have h3 := (hm _ hpo).1 hp2
    obtain ⟨q, hq, h4⟩ := List.any_eq_true.1 h3
    rw [Bool.and_eq_true, decide_eq_true_iff, decide_eq_true_iff] at h4
    have h5 : turnP (prP p) = prP p := turn_id (by rw [← h4.2]; exact turn_le _)
    rw [h5] at h2
    rw [← h2.2]
    exact h3
  · intro h1
    have h2 := (hm x hx).2 h1
    obtain ⟨p, hp, rfl⟩ := List.mem_map.1 h2
    obtain ⟨q, hq, h4⟩ := List.any_eq_true.1 h1
    rw [Bool.and_eq_true, decide_eq_true_iff, decide_eq_true_iff] at h4
    refine List.any_eq_true.2 ⟨p, hp, ?_⟩
    rw [Bool.and_eq_true, decide_eq_true_iff, decide_eq_true_iff]
    have h6 : (prP p).1 ≠ (prP p).2 := by rw [← h4.2]; exact turn_ne h4.1
    exact ⟨h6, turn_id (by rw [← h4.2]; exact turn_le _)⟩
theorem ordered_nodup {l : List PI} (h : Ordered l) : l.Nodup := by
  refine List.Pairwise.imp ?_ h
  rintro ⟨a1, a2⟩ ⟨b1, b2⟩ h e
  cases e
  simp at h
theorem list_len {f g : PI → Bool} {a b : List PI} (ha : ListOf f a) (hb : ListOf g b) (h : ∀ x, PairOK x → f x = g x) : a.length = b.length := by
  have hp : a.Perm b := by
    rw [List.perm_ext_iff_of_nodup (ordered_nodup ha.1) (ordered_nodup hb.1)]
    intro x
    constructor
    · intro hx
      have ho := ha.2.1 x hx
      exact (hb.2.2 x ho).2 ((h x ho) ▸ (ha.2.2 x ho).1 hx)
    · intro hx
      have ho := hb.2.1 x hx
      exact (ha.2.2 x ho).2 ((h x ho).symm ▸ (hb.2.2 x ho).1 hx)
  exact hp.length_eq
/-- The pairs that are active, with others: as many as the set's own with those. -/
theorem union_len {m l act : List S50} {a b : List PI} (hact : ListOf (unionF [] m) (act.map prP)) (ha : ListOf (unionF act l) a) (hb : ListOf (unionF m l) b) : b.length = a.length :=
  list_len hb ha fun x hx => by rw [unionF_hits, unionF_hits, hits_of hact x hx]
theorem row_S50 {W w : World} {rs : List Res} {v : Value} {ss : List PI} (h : Sep W w (rowR 50 2 v ss.length (pairCells ss) :: rs)) : ∃ (B : Option Addr) (d : Nat) (l : List S50), v = .slice B l.length d ∧ l.length ≤ d ∧ ss = l.map prP ∧ Sep W w (rowR 50 2 (.slice B l.length d) l.length (pairCells (l.map prP)) :: rs) := by
  obtain ⟨B, d, rfl, hd⟩ := row_slice h.row
  have e : ss = (ss.map (fun p => (⟨p.1, p.2⟩ : S50))).map prP := by rw [List.map_map]; exact (List.map_id' _).symm
  refine ⟨B, d, ss.map (fun p => ⟨p.1, p.2⟩), by rw [List.length_map], by rw [List.length_map]; exact hd, e, ?_⟩
  rw [← e, List.length_map]
  exact h
theorem active2 {W V w : World} {rs rs2 : List Res} {s : Nat} {m : FS} (h : Sep W w (m.rs s ++ rs)) (M : Sep V w rs2) (hpl : m.ps.length ≤ 4194304) (hpo : ∀ p ∈ m.ps, PairOK (prP p)) :
    Calls Tryz.prog 67 #[.pointer (some ⟨s, 0, none⟩)] w fun e w' => ∃ (B : Option Addr) (d : Nat) (l : List S50), e = .returned (.slice B l.length d) ∧ l.length ≤ d ∧ ListOf (unionF [] m.ps) (l.map prP) ∧ l.length ≤ m.ps.length ∧ Sep V w' (rowR 50 2 (.slice B l.length d) l.length (pairCells (l.map prP)) :: rs2) := by
  refine (FrmD.active_calls h hpl hpo).mono ?_
  rintro e w' ⟨v, ss, rfl, h1, h2, h3⟩
  obtain ⟨B, d, l, rfl, hd, rfl, hm⟩ := row_S50 h3
  clear h3
  rw [List.length_map] at h2
  exact ⟨B, d, l, rfl, hd, h1, h2, sep_over M hm⟩
theorem union2 {W w : World} {rs : List Res} {A B : Option Addr} {ca cb : Nat} {xs ys : List S50} (M : Sep W w (rowR 50 2 (.slice A xs.length ca) xs.length (pairCells (xs.map prP)) :: rowR 50 2 (.slice B ys.length cb) ys.length (pairCells (ys.map prP)) :: rs)) (oA : ∀ p ∈ xs, PairOK (prP p)) (oB : ∀ p ∈ ys, PairOK (prP p)) (la : xs.length ≤ 4194304) (lb : ys.length ≤ 4194304) :
    Calls Tryz.prog 66 #[.slice A xs.length ca, .slice B ys.length cb] w fun e w' => ∃ (D : Option Addr) (d : Nat) (l : List S50), e = .returned (.slice D l.length d) ∧ l.length ≤ d ∧ ListOf (unionF xs ys) (l.map prP) ∧ Sep W w' (rowR 50 2 (.slice D l.length d) l.length (pairCells (l.map prP)) :: rowR 50 2 (.slice A xs.length ca) xs.length (pairCells (xs.map prP)) :: rowR 50 2 (.slice B ys.length cb) ys.length (pairCells (ys.map prP)) :: rs) := by
  have h1 := ApplyW.row_CP M.row (by omega)
  have h2 := ApplyW.row_CP M.tail.row (by omega)
  refine (union_calls (ca := ca) (cb := cb) (read_old (Sep.start w) (C := fun w' => Kd.C k50 w' A xs.length xs ∧ Kd.C k50 w' B ys.length ys) (fun w' hw => ⟨Kd.Heap.C k50_heap hw h1, Kd.Heap.C k50_heap hw h2⟩)) (fun w' hw => hw.1) (fun w' hw => hw.2) oA oB la lb).mono ?_
  rintro e w' ⟨v, ss, rfl, h3, -, h4⟩
  obtain ⟨D, d, l, rfl, hd, rfl, hm⟩ := row_S50 h4
  exact ⟨D, d, l, rfl, hd, h3, sep_over M hm.swap.tail⟩
end Go.Proofs.YtcfocbfocemapaaGreat.FrmP

namespace Go.Proofs.YtcfocbfocemapaaGreat.FrmF
open Go.RowKit Go.Maps Go.Lib Go.Proofs.YtcfocbfocemapaaGreat.Sep Go.Proofs.YtcfocbfocemapaaGreat.Mem Go.Proofs.YtcfocbfocemapaaGreat.Sets Go.Proofs.YtcfocbfocemapaaGreat.PlayP Go.Proofs.YtcfocbfocemapaaGreat.BindP Go.Proofs.YtcfocbfocemapaaGreat.PStackPlays Go.Proofs.YtcfocbfocemapaaGreat.DistA Go.Proofs.YtcfocbfocemapaaGreat.IterA Go.Proofs.YtcfocbfocemapaaGreat.SortB Go.Proofs.YtcfocbfocemapaaGreat.DistB Go.Proofs.YtcfocbfocemapaaGreat.DistC Go.Proofs.YtcfocbfocemapaaGreat.SubA Go.Proofs.YtcfocbfocemapaaGreat.BindW Go.Proofs.YtcfocbfocemapaaGreat.StkA Go.Proofs.YtcfocbfocemapaaGreat.ApplyW Go.Proofs.YtcfocbfocemapaaGreat.FrmA Go.Proofs.YtcfocbfocemapaaGreat.FrmB
open Go.Proofs.YtcfocbfocemapaaGreatW.PrintWords Go.Proofs.YtcfocbfocemapaaGreatW.PrintLast Go.Proofs.YtcfocbfocemapaaGreatW.PrintMore
set_option linter.unusedVariables false
set_option linter.unusedSimpArgs false
set_option maxRecDepth 100000

theorem info93 : (Tryz.prog.info? 93).map (fun i => (i.zero, i.size, i.bytes)) = some (some (.agg #[.string ⟨#[]⟩, .bool false, .int .i64 0, .slice none 0 0]), 4, 56) := by kernel_rfl
theorem five {W w : World} {rs : List Res} {b c : Nat} {x y x0 x1 x2 x3 : Value} {t : TypeId} (h : Sep W w (boxR c t #[x0, x1, x2, x3] :: boxR b 125 #[x, y] :: rs)) : w.cell? ⟨b, 0, none⟩ = some x ∧ w.cell? ⟨c, 0, none⟩ = some x0 ∧ w.cell? ⟨c, 1, none⟩ = some x1 ∧ w.cell? ⟨c, 2, none⟩ = some x2 ∧ w.cell? ⟨c, 3, none⟩ = some x3 :=
  ⟨(box_cell h.tail (j := 0) rfl).1, (box_cell h (j := 0) rfl).1, (box_cell h (j := 1) rfl).1, (box_cell h (j := 2) rfl).1, (box_cell h (j := 3) rfl).1⟩
set_option maxHeartbeats 4000000 in
theorem declare_calls {W w : World} {rs : List Res} {s : Nat} {m : FS} {q : HI} (h : Sep W w (rowR 3 1 (.slice q.A q.ex.length q.c) q.ex.length (q.ex.map num) :: (m.rs s ++ rs))) (hl : m.hi.length ≤ 2097152) :
    Calls Tryz.prog 63 #[.pointer (some ⟨m.sb, 0, none⟩), .agg #[.string q.f0, .bool q.f1, .int .i64 q.x, .slice q.A q.ex.length q.c]] w fun e w' => e = .returned (.tuple #[]) ∧ ∃ (A' : Option Addr) (c' : Nat), Sep W w' (FS.rs s { m with hA := A', hc := c', hi := m.hi ++ [q] } ++ rs) := by
  have h1 : Sep W w (boxR m.sb 125 #[.slice m.hA m.hi.length m.hc, .slice m.pA m.ps.length m.pc] :: rowR 93 4 (.slice m.hA m.hi.length m.hc) m.hi.length (cellsH m.hi) :: rowR 3 1 (.slice q.A q.ex.length q.c) q.ex.length (q.ex.map num) :: boxR s 114 #[.func (.func 8) #[] #[], .slice (some ⟨m.sb, 0, none⟩) 1 1] :: exH m.hi :: rowR 50 2 (.slice m.pA m.ps.length m.pc) m.ps.length (pairCells (m.ps.map prP)) :: rs) :=
    ((Sep.pull (rs := rowR 3 1 (.slice q.A q.ex.length q.c) q.ex.length (q.ex.map num) :: boxR s 114 #[.func (.func 8) #[] #[], .slice (some ⟨m.sb, 0, none⟩) 1 1] :: boxR m.sb 125 #[.slice m.hA m.hi.length m.hc, .slice m.pA m.ps.length m.pc] :: rowR 93 4 (.slice m.hA m.hi.length m.hc) m.hi.length (cellsH m.hi) :: exH m.hi :: rowR 50 2 (.slice m.pA m.ps.length m.pc) m.ps.length (pairCells (m.ps.map prP)) :: rs) h 3 (by simp)).pull 3 (by simp))
  have M := Aside0.mk ((box_fresh h1 93 #[.string q.f0, .bool q.f1, .int .i64 q.x, .slice q.A q.ex.length q.c]).drawn (w' := (w.alloc (.cells #[.string q.f0, .bool q.f1, .int .i64 q.x, .slice q.A q.ex.length q.c] 93)).drew) ⟨1, rfl⟩)
  clear h h1
  go_enter Tryz.func63, Tryz.ntmps63
  go_upto_region 1 with fail
  -- region 1
  refine start_ (n := 11) (S := fun w' => w'.cell? ⟨m.sb, 0, none⟩ = some (.slice m.hA m.hi.length m.hc) ∧ w'.cell? ⟨w.heap.size, 0, none⟩ = some (.string q.f0) ∧ w'.cell? ⟨w.heap.size, 1, none⟩ = some (.bool q.f1) ∧ w'.cell? ⟨w.heap.size, 2, none⟩ = some (.int .i64 q.x) ∧ w'.cell? ⟨w.heap.size, 3, none⟩ = some (.slice q.A q.ex.length q.c)) (ds := [10]) #[false, false, false, false, false, false, false, false, false, false, false] (by kernel_rfl) rfl rfl (five M.out) (fun hHeld => ?_)
  generalize (w.alloc (.cells #[.string q.f0, .bool q.f1, .int .i64 q.x, .slice q.A q.ex.length q.c] 93)).drew = w8 at M hHeld ⊢
  refine pure_ (i := 0) (N := some 4) (v := ?_) (a' := ?_) #[true, false, false, false, false, false, false, false, false, false, false] rfl rfl (by kernel_rfl) (fun _ _ _ h => h) (Or.inl ⟨by rfl, ?_⟩) ?_ ?_
  rotate_left
  · intro w'
    go_simp
    with_reducible rfl
  rotate_left
  · simp only [Act.put, List.setIfInBounds_toArray, List.set_cons_zero, List.set_cons_succ, i64_w, i32_w]
    rfl
  refine pure_ (i := 1) (N := some 5) (v := ?_) (a' := ?_) #[true, true, false, false, false, false, false, false, false, false, false] rfl rfl (by kernel_rfl) (fun _ _ _ h => h) (Or.inl ⟨by rfl, ?_⟩) ?_ ?_
  rotate_left
  · intro w'
    go_simp
    with_reducible rfl
  rotate_left
  · simp only [Act.put, List.setIfInBounds_toArray, List.set_cons_zero, List.set_cons_succ, i64_w, i32_w]
    rfl
  refine pure_ (i := 2) (N := some 6) (v := ?_) (a' := ?_) #[true, true, true, false, false, false, false, false, false, false, false] rfl rfl (by kernel_rfl) (fun _ _ _ h => h) (Or.inl ⟨by rfl, ?_⟩) ?_ ?_
  rotate_left
  · intro w'
    go_simp
    with_reducible rfl
  rotate_left
  · simp only [Act.put, List.setIfInBounds_toArray, List.set_cons_zero, List.set_cons_succ, i64_w, i32_w]
    rfl
  refine pure_ (i := 3) (N := some 7) (v := ?_) (a' := ?_) #[true, true, true, true, false, false, false, false, false, false, false] rfl rfl (by kernel_rfl) (fun _ _ _ h => h) (Or.inl ⟨by rfl, ?_⟩) ?_ ?_
  rotate_left
  · intro w'
    go_simp
    with_reducible rfl
  rotate_left
  · simp only [Act.put, List.setIfInBounds_toArray, List.set_cons_zero, List.set_cons_succ, i64_w, i32_w]
    rfl
  refine take_ (i := 4) (N := some 8) (v := ?_) (a' := ?_) #[true, true, true, true, true, false, false, false, false, false, false] rfl rfl (by kernel_rfl) (fun _ _ _ h => h) (Or.inl ⟨by rfl, ?_⟩) hHeld ?_ ?_
  rotate_left
  · rintro w' ⟨s0, s1, s2, s3, s4⟩
    go_simp
    with_reducible rfl
  rotate_left
  · simp only [Act.put, List.setIfInBounds_toArray, List.set_cons_zero, List.set_cons_succ, i64_w, i32_w]
    rfl
  refine take_ (i := 5) (N := some 9) (v := ?_) (a' := ?_) #[true, true, true, true, true, true, false, false, false, false, false] rfl rfl (by kernel_rfl) (fun _ _ _ h => h) (Or.inl ⟨by rfl, ?_⟩) hHeld ?_ ?_
  rotate_left
  · rintro w' ⟨s0, s1, s2, s3, s4⟩
    go_simp
    with_reducible rfl
  rotate_left
  · simp only [Act.put, List.setIfInBounds_toArray, List.set_cons_zero, List.set_cons_succ, i64_w, i32_w]
    rfl
  refine one_ (i := 6) (N := some 10) #[true, true, true, true, true, true, true, false, false, false, false] rfl rfl (by kernel_rfl) (by decide) (fun K hK => ?_)
  refine value_ (w1 := ?_) (v := ?_) (by rfl) rfl ?_ ?_
  rotate_left
  rotate_left
  · go_simp
    refine ⟨?_, ?_⟩ <;> rfl
  have M9 := Aside0.mk (M.out.alloc (.cells #[.string q.f0, .bool q.f1, .int .i64 q.x, .slice q.A q.ex.length q.c] 93))
  refine hK.out _ _ (five M9.out) (fun hHeld => ?_)
  clear hK K
  refine one_ (i := 7) (N := some 11) #[true, true, true, true, true, true, true, true, false, false, false] rfl rfl (by kernel_rfl) (by decide) (fun K hK => ?_)
  obtain ⟨i93, hi93, hz93, hs93, hb93⟩ := info_parts info93
  refine step_append_lies _ rfl _ _ _ rfl 0 93 i93 _ 4 56 Tryz.underlying35 hi93 hz93 hs93 hb93 rfl (by omega) (.slice m.hA m.hi.length m.hc) m.hi.length (cellsH m.hi) rfl (M9.out.pull 2 (by simp)).row
    ⟨w8.heap.size, 0, none⟩ 1 1 (encH q) rfl rfl (World.news_of_block (cs := #[.string q.f0, .bool q.f1, .int .i64 q.x, .slice q.A q.ex.length q.c]) (t := 93) (fr := (0, 0)) (heap_alloc_new w8 _)) (by simp [encH, Value.oneCell'])
    (by omega) (by unfold maxLen; omega) (by omega) (Nat.zero_le _) (w8.heap.size + 1) (by simp) ?_
  intro gg cap w10 hown hgrow hat hlt4
  have M10 := Aside0.mk (((M9.out.pull 2 (by simp)).appended hown hgrow (by
    rcases hat with h | h
    · exact .inl h.symm
    · right; rw [h]; simp [Value.ownBlock])))
  have M11 := Aside0.mk ((M10.out.pull 2 (by simp)).pull 2 (by simp))
  refine hK.out _ _ (five M11.out) (fun hHeld => ?_)
  clear hK K hown hgrow hat hlt4 M9 M10
  refine pure_ (i := 8) (N := some 12) (v := ?_) (a' := ?_) #[true, true, true, true, true, true, true, true, true, false, false] rfl rfl (by kernel_rfl) (fun _ _ _ h => h) (Or.inl ⟨by rfl, ?_⟩) ?_ ?_
  rotate_left
  · intro w'
    go_simp
    with_reducible rfl
  rotate_left
  · simp only [Act.put, List.setIfInBounds_toArray, List.set_cons_zero, List.set_cons_succ, i64_w, i32_w]
    rfl
  refine pure_ (i := 9) (N := some 13) (v := ?_) (a' := ?_) #[true, true, true, true, true, true, true, true, true, true, false] rfl rfl (by kernel_rfl) (fun _ _ _ h => h) (Or.inl ⟨by rfl, ?_⟩) ?_ ?_
  rotate_left
  · intro w'
    go_simp
    with_reducible rfl
  rotate_left
  · simp only [Act.put, List.setIfInBounds_toArray, List.set_cons_zero, List.set_cons_succ, i64_w, i32_w]
    rfl
  have b0 : w10.cell? ⟨m.sb, 0, none⟩ = some (.slice m.hA m.hi.length m.hc) := hHeld.1
  have g0 : w10.frozen? ⟨m.sb, 0, none⟩ = false := (box_cell (M11.out.pull 1 (by simp)) (j := 0) rfl).2
  refine last_ (i := 10) (N := none) #[true, true, true, true, true, true, true, true, true, true, true] rfl rfl (by kernel_rfl) (by decide) (fun K hK => ?_)
  refine skip_ (w1 := ?_) (by rfl) rfl ?_ ?_
  rotate_left
  · go_simp
    rfl
  refine hK.out _ _ ?_
  clear hK K
  refine done_ (by kernel_rfl) ?_
  -- end of region 1
  go_end0
  have h4 : Sep W (w10.setCell ⟨m.sb, 0, none⟩ (.slice (some ⟨gg, 0, none⟩) (m.hi.length + 1) cap)) (boxR m.sb 125 #[.slice (some ⟨gg, 0, none⟩) (m.hi.length + 1) cap, .slice m.pA m.ps.length m.pc] :: boxR w.heap.size 93 #[.string q.f0, .bool q.f1, .int .i64 q.x, .slice q.A q.ex.length q.c] :: rowR 93 4 (.slice (some ⟨gg, 0, none⟩) (m.hi.length + 1) cap) (m.hi.length + 1) (cellsH m.hi ++ encH q) :: rowR 3 1 (.slice q.A q.ex.length q.c) q.ex.length (q.ex.map num) :: boxR s 114 #[.func (.func 8) #[] #[], .slice (some ⟨m.sb, 0, none⟩) 1 1] :: exH m.hi :: rowR 50 2 (.slice m.pA m.ps.length m.pc) m.ps.length (pairCells (m.ps.map prP)) :: rs) := box_set (M11.out.pull 1 (by simp)) 0 (.slice (some ⟨gg, 0, none⟩) (m.hi.length + 1) cap)
  have h5 := h4.swap.tail
  have h6 := exH_more (q := q) ((h5.pull 4 (by simp)).pull 3 (by simp))
  have h7 := ((h6.pull 2 (by simp)).pull 2 (by simp)).pull 3 (by simp)
  refine ⟨rfl, some ⟨gg, 0, none⟩, cap, ?_⟩
  have hln : (m.hi ++ [q]).length = m.hi.length + 1 := by simp
  unfold FS.rs
  simp only
  rw [hln, cellsH_more]
  exact h7
end Go.Proofs.YtcfocbfocemapaaGreat.FrmF
