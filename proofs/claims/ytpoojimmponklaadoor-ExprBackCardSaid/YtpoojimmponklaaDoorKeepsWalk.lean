/- expr.Vars walked; the law's closure; untouched. -/
import Derived.Test.YtpoojimmponklaaDoorKeepsFuns
import Derived.Test.YtpoojimmponklaaDoorKeepsLib
import Derived.Lib.Hide
namespace Go.Proofs.YtpoojimmponklaaDoor.KeepsWalk
open Go.RowKit Go.Proofs.YtpoojimmponklaaDoor.PExprKeeps Go.Proofs.YtpoojimmponklaaDoorW.PrintWords Go.Proofs.YtpoojimmponklaaDoor.KeepsPure Go.Proofs.YtpoojimmponklaaDoor.KeepsFuns Go.Proofs.YtpoojimmponklaaDoor.KeepsLib
set_option linter.unusedVariables false

theorem contains_take {l : List Int} {n : Int} {k : Nat} (h : k < l.length) (ha : n ∉ l.take k) (hk : l[k] ≠ n) : n ∉ l.take (k + 1) := by
  rw [List.take_succ_eq_append_getElem h, List.mem_append, List.mem_singleton]
  rintro (g | g)
  · exact ha g
  · exact hk g.symm
theorem in_calls {w : World} (A : Option Addr) (c : Nat) (l : List Int) (hC : Kd.C (Kd.int .i64) w A l.length l) (hl : l.length ≤ 1048576) (n : Int) :
    Calls Tryd.prog 43 #[.slice A l.length c, .int .i64 n] w fun e w' => e = .returned (.bool (l.contains n)) ∧ Drawn0 w w' := by
  have HC := Aside0.mk hC
  clear hC
  go_enter Tryd.func43, Tryd.ntmps43
  go_wp2_with fail
  go_loopw [5] (fun v5 wr => ∃ k : Nat, k ≤ l.length ∧ v5 = .int .i64 k ∧ Hid (n ∉ l.take k) ∧ Aside0 (Drawn0 w wr)) (fun v5 _ => l.length - (intOf v5).toNat)
  case atStart => exact ⟨0, by omega, rfl, Lib.hid (by simp), ⟨Drawn0.refl _⟩⟩
  case round =>
    obtain ⟨k, hk, rfl, HA, HD⟩ := hrel
    obtain ⟨nq, hnq⟩ := HD.out
    subst hnq
    by_cases hlt : k < l.length
    · obtain ⟨ad, rfl, hx⟩ := Kd.at_int (Kd.C_drewN HC.out nq) (k : Int) (by omega) (by omega)
      rw [rd_of hlt, Int.toNat_natCast] at hx
      by_cases e1 : l[k] = n
      · have Hf := Lib.hid (show l.contains n = true by rw [← e1]; simp)
        have d1 : (l[k] == n) = true := by rw [e1]; simp
        clear e1
        generalize l[k] = a at hx d1
        go_wp2_with fail
        go_ret
        exact ⟨by rw [Hf.out]; rfl, Drawn0.step (Drawn0.refl _) _⟩
      · have Hf := Lib.hid (contains_take hlt HA.out e1)
        have d1 : (l[k] == n) = false := beq_eq_false_iff_ne.2 e1
        clear e1
        generalize l[k] = a at hx d1
        go_wp2_with fail
        go_roundw
        case rel => exact ⟨k + 1, by omega, by go_num, Hf, ⟨Drawn0.step (Drawn0.refl _) _⟩⟩
        case measure => simp [intOf]; omega
    · have hk' : k = l.length := by omega
      subst hk'
      have Hf := Lib.hid (show l.contains n = false by have := HA.out; rw [List.take_length] at this; simpa using this)
      go_wp2_with fail
      go_ret
      exact ⟨by rw [Hf.out]; rfl, Drawn0.step (Drawn0.refl _) _⟩

/-- The law's closure: is the number in the list? -/
abbrev which (b : Nat) : Value := .func (Fn.func 42) #[] #[.pointer (some ⟨b, 0, none⟩)]
def outK (V : Int → Bool) (e : List Int) (k : Nat) : List Int := (e.take k).foldl (KeepsPure.step V) []
theorem outK_succ (V : Int → Bool) (e : List Int) {k : Nat} (h : k < e.length) : outK V e (k + 1) = KeepsPure.step V (outK V e k) e[k] := by
  unfold outK
  rw [List.take_succ_eq_append_getElem h, List.foldl_append]
  rfl
theorem outK_picks (V : Int → Bool) (e : List Int) (k : Nat) (h : k ≤ e.length) : Picks V (e.take k) (outK V e k) := by
  induction k with
  | zero => exact picks_nil V
  | succ k ih =>
    rw [outK_succ V e (by omega), List.take_succ_eq_append_getElem (by omega)]
    exact picks_step (ih (by omega)) _
theorem outK_len (V : Int → Bool) (e : List Int) (k : Nat) (h : k ≤ e.length) : (outK V e k).length ≤ k := by
  have hp := outK_picks V e k h
  have := rising_len _ (e.take k) hp.rising (fun x hx => ((hp.mem x).1 hx).1)
  rw [List.length_take] at this
  omega
theorem search_calls {w : World} {base : Nat} {v : Value} {xs : List Int} (h : w.ownsRow base 3 1 v xs.length (xs.map num)) (hp : xs.Pairwise (· < ·)) (hl : xs.length ≤ 1048576) (x : Int) :
    Calls Tryd.prog 70 #[v, .int .i64 x] w fun e w' => e = .returned (.tuple #[.int .i64 (xs.countP (· < x) : Nat), .bool (xs.contains x)]) ∧ Drawn0 w w' := by
  rcases h.2 with ⟨rfl, h0⟩ | ⟨g, c, cur, rfl, hb, hgg, hn, hc, hsz, ht⟩
  · have hx0 : xs = [] := List.eq_nil_of_length_eq_zero h0
    subst hx0
    refine (Any.slices_BinarySearch_int_empty laysS none 0 x w).mono ?_
    rintro e w' ⟨rfl, rfl⟩
    exact ⟨rfl, Drawn0.refl _⟩
  · have hcell : ∀ j, j < xs.length → w.cell? ⟨g, 0 + j, none⟩ = some (.int .i64 (xs.getD j 0)) := by
      intro j hj
      have hcj : cur[j]? = (xs.map num)[j]? := by
        rw [← ht, List.getElem?_take, if_pos (by simpa using hj)]
        simp
      rw [List.getElem?_map, List.getElem?_eq_getElem hj] at hcj
      simp [World.cell?, hgg, hcj, hj]
    have hs : (xs.take xs.length).Pairwise (· ≤ ·) := by
      rw [List.take_length]
      exact hp.imp (fun h => by omega)
    refine (Any.slices_BinarySearch_int laysS g 0 xs.length c xs x w (Nat.le_refl _) (by omega) hcell hs).mono ?_
    rintro e w' ⟨rfl, q, rfl⟩
    rw [List.take_length]
    exact ⟨rfl, q, rfl⟩

theorem which_calls {w : World} (bx : Nat) (D : Option Addr) (fc : Nat) (set : List Int) (hbox : w.cell? ⟨bx, 0, none⟩ = some (.slice D set.length fc)) (hS : Kd.C (Kd.int .i64) w D set.length set) (hset : set.length ≤ 1048576) (n : Int) {b : Bool} (hb : set.contains n = b) :
    Calls Tryd.prog 42 #[.int .i64 n, .pointer (some ⟨bx, 0, none⟩)] w fun e w' => e = .returned (.bool b) ∧ Drawn0 w w' := by
  have hi := in_calls D fc set hS hset n
  rw [hb] at hi
  have H := Aside0.mk hi
  clear hS hb hi
  go_enter Tryd.func42, Tryd.ntmps42
  go_wp2_with fail
  refine H.out.mono ?_
  rintro e w' ⟨rfl, hd⟩
  have Hd := Aside0.mk hd
  clear hd H
  go_wp2_with fail
  go_ret
  exact ⟨rfl, Hd.out⟩
theorem cell_on {w w' : World} {a : Addr} {v : Value} (hb : Below w.heap.size w w') (h : w.cell? a = some v) : w'.cell? a = some v := (hb.cell (World.block_lt_of_cell? w _ h)).trans h

set_option maxHeartbeats 4000000 in
set_option maxRecDepth 100000 in
theorem vars_calls {w : World} (A : Option Addr) (c : Nat) (e : List Int) (hC : Kd.C (Kd.int .i64) w A e.length e) (he : e.length ≤ 1048576) (bx : Nat) (D : Option Addr) (fc : Nat) (set : List Int) (hbox : w.cell? ⟨bx, 0, none⟩ = some (.slice D set.length fc)) (hS : Kd.C (Kd.int .i64) w D set.length set) (hset : set.length ≤ 1048576) :
    Calls Tryd.prog 48 #[.slice A e.length c, which bx] w fun ed w' => ∃ v, ed = .returned v ∧ w'.ownsRow w.heap.size 3 1 v (outK set.contains e e.length).length ((outK set.contains e e.length).map num) ∧ Below w.heap.size w w' := by
  have HC := Aside0.mk hC
  have HS := Aside0.mk hS
  have HX := Aside0.mk hbox
  clear hC hS hbox
  go_enter Tryd.func48, Tryd.ntmps48
  go_wp2_with fail
  go_loopw [5, 12] (fun v5 v12 wr => ∃ k : Nat, k ≤ e.length ∧ v12 = .int .i64 k ∧ Aside0 (wr.ownsRow w.heap.size 3 1 v5 (outK set.contains e k).length ((outK set.contains e k).map num)) ∧ Aside0 (Below w.heap.size w wr)) (fun _ v12 _ => e.length - (intOf v12).toNat)
  case atStart => exact ⟨0, by omega, rfl, ⟨World.ownsRow_nil _ _ _ _⟩, ⟨Below.refl _ _⟩⟩
  case round =>
    obtain ⟨k, hk, rfl, HO, HB⟩ := hrel
    by_cases hlt : k < e.length
    · obtain ⟨ad, rfl, hx⟩ := Kd.at_int (Kd.C_below HC.out HB.out) (k : Int) (by omega) (by omega)
      rw [rd_of hlt, Int.toNat_natCast] at hx
      have hpk := outK_picks set.contains e k (by omega)
      have hlk := outK_len set.contains e k (by omega)
      have hsucc := outK_succ set.contains e hlt
      generalize e[k] = x at hx hsucc
      unfold KeepsPure.step at hsucc
      have Hrise := Aside0.mk hpk.rising
      clear hpk
      cases hcont : (outK set.contains e k).contains x with
      | true =>
        rw [if_pos hcont] at hsucc
        have Hsucc := Aside0.mk hsucc
        have Hcont := Aside0.mk hcont
        clear hsucc hcont
        go_wp2_with fail
        refine (search_calls HO.out Hrise.out (by omega) x).mono ?_
        rintro ed w2 ⟨rfl, nq, rfl⟩
        rw [Hcont.out]
        go_wp2_with fail
        go_roundw
        case rel => exact ⟨k + 1, by omega, by go_num, by rw [Hsucc.out]; exact ⟨HO.out⟩, ⟨pw_below_drewN HB.out nq⟩⟩
        case measure => simp [intOf]; omega
      | false =>
        rw [if_neg (by rw [hcont]; simp)] at hsucc
        have Hcont := Aside0.mk hcont
        clear hcont
        cases hv : set.contains x with
        | false =>
          rw [if_neg (by rw [hv]; simp)] at hsucc
          have Hsucc := Aside0.mk hsucc
          have Hv := Aside0.mk hv
          clear hsucc hv
          go_wp2_with fail
          refine (search_calls HO.out Hrise.out (by omega) x).mono ?_
          rintro ed w2 ⟨rfl, nq, rfl⟩
          rw [Hcont.out]
          go_wp2_with fail
          have HB2 := Aside0.mk (pw_below_drewN HB.out nq)
          refine (which_calls bx D fc set (cell_on HB2.out HX.out) (Kd.C_below HS.out HB2.out) hset x Hv.out).mono ?_
          rintro ed w3 ⟨rfl, nq3, rfl⟩
          go_wp2_with fail
          go_roundw
          case rel => exact ⟨k + 1, by omega, by go_num, by rw [Hsucc.out]; exact ⟨HO.out⟩, ⟨pw_below_drewN HB.out (nq + nq3)⟩⟩
          case measure => simp [intOf]; omega
        | true =>
          rw [if_pos hv] at hsucc
          have Hsucc := Aside0.mk hsucc
          have Hv := Aside0.mk hv
          have hcl : (outK set.contains e k).countP (· < x) ≤ (outK set.contains e k).length := List.countP_le_length
          clear hsucc hv
          go_wp2_with fail
          refine (search_calls HO.out Hrise.out (by omega) x).mono ?_
          rintro ed w2 ⟨rfl, nq, rfl⟩
          rw [Hcont.out]
          go_wp2_with fail
          have HB2 := Aside0.mk (pw_below_drewN HB.out nq)
          refine (which_calls bx D fc set (cell_on HB2.out HX.out) (Kd.C_below HS.out HB2.out) hset x Hv.out).mono ?_
          rintro ed w3 ⟨rfl, nq3, rfl⟩
          have HB3 := Aside0.mk (pw_below_drewN HB2.out nq3)
          obtain ⟨w3, hw3⟩ : ∃ w3, w3 = (wr.drewN nq).drewN nq3 := ⟨_, rfl⟩
          have HO3 := Aside0.mk (show w3.ownsRow w.heap.size 3 1 u5 (outK set.contains e k).length ((outK set.contains e k).map num) from by rw [hw3]; exact HO.out)
          rw [← hw3] at HB3 ⊢
          clear hw3 HB2 HO HB
          have hlt5 : ∀ b, u5.ownBlock = some b → b < w3.heap.size := fun b hb => (HO3.out.lt b hb).2
          go_wp2_with fail
          have hsz := HB3.out.size
          refine (insert_calls (HO3.out.alloc (.cells #[num x] 3)) (by simp; omega) (x := x) (vb := w3.heap.size) (heap_alloc_new w3 _) (fun e2 => by have := hlt5 _ e2; omega) (by omega) hcl).mono ?_
          rintro ed w4 ⟨v4, rfl, hown4, hgrow4⟩
          have HB4 := Aside0.mk ((HB3.out.alloc HB3.out.size (.cells #[num x] 3)).grown hgrow4 (by simp; omega) (fun b hb => (HO3.out.lt b hb).1))
          have HO4 := Aside0.mk hown4
          clear hown4 hgrow4 hlt5
          go_wp2_with fail
          go_roundw
          case rel =>
            refine ⟨k + 1, by omega, by go_num, ?_, HB4⟩
            rw [Hsucc.out]
            have hl := ins_length (outK set.contains e k) x
            rw [hl]
            exact ⟨HO4.out⟩
          case measure => simp [intOf]; omega
    · have hk' : k = e.length := by omega
      subst hk'
      go_wp2_with fail
      go_ret
      exact ⟨_, rfl, HO.out, HB.out⟩
end Go.Proofs.YtpoojimmponklaaDoor.KeepsWalk
