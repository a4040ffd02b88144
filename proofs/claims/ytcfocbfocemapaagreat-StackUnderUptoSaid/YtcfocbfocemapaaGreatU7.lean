/- DistB, DistC. -/
import Derived.Test.YtcfocbfocemapaaGreatU6
namespace Go.Proofs.YtcfocbfocemapaaGreat.DistB
open Go.RowKit Go.Maps Go.Proofs.YtcfocbfocemapaaGreat.Sep Go.Proofs.YtcfocbfocemapaaGreat.Mem Go.Proofs.YtcfocbfocemapaaGreat.Sets Go.Proofs.YtcfocbfocemapaaGreat.PlayP Go.Proofs.YtcfocbfocemapaaGreat.PStackPlays Go.Proofs.YtcfocbfocemapaaGreat.DistA Go.Proofs.YtcfocbfocemapaaGreat.IterA Go.Proofs.YtcfocbfocemapaaGreat.SortB
open Go.Proofs.YtcfocbfocemapaaGreatW.PrintWords
set_option linter.unusedVariables false
set_option linter.unusedSimpArgs false
set_option maxRecDepth 100000

def prP (p : S50) : PI := (p.f0, p.f1)
def putAll (f : PI → Bool) (l : List S50) : PI → Bool := l.foldl (fun f p => putS f (prP p)) f
theorem putAll_snoc (f : PI → Bool) (l : List S50) (p : S50) : putAll f (l ++ [p]) = putS (putAll f l) (prP p) := by unfold putAll; rw [List.foldl_append]; rfl
theorem putAll_take {f : PI → Bool} {l : List S50} {i : Nat} (h : i < l.length) : putAll f (l.take (i + 1)) = putS (putAll f (l.take i)) (prP l[i]) := by
  rw [List.take_succ_eq_append_getElem h, putAll_snoc]
theorem T50_at {w : World} {A : Option Addr} {n : Nat} {xs : List S50} (h : Kd.C k50 w A n xs) {i : Nat} (hi : i < xs.length) : ∃ ad, A = some ad ∧ w.cell? (ad.add (i * 2)) = some (.int .i64 xs[i].f0) ∧ w.cell? ⟨(ad.add (i * 2)).block, (ad.add (i * 2)).off + 1, none⟩ = some (.int .i64 xs[i].f1) := by
  have hn := h.1
  obtain ⟨ad, e, h0, h1⟩ := at_T50 h (i : Int) (by omega) (by omega)
  rw [rdP_of hi, Int.toNat_natCast] at h0 h1
  exact ⟨ad, e, h0, h1⟩
theorem keys99_calls (b : Nat) (w : World) : Calls Tryz.prog 99 #[.map (some b)] w fun e w' => e = .returned (.func (.func 118) #[] #[.pointer (some ⟨w.heap.size, 0, none⟩)]) ∧ w' = w.alloc (.cells #[.map (some b)] 145) := by
  go_enter Tryz.func99, Tryz.ntmps99
  go_wp2_with fail
  go_ret
  exact ⟨rfl, rfl⟩
set_option maxHeartbeats 4000000 in
/-- A set's list, as memory of one's own; the set stays. -/
theorem list_calls {W w : World} {rs : List Res} {b g : Nat} {f : PI → Bool} (hM : Sep W w (setR sP b g f :: rs)) (hg : g ≤ 4398046511104) :
    Calls Tryz.prog 87 #[.map (some b)] w fun e w' => ∃ (v : Value) (ss : List PI), e = .returned v ∧ ListOf f ss ∧ ss.length ≤ g ∧ Sep W w' (rowR 50 2 v ss.length (pairCells ss) :: setR sP b g f :: rs) := by
  have M1 := hM.alloc (Obj.cells #[.map (some b)] 145)
  have hc := sorted_calls (w := w.alloc (.cells #[.map (some b)] 145)) (Bm := w.heap.size) (by simp) (set_at M1) hg
  have M := Aside0.mk M1
  clear hM M1
  go_enter Tryz.func87, Tryz.ntmps87
  go_wp2_with fail
  refine (keys99_calls b w).mono ?_
  rintro e w1 ⟨rfl, rfl⟩
  go_wp2_with fail
  refine hc.mono ?_
  clear hc
  rintro e w2 ⟨v, ss, rfl, hL, hl, hr, hb⟩
  have hm := M.out.fresh (f := fun k => (w.alloc (.cells #[.map (some b)] 145)).heap.size ≤ k) (r := rowR 50 2 v ss.length (pairCells ss)) ⟨hb.os, hb.tape, hb.output, hb.size, fun k hk _ => hb.block k hk⟩ ⟨owns_zero hr, fun k hk => own_base hr k hk⟩ (fun _ hk => hk)
  have HL := Aside0.mk hL
  clear M hr hb hL
  have M := Aside0.mk hm
  clear hm
  go_wp2_with fail
  go_ret
  exact ⟨v, ss, rfl, HL.out, hl, M.out⟩
def unionF (xs ys : List S50) : PI → Bool := putAll (putAll (fun _ => false) xs) ys
set_option maxHeartbeats 8000000 in
theorem union_calls {W w : World} {rs : List Res} {A B : Option Addr} {ca cb : Nat} {xs ys : List S50} {C : World → Prop} (hM : Sep W w (readR W C :: rs)) (hA : ∀ w', C w' → Kd.C k50 w' A xs.length xs) (hB : ∀ w', C w' → Kd.C k50 w' B ys.length ys)
    (oA : ∀ p ∈ xs, PairOK (prP p)) (oB : ∀ p ∈ ys, PairOK (prP p)) (la : xs.length ≤ 4194304) (lb : ys.length ≤ 4194304) :
    Calls Tryz.prog 66 #[.slice A xs.length ca, .slice B ys.length cb] w fun e w' => ∃ (v : Value) (ss : List PI), e = .returned v ∧ ListOf (unionF xs ys) ss ∧ ss.length ≤ xs.length + ys.length ∧ Sep W w' (rowR 50 2 v ss.length (pairCells ss) :: readR W C :: rs) := by
  have M := Aside0.mk (set_fresh hM sP)
  have HA := Aside0.mk hA
  have HB := Aside0.mk hB
  have OA := Aside0.mk oA
  have OB := Aside0.mk oB
  clear hM hA hB oA oB
  have hmm := @run_makeMap Tryz.prog
  go_enter Tryz.func66, Tryz.ntmps66
  go_wp2_with fail
  go_loopw [7, 13] (fun v7 v13 wr => ∃ (i : Nat), i ≤ xs.length ∧ v13 = .int .i64 i ∧ Aside0 (Sep W wr (setR sP w.heap.size i (putAll (fun _ => false) (xs.take i)) :: readR W C :: rs))) (fun _ v13 _ => xs.length - (intOf v13).toNat)
  case atStart => exact ⟨0, by omega, rfl, M⟩
  case round =>
    clear M
    obtain ⟨i, hi, rfl, M⟩ := hrel
    by_cases hlt : i < xs.length
    · obtain ⟨ad, rfl, x0, x1⟩ := T50_at (HA.out _ (read_at (M.out.pull 1 (by simp)))) hlt
      have ho := OA.out xs[i] (List.getElem_mem hlt)
      have hs := Aside0.mk (putAll_take (f := fun _ => false) hlt)
      generalize xs[i] = p at *
      obtain ⟨p0, p1⟩ := p
      have hp1 := put_calls (M.out.alloc (Obj.cells #[Value.int IntKind.i64 p0, Value.int IntKind.i64 p1] 50)) (by unfold maxLen; omega) (p0, p1) ho
      clear M ho
      go_wp2_with fail
      refine hp1.mono ?_
      clear hp1 x0 x1
      rintro e w3 ⟨rfl, hm⟩
      have M := Aside0.mk hm
      clear hm
      go_wp2_with fail
      go_roundw
      case rel => exact ⟨i + 1, by omega, by go_num, ⟨by rw [hs.out]; exact M.out⟩⟩
      case measure => simp [intOf]; omega
    · have hie : i = xs.length := by omega
      subst hie
      rw [List.take_length] at M
      go_wp2_with fail
      go_loopw [9, 23] (fun v9 v23 wq => ∃ (j : Nat), j ≤ ys.length ∧ v23 = .int .i64 j ∧ Aside0 (Sep W wq (setR sP w.heap.size (xs.length + j) (putAll (putAll (fun _ => false) xs) (ys.take j)) :: readR W C :: rs))) (fun _ v23 _ => ys.length - (intOf v23).toNat)
      case atStart => exact ⟨0, by omega, rfl, M⟩
      case round =>
        clear M
        obtain ⟨j, hj, rfl, M⟩ := hrel
        by_cases hjt : j < ys.length
        · obtain ⟨ad, rfl, x0, x1⟩ := T50_at (HB.out _ (read_at (M.out.pull 1 (by simp)))) hjt
          have ho := OB.out ys[j] (List.getElem_mem hjt)
          have hs := Aside0.mk (putAll_take (f := putAll (fun _ => false) xs) hjt)
          generalize ys[j] = p at *
          obtain ⟨p0, p1⟩ := p
          have hp1 := put_calls (M.out.alloc (Obj.cells #[Value.int IntKind.i64 p0, Value.int IntKind.i64 p1] 50)) (by unfold maxLen; omega) (p0, p1) ho
          clear M ho
          go_wp2_with fail
          refine hp1.mono ?_
          clear hp1 x0 x1
          rintro e w3 ⟨rfl, hm⟩
          have M := Aside0.mk hm
          clear hm
          go_wp2_with fail
          go_roundw
          case rel => exact ⟨j + 1, by omega, by go_num, ⟨by rw [hs.out]; exact M.out⟩⟩
          case measure => simp [intOf]; omega
        · have hje : j = ys.length := by omega
          subst hje
          rw [List.take_length] at M
          go_wp2_with fail
          refine (list_calls M.out (by omega)).mono ?_
          clear M
          rintro e w4 ⟨v, ss, rfl, hL, hl, hm⟩
          have M := Aside0.mk hm
          have HL := Aside0.mk hL
          clear hm hL
          go_wp2_with fail
          go_ret
          exact ⟨v, ss, rfl, HL.out, hl, M.out.swap.tail⟩
end Go.Proofs.YtcfocbfocemapaaGreat.DistB

namespace Go.Proofs.YtcfocbfocemapaaGreat.DistC
open Go.RowKit Go.Maps Go.Proofs.YtcfocbfocemapaaGreat.Sep Go.Proofs.YtcfocbfocemapaaGreat.Mem Go.Proofs.YtcfocbfocemapaaGreat.Sets Go.Proofs.YtcfocbfocemapaaGreat.PlayP Go.Proofs.YtcfocbfocemapaaGreat.PStackPlays Go.Proofs.YtcfocbfocemapaaGreat.DistA Go.Proofs.YtcfocbfocemapaaGreat.IterA Go.Proofs.YtcfocbfocemapaaGreat.SortB Go.Proofs.YtcfocbfocemapaaGreat.DistB
open Go.Proofs.YtcfocbfocemapaaGreatW.PrintWords
set_option linter.unusedVariables false
set_option linter.unusedSimpArgs false
set_option maxRecDepth 100000

def amongF (l : List Int) : Int → Bool := fun x => decide (x ∈ l)
theorem among_take {l : List Int} {i : Nat} (h : i < l.length) : amongF (l.take (i + 1)) = upd (amongF (l.take i)) l[i] := by
  funext x
  have h2 : x ∈ l.take (i + 1) ↔ x = l[i] ∨ x ∈ l.take i := by rw [List.take_succ_eq_append_getElem h, List.mem_append, List.mem_singleton, or_comm]
  unfold amongF upd
  rw [← Bool.decide_or]
  exact decide_eq_decide.2 h2
def onlyF (am : Int → Bool) (l : List S50) : PI → Bool := l.foldl (fun f p => if am p.f0 && am p.f1 then putS f (prP p) else f) (fun _ => false)
theorem only_take {am : Int → Bool} {l : List S50} {i : Nat} (h : i < l.length) : onlyF am (l.take (i + 1)) = if am l[i].f0 && am l[i].f1 then putS (onlyF am (l.take i)) (prP l[i]) else onlyF am (l.take i) := by
  unfold onlyF
  rw [List.take_succ_eq_append_getElem h, List.foldl_append]
  rfl
theorem int_at {w : World} {A : Option Addr} {n : Nat} {xs : List Int} (h : Kd.C (Kd.int .i64) w A n xs) {i : Nat} (hi : i < xs.length) : ∃ ad, A = some ad ∧ w.cell? (ad.add i) = some (.int .i64 xs[i]) := Ci_at h (List.getElem?_eq_getElem hi)
theorem look_I {w : World} {b g : Nat} {f : Int → Bool} (h : SetIs sI w b g f) (x : Int) (hx : IntOK x) : (Instr.lookup 156 (.map (some b)) (.int .i64 x) true).run Tryz.prog w = .ok (.tuple #[.agg #[], .bool (f x)]) w := h.look (s := x) hx
set_option maxHeartbeats 8000000 in
theorem only_calls {W w : World} {rs : List Res} {A B : Option Addr} {ca cb : Nat} {l : List S50} {vs : List Int} {C : World → Prop} (hM : Sep W w (readR W C :: rs)) (hA : ∀ w', C w' → Kd.C k50 w' A l.length l) (hB : ∀ w', C w' → Kd.C (Kd.int .i64) w' B vs.length vs)
    (oA : ∀ p ∈ l, PairOK (prP p)) (oB : ∀ x ∈ vs, IntOK x) (la : l.length ≤ 4194304) (lb : vs.length ≤ 4194304) :
    Calls Tryz.prog 72 #[.slice A l.length ca, .slice B vs.length cb] w fun e w' => ∃ (v : Value) (ss : List PI), e = .returned v ∧ ListOf (onlyF (amongF vs) l) ss ∧ ss.length ≤ l.length ∧ Sep W w' (rowR 50 2 v ss.length (pairCells ss) :: readR W C :: rs) := by
  have M := Aside0.mk (set_fresh hM sI)
  have HA := Aside0.mk hA
  have HB := Aside0.mk hB
  have OA := Aside0.mk oA
  have OB := Aside0.mk oB
  clear hM hA hB oA oB
  have hmm := @run_makeMap Tryz.prog
  go_enter Tryz.func72, Tryz.ntmps72
  go_wp2_with fail
  go_loopw [7, 18] (fun v7 v18 wr => ∃ (i : Nat), i ≤ vs.length ∧ v18 = .int .i64 i ∧ Aside0 (Sep W wr (setR sI w.heap.size i (amongF (vs.take i)) :: readR W C :: rs))) (fun _ v18 _ => vs.length - (intOf v18).toNat)
  case atStart => exact ⟨0, by omega, rfl, M⟩
  case round =>
    clear M
    obtain ⟨i, hi, rfl, M⟩ := hrel
    by_cases hlt : i < vs.length
    · obtain ⟨ad, rfl, x0⟩ := int_at (HB.out _ (read_at (M.out.pull 1 (by simp)))) hlt
      have ho := OB.out vs[i] (List.getElem_mem hlt)
      have hs := Aside0.mk (among_take hlt)
      generalize vs[i] = x at *
      have HO := Aside0.mk ho
      clear ho
      go_wp2_with (at_mapUpdate; refine wp_put (m := sI) (s := x) rfl _ _ _ rfl rfl rfl rfl (set_at M.out) HO.out (by unfold maxLen; omega) ?_; intro w3 hm3 hg3; have hM3 := set_turn M.out hm3 hg3; clear M hm3 hg3 x0)
      go_roundw
      case rel => exact ⟨i + 1, by omega, by go_num, ⟨by rw [hs.out]; exact hM3⟩⟩
      case measure => simp [intOf]; omega
    · have hie : i = vs.length := by omega
      subst hie
      rw [List.take_length] at M
      have M2 := Aside0.mk (set_fresh M.out sP)
      clear M
      have M := M2
      clear M2
      go_wp2_with fail
      go_loopw [10, 11, 12, 13, 14, 29] (fun v10 v11 v12 v13 v14 v29 wq => ∃ (j : Nat), j ≤ l.length ∧ v29 = .int .i64 j ∧ Aside0 (Sep W wq (setR sP wr.heap.size j (onlyF (amongF vs) (l.take j)) :: setR sI w.heap.size vs.length (amongF vs) :: readR W C :: rs))) (fun _ _ _ _ _ v29 _ => l.length - (intOf v29).toNat)
      case atStart => exact ⟨0, by omega, rfl, M⟩
      case round =>
        clear M
        obtain ⟨j, hj, rfl, M⟩ := hrel
        by_cases hjt : j < l.length
        · obtain ⟨ad, rfl, x0, x1⟩ := T50_at (HA.out _ (read_at (M.out.pull 2 (by simp)))) hjt
          have ho := Aside0.mk (OA.out l[j] (List.getElem_mem hjt))
          have hs := Aside0.mk (only_take (am := amongF vs) hjt)
          generalize l[j] = p at *
          obtain ⟨p0, p1⟩ := p
          have M1 := Aside0.mk (M.out.alloc (Obj.cells #[Value.int IntKind.i64 p0, Value.int IntKind.i64 p1] 50))
          obtain ⟨b0, hb0⟩ : ∃ b0, b0 = amongF vs p0 := ⟨_, rfl⟩
          obtain ⟨b1, hb1⟩ : ∃ b1, b1 = amongF vs p1 := ⟨_, rfl⟩
          have hl0 := look_I (set_at (M1.out.pull 1 (by simp))) p0 ho.out.1
          have hl1 := look_I (set_at ((M1.out.alloc (.cells #[] 149)).pull 1 (by simp))) p1 ho.out.2
          rw [← hb0] at hl0
          rw [← hb1] at hl1
          have HB0 := Aside0.mk hb0
          have HB1 := Aside0.mk hb1
          clear M hb0 hb1
          have M := Aside0.mk ((M1.out.alloc (.cells #[] 149)).alloc (.cells #[] 149))
          clear M1
          by_cases hb : (b0 && b1) = true
          · obtain ⟨rfl, rfl⟩ : b0 = true ∧ b1 = true := by simpa using hb
            have hp := put_calls M.out (by unfold maxLen; omega) (p0, p1) ho.out
            rw [if_pos (by show (amongF vs p0 && amongF vs p1) = true; rw [← HB0.out, ← HB1.out]; rfl)] at hs
            clear M hb
            go_wp2_with fail
            refine hp.mono ?_
            clear hp
            rintro e w3 ⟨rfl, hm⟩
            have M := Aside0.mk hm
            clear hm
            go_wp2_with fail
            go_roundw
            case rel => exact ⟨j + 1, by omega, by go_num, ⟨by rw [hs.out]; exact M.out⟩⟩
            case measure => simp [intOf]; omega
          · have hs2 : onlyF (amongF vs) (l.take (j + 1)) = onlyF (amongF vs) (l.take j) := by
              rw [hs.out, if_neg]
              show ¬ (amongF vs p0 && amongF vs p1) = true
              rw [← HB0.out, ← HB1.out]
              exact hb
            have hs := Aside0.mk hs2
            clear hs2
            cases b0 with
            | false =>
              clear hb
              go_wp2_with fail
              go_roundw
              case rel => exact ⟨j + 1, by omega, by go_num, ⟨by rw [hs.out]; exact M.out.told fun F hF => ⟨hF.1.more (by omega), hF.2⟩⟩⟩
              case measure => simp [intOf]; omega
            | true =>
              obtain rfl : b1 = false := by simpa using hb
              clear hb
              go_wp2_with fail
              go_roundw
              case rel => exact ⟨j + 1, by omega, by go_num, ⟨by rw [hs.out]; exact M.out.told fun F hF => ⟨hF.1.more (by omega), hF.2⟩⟩⟩
              case measure => simp [intOf]; omega
        · have hje : j = l.length := by omega
          subst hje
          rw [List.take_length] at M
          go_wp2_with fail
          refine (list_calls M.out (by omega)).mono ?_
          clear M
          rintro e w4 ⟨v, ss, rfl, hL, hl, hm⟩
          have M := Aside0.mk hm
          have HL := Aside0.mk hL
          clear hm hL
          go_wp2_with fail
          go_ret
          exact ⟨v, ss, rfl, HL.out, hl, M.out.swap.tail.swap.tail⟩

/-! ### All -/
def rowP (vs : List Int) (i : Nat) : List S50 := (vs.take i).map fun w => ⟨vs.getD i 0, w⟩
def allL (vs : List Int) (i j : Nat) : List S50 := ((List.range i).flatMap fun k => rowP vs k) ++ (rowP vs i).take j
theorem allL_zero (vs : List Int) (i : Nat) : allL vs (i + 1) 0 = allL vs i i := by
  have h : (rowP vs i).take i = rowP vs i := List.take_of_length_le (by unfold rowP; rw [List.length_map, List.length_take]; omega)
  unfold allL
  rw [h, List.range_succ, List.flatMap_append, List.take_zero, List.append_nil]
  simp
theorem allL_more {vs : List Int} {i j : Nat} (hi : i < vs.length) (hj : j < i) : allL vs i (j + 1) = allL vs i j ++ [⟨vs[i], vs[j]⟩] := by
  have hl : j < (rowP vs i).length := by unfold rowP; rw [List.length_map, List.length_take]; omega
  unfold allL
  rw [List.take_succ_eq_append_getElem hl, List.append_assoc]
  congr 2
  unfold rowP
  simp [hi]
def allF (vs : List Int) : PI → Bool := putAll (fun _ => false) (allL vs vs.length 0)
def AllOut (W : World) (rs : List Res) (vs : List Int) (e : Ending) (w' : World) : Prop :=
  ∃ (v : Value) (ss : List PI) (c : Int), e = .returned (.tuple #[v, .int .i64 c]) ∧ ss.length ≤ 524288 ∧ (∀ x ∈ ss, PairOK x) ∧ (c = 0 → ListOf (allF vs) ss) ∧ Sep W w' (rowR 50 2 v ss.length (pairCells ss) :: rs)
set_option maxHeartbeats 8000000 in
theorem all_calls {W w : World} {rs : List Res} {A : Option Addr} {ca : Nat} {vs : List Int} {C : World → Prop} (hM : Sep W w (readR W C :: rs)) (hA : ∀ w', C w' → Kd.C (Kd.int .i64) w' A vs.length vs)
    (oA : ∀ x ∈ vs, IntOK x) (la : vs.length ≤ 4194304) (hca : vs.length ≤ ca) :
    Calls Tryz.prog 65 #[.slice A vs.length ca] w (AllOut W (readR W C :: rs) vs) := by
  by_cases hmany : 512 < vs.length
  · have M := Aside0.mk (row_nil hM 50 2)
    clear hM hA oA
    go_enter Tryz.func65, Tryz.ntmps65
    go_wp2_with fail
    go_ret2
    exact ⟨_, [], 22, rfl, by simp, by simp, (fun h => by omega), M.out⟩
  · have M := Aside0.mk (set_fresh hM sP)
    have HA := Aside0.mk hA
    have OA := Aside0.mk oA
    clear hM hA oA
    have hmm := @run_makeMap Tryz.prog
    go_enter Tryz.func65, Tryz.ntmps65
    go_wp2_with fail
    go_loopw [5, 6, 8, 15] (fun v5 v6 v8 v15 wr => ∃ (i : Nat), i ≤ vs.length ∧ v15 = .int .i64 i ∧ Aside0 (Sep W wr (setR sP w.heap.size (i * 512) (putAll (fun _ => false) (allL vs i 0)) :: readR W C :: rs))) (fun _ _ _ v15 _ => vs.length - (intOf v15).toNat)
    case atStart => exact ⟨0, by omega, rfl, M⟩
    case round =>
      clear M
      obtain ⟨i, hi, rfl, M⟩ := hrel
      by_cases hlt : i < vs.length
      · obtain ⟨ad, rfl, x0⟩ := int_at (HA.out _ (read_at (M.out.pull 1 (by simp)))) hlt
        have ho := Aside0.mk (OA.out vs[i] (List.getElem_mem hlt))
        obtain ⟨x, hx⟩ : ∃ x, x = vs[i] := ⟨_, rfl⟩
        rw [← hx] at x0 ho
        have HX := Aside0.mk hx
        clear hx
        go_wp2_with fail
        go_loopw [8, 24] (fun v8 v24 wq => ∃ (j : Nat), j ≤ i ∧ v24 = .int .i64 j ∧ Aside0 (Sep W wq (setR sP w.heap.size (i * 512 + j) (putAll (fun _ => false) (allL vs i j)) :: readR W C :: rs))) (fun _ v24 _ => i - (intOf v24).toNat)
        case atStart => exact ⟨0, by omega, rfl, M⟩
        case round =>
          clear M
          obtain ⟨j, hj, rfl, M⟩ := hrel
          by_cases hjt : j < i
          · obtain ⟨ad2, e2, y0⟩ := int_at (HA.out _ (read_at (M.out.pull 1 (by simp)))) (i := j) (by omega)
            cases e2
            have hoy := Aside0.mk (OA.out vs[j] (List.getElem_mem _))
            have hs := Aside0.mk (allL_more hlt hjt)
            rw [← HX.out] at hs
            generalize vs[j] = y at *
            by_cases hxy : x = y
            · subst hxy
              have M1 := Aside0.mk (row_nil M.out.tail 50 2)
              clear M
              go_wp2_with fail
              go_ret2
              exact ⟨_, [], 50, rfl, by simp, by simp, (fun h => by omega), M1.out⟩
            · have hp := put_calls M.out (by unfold maxLen; omega) (x, y) ⟨ho.out, hoy.out⟩
              clear M
              go_wp2_with fail
              refine hp.mono ?_
              clear hp
              rintro e w3 ⟨rfl, hm⟩
              have M := Aside0.mk hm
              clear hm
              go_wp2_with fail
              go_roundw
              case rel => exact ⟨j + 1, by omega, by go_num, ⟨by rw [hs.out, putAll_snoc]; exact M.out⟩⟩
              case measure => simp [intOf]; omega
          · have hje : j = i := by omega
            subst hje
            rw [← allL_zero] at M
            go_wp2_with fail
            go_roundw
            case rel => exact ⟨j + 1, by omega, by go_num, ⟨M.out.told fun F hF => ⟨hF.1.more (by omega), hF.2⟩⟩⟩
            case measure => simp [intOf]; omega
      · have hie : i = vs.length := by omega
        subst hie
        go_wp2_with fail
        refine (list_calls M.out (by omega)).mono ?_
        clear M
        rintro e w4 ⟨v, ss, rfl, hL, hl, hm⟩
        have M := Aside0.mk hm
        have HL := Aside0.mk hL
        clear hm hL
        go_wp2_with fail
        go_ret2
        exact ⟨v, ss, 0, rfl, by omega, HL.out.2.1, fun _ => HL.out, M.out.swap.tail⟩
end Go.Proofs.YtcfocbfocemapaaGreat.DistC
