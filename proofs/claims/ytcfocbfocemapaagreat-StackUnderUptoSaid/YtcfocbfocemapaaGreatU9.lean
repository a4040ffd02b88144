/- Brk, Asks, Breach. -/
import Derived.Test.YtcfocbfocemapaaGreatU8
namespace Go.Proofs.YtcfocbfocemapaaGreat.Brk
open Go.RowKit Go.Maps Go.Lib Go.Proofs.YtcfocbfocemapaaGreat.Sep Go.Proofs.YtcfocbfocemapaaGreat.Mem Go.Proofs.YtcfocbfocemapaaGreat.Sets Go.Proofs.YtcfocbfocemapaaGreat.PlayP Go.Proofs.YtcfocbfocemapaaGreat.PStackPlays Go.Proofs.YtcfocbfocemapaaGreat.DistA Go.Proofs.YtcfocbfocemapaaGreat.IterA Go.Proofs.YtcfocbfocemapaaGreat.IterB Go.Proofs.YtcfocbfocemapaaGreat.DistB Go.Proofs.YtcfocbfocemapaaGreat.DistC Go.Proofs.YtcfocbfocemapaaGreat.LibC Go.Proofs.YtcfocbfocemapaaGreat.SubA Go.Proofs.YtcfocbfocemapaaGreat.SubB
open Go.Proofs.YtcfocbfocemapaaGreatW.PrintWords
set_option linter.unusedVariables false
set_option linter.unusedSimpArgs false
set_option maxRecDepth 100000

/-- Which numbers are variables. -/
def VB (x : Int) : Bool := decide (100 ≤ x)
theorem vars_calls (x : Int) (w : World) : Calls Tryz.prog 8 #[.int .i64 x] w fun e w' => e = .returned (.bool (VB x)) ∧ Drawn0 w w' := lemmalaw11_vars.calls x _ w rfl
/-- The variables of an expression, each once, as they come. -/
def varsL (e : Ex) : List Int := e.foldl (fun out n => if n ∈ out then out else if VB n then out ++ [n] else out) []
theorem varsL_snoc (e : Ex) (n : Int) : varsL (e ++ [n]) = if n ∈ varsL e then varsL e else if VB n then varsL e ++ [n] else varsL e := by
  unfold varsL
  rw [List.foldl_append]
  rfl
theorem varsL_mem (e : Ex) (x : Int) : x ∈ varsL e ↔ x ∈ e ∧ VB x = true := by
  have key : ∀ (r : List Int), x ∈ varsL r.reverse ↔ x ∈ r.reverse ∧ VB x = true := by
    intro r
    induction r with
    | nil => simp [varsL]
    | cons n r ih =>
      rw [List.reverse_cons, varsL_snoc]
      by_cases h1 : n ∈ varsL r.reverse
      · rw [if_pos h1, ih, List.mem_append, List.mem_singleton]
        constructor
        · exact fun h => ⟨.inl h.1, h.2⟩
        · rintro ⟨h | rfl, h2⟩
          · exact ⟨h, h2⟩
          · exact ih.1 h1
      · rw [if_neg h1]
        by_cases h2 : VB n = true
        · rw [if_pos h2, List.mem_append, List.mem_append, ih, List.mem_singleton]
          constructor
          · rintro (h | rfl)
            · exact ⟨.inl h.1, h.2⟩
            · exact ⟨.inr rfl, h2⟩
          · rintro ⟨h | rfl, h3⟩
            · exact .inl ⟨h, h3⟩
            · exact .inr rfl
        · rw [if_neg h2, ih, List.mem_append, List.mem_singleton]
          constructor
          · exact fun h => ⟨.inl h.1, h.2⟩
          · rintro ⟨h | rfl, h3⟩
            · exact ⟨h, h3⟩
            · exact absurd h3 h2
  have := key e.reverse
  rwa [List.reverse_reverse] at this
theorem varsL_take {e : Ex} {i : Nat} (h : i < e.length) : varsL (e.take (i + 1)) = if amongF (e.take i) e[i] then varsL (e.take i) else if VB e[i] then varsL (e.take i) ++ [e[i]] else varsL (e.take i) := by
  rw [List.take_succ_eq_append_getElem h, varsL_snoc]
  unfold amongF
  by_cases h1 : e[i] ∈ e.take i
  · rw [if_pos (decide_eq_true h1)]
    by_cases h2 : VB e[i] = true
    · rw [if_pos ((varsL_mem _ _).2 ⟨h1, h2⟩)]
    · rw [if_neg (fun h => h2 ((varsL_mem _ _).1 h).2), if_neg h2]
  · have h2 : decide (e[i] ∈ e.take i) = false := decide_eq_false h1
    rw [if_neg (fun h => h1 ((varsL_mem _ _).1 h).1), h2]
    rfl
theorem varsL_len (e : Ex) : (varsL e).length ≤ e.length := by
  have key : ∀ (r : List Int), (varsL r.reverse).length ≤ r.length := by
    intro r
    induction r with
    | nil => simp [varsL]
    | cons n r ih =>
      rw [List.reverse_cons, varsL_snoc]
      split
      · simp; omega
      · split <;> simp <;> omega
  have := key e.reverse
  rw [List.reverse_reverse, List.length_reverse] at this
  exact this
set_option maxHeartbeats 8000000 in
theorem dof_calls {w : World} {A : Option Addr} {c : Nat} {env : List (Int × Ex)} (v : Int) (hC : Kd.C kB w A env.length env) (hs : Rising env) (hl : env.length ≤ 4611686018427387903) (hsh : ∀ b ∈ env, b.2.length ≤ 4194304) (hok : ∀ b ∈ env, ∀ x ∈ b.2, IntOK x) (hv : IntOK v) (E : Ex) (hE : E = subE env v) :
    Calls Tryz.prog 97 #[.int .i64 v, .agg #[.slice A env.length c], .func (.func 8) #[] #[]] w fun e w' => ∃ A' c', e = .returned (.slice A' (varsL E).length c') ∧ (varsL E).length ≤ c' ∧ Sep w w' [rowR 3 1 (.slice A' (varsL E).length c') (varsL E).length ((varsL E).map num)] := by
  have hof := Of_calls (c := c) ((Sep.start w).alloc (Obj.cells #[.slice A env.length c] 103)) v (Kd.C_below hC ((Below.refl w.heap.size w).alloc (Nat.le_refl _) (Obj.cells #[.slice A env.length c] 103))) hs hl (fun b hb => by have := hsh b hb; omega)
  have hel0 : (subE env v).length ≤ 4194304 := by
    unfold subE
    cases hf : find env v with
    | none => simp
    | some e => exact hsh _ (find_mem hf)
  have heo0 : ∀ x ∈ subE env v, IntOK x := by
    unfold subE
    cases hf : find env v with
    | none => intro x hx; simp at hx; subst hx; exact hv
    | some e => exact hok _ (find_mem hf)
  have hel : E.length ≤ 4194304 := by rw [hE]; exact hel0
  have heo : ∀ x ∈ E, IntOK x := by rw [hE]; exact heo0
  have HEO := Aside0.mk heo
  have HE := Aside0.mk hE
  have hmm := @run_makeMap Tryz.prog
  clear hC hs hl hsh hok heo hel0 heo0 hE
  go_enter Tryz.func97, Tryz.ntmps97
  go_wp2_with fail
  refine hof.mono ?_
  clear hof
  rintro e w1 ⟨L, A', c', hL, rfl, hc', _, hm⟩
  have HL := Aside0.mk hL
  have M := Aside0.mk hm
  obtain ⟨q, hq⟩ : ∃ q, q = (find env v).isSome := ⟨_, rfl⟩
  rw [← hq]
  have HQ := Aside0.mk hq
  clear hm hL hq
  go_upto_if 22 with fail
  go_cut [7] (fun v7 wx => ∃ (B : Option Addr) (d : Nat), v7 = .slice B E.length d ∧ E.length ≤ d ∧ Aside0 (Sep w wx [rowR 3 1 (.slice B E.length d) E.length (E.map num)]))
  case first =>
    have hL := HL.out
    have hE := HE.out
    have hq := HQ.out
    unfold subE at hE
    cases hf : find env v with
    | none =>
      rw [hf] at hL hE hq
      obtain rfl : L = [] := hL
      have hEv : E = [v] := hE
      have M2 := Aside0.mk (row_lits M.out.tail 3 1 1 #[.int .i64 v] rfl (by unfold maxLen; omega))
      have HEv := Aside0.mk hEv
      obtain rfl : q = false := hq
      clear hE hEv hf
      go_wp2_with fail
      go_meet
      rw [HEv.out]
      exact ⟨some ⟨w1.heap.size, 0, none⟩, 1, rfl, Nat.le_refl _, ⟨M2.out⟩⟩
    | some e0 =>
      rw [hf] at hL hE hq
      obtain rfl : L = e0 := hL
      obtain rfl : E = L := hE
      obtain rfl : q = true := hq
      clear hf
      go_wp2_with fail
      go_meet
      exact ⟨A', c', rfl, hc', M⟩
  case rest =>
    clear M hc'
    obtain ⟨B, d, rfl, hd, M⟩ := hcut
    have M2 := Aside0.mk (row_nil (set_fresh M.out sI) 3 1)
    clear M
    have M := M2
    clear M2
    go_wp2_with fail
    go_loopw [10, 12, 13, 14, 28] (fun v10 v12 v13 v14 v28 wr => ∃ (i : Nat) (A10 : Option Addr) (c10 : Nat), i ≤ E.length ∧ v28 = .int .i64 i ∧ v10 = .slice A10 (varsL (E.take i)).length c10 ∧ (varsL (E.take i)).length ≤ c10 ∧
      Aside0 (Sep w wr [rowR 3 1 (.slice A10 (varsL (E.take i)).length c10) (varsL (E.take i)).length ((varsL (E.take i)).map num), setR sI wc.heap.size i (amongF (E.take i)), rowR 3 1 (.slice B E.length d) E.length (E.map num)])) (fun _ _ _ _ v28 _ => E.length - (intOf v28).toNat)
    case atStart => exact ⟨0, none, 0, by omega, rfl, rfl, Nat.le_refl _, M⟩
    case round =>
      clear M
      obtain ⟨i, A10, c10, hi, rfl, rfl, hc10, M⟩ := hrel
      have hvl := varsL_len (E.take i)
      rw [List.length_take] at hvl
      by_cases hlt : i < E.length
      · obtain ⟨gb, cap, ev, _, hcell, _⟩ := row_some (M.out.pull 2 (by simp)).row (by omega)
        simp only [Value.slice.injEq, true_and] at ev
        obtain ⟨rfl, rfl⟩ := ev
        have x0 : wr.cell? ⟨gb, i, none⟩ = some (.int .i64 E[i]) := hcell i _ (by rw [List.getElem?_map, List.getElem?_eq_getElem hlt]; rfl)
        have ho := Aside0.mk (HEO.out E[i] (List.getElem_mem hlt))
        have hv2 := Aside0.mk (varsL_take hlt)
        have ha := Aside0.mk (among_take hlt)
        clear hcell
        generalize E[i] = y at x0 ho hv2 ha
        obtain ⟨q1, hq1⟩ : ∃ q1, q1 = amongF (E.take i) y := ⟨_, rfl⟩
        have hl0 := look_I (set_at (M.out.pull 1 (by simp))) y ho.out
        rw [← hq1] at hl0 hv2
        have HV := vars_calls y
        obtain ⟨q2, hq2⟩ : ∃ q2, q2 = VB y := ⟨_, rfl⟩
        rw [← hq2] at HV hv2
        clear hq1 hq2
        generalize hVe : varsL (E.take i) = V0 at *
        have HVE := Aside0.mk hVe
        clear hVe
        have MA := Aside0.mk (M.out.alloc (.cells #[] 149))
        clear M
        have M := MA
        clear MA
        cases q1 with
        | true =>
          rw [if_pos rfl] at hv2
          clear HV
          go_wp2_with (at_mapUpdate; refine wp_put (m := sI) (s := y) rfl _ _ _ rfl rfl rfl rfl (set_at (M.out.pull 1 (by simp))) ho.out (by unfold maxLen; omega) ?_; intro w3 hm3 hg3; have hM3 := at_ M.out 1 (by simp) (fun rs h => set_turn h hm3 hg3); clear M hm3 hg3)
          go_roundw
          case rel => exact ⟨i + 1, A10, c10, by omega, by go_num, by rw [hv2.out], by rw [hv2.out]; exact hc10, ⟨by rw [hv2.out, ha.out]; exact hM3⟩⟩
          case measure => simp [intOf]; omega
        | false =>
          rw [if_neg (by simp)] at hv2
          cases q2 with
          | false =>
            rw [if_neg (by simp)] at hv2
            go_wp2_with fail
            refine (HV _).mono ?_
            clear HV hl0 x0
            rintro e w5 ⟨rfl, hdr⟩
            have hm := M.out.drawn hdr
            clear M hdr
            have M := Aside0.mk hm
            clear hm
            go_wp2_with (at_mapUpdate; refine wp_put (m := sI) (s := y) rfl _ _ _ rfl rfl rfl rfl (set_at (M.out.pull 1 (by simp))) ho.out (by unfold maxLen; omega) ?_; intro w3 hm3 hg3; have hM3 := at_ M.out 1 (by simp) (fun rs h => set_turn h hm3 hg3); clear M hm3 hg3)
            go_roundw
            case rel => exact ⟨i + 1, A10, c10, by omega, by go_num, by rw [hv2.out], by rw [hv2.out]; exact hc10, ⟨by rw [hv2.out, ha.out]; exact hM3⟩⟩
            case measure => simp [intOf]; omega
          | true =>
            rw [if_pos rfl] at hv2
            go_wp2_with fail
            refine (HV _).mono ?_
            clear HV hl0 x0
            rintro e w5 ⟨rfl, hdr⟩
            have hm := M.out.drawn hdr
            clear M hdr
            have M := Aside0.mk hm
            clear hm
            go_wp2_with (first
              | (at_builtin; refine wp_one (M.out.alloc (.cells #[.int .i64 y] 3)) rfl _ _ 24 rfl Tryz.underlying24 info3 rfl rfl rfl (new_cell _ _ _) rfl (by omega) (by omega) ?_; intro A8 c8 w4 hc8 hm4; clear M; have M := Aside0.mk hm4; clear hm4)
              | (at_mapUpdate; refine wp_put (m := sI) (s := y) rfl _ _ _ rfl rfl rfl rfl (set_at (M.out.pull 1 (by simp))) ho.out (by unfold maxLen; omega) ?_; intro w3 hm3 hg3; have hM3 := at_ M.out 1 (by simp) (fun rs h => set_turn h hm3 hg3); clear M hm3 hg3))
            go_roundw
            case rel => exact ⟨i + 1, A8, c8, by omega, by go_num, by rw [hv2.out, List.length_append, List.length_singleton], by rw [hv2.out, List.length_append, List.length_singleton]; exact hc8, ⟨by rw [hv2.out, ha.out, List.length_append, List.length_singleton, List.map_append]; exact hM3⟩⟩
            case measure => simp [intOf]; omega
      · have hie : i = E.length := by omega
        subst hie
        rw [List.take_length] at M hc10 hvl ⊢
        go_wp2_with fail
        go_ret
        exact ⟨A10, c10, rfl, hc10, M.out.swap.tail.swap.tail⟩
end Go.Proofs.YtcfocbfocemapaaGreat.Brk

namespace Go.Proofs.YtcfocbfocemapaaGreat.Asks
open Go.RowKit Go.Maps Go.Lib Go.Proofs.YtcfocbfocemapaaGreat.Sep Go.Proofs.YtcfocbfocemapaaGreat.Mem Go.Proofs.YtcfocbfocemapaaGreat.Sets Go.Proofs.YtcfocbfocemapaaGreat.PlayP Go.Proofs.YtcfocbfocemapaaGreat.PStackPlays Go.Proofs.YtcfocbfocemapaaGreat.DistA Go.Proofs.YtcfocbfocemapaaGreat.IterA Go.Proofs.YtcfocbfocemapaaGreat.IterB Go.Proofs.YtcfocbfocemapaaGreat.DistB Go.Proofs.YtcfocbfocemapaaGreat.DistC Go.Proofs.YtcfocbfocemapaaGreat.LibC Go.Proofs.YtcfocbfocemapaaGreat.SubA Go.Proofs.YtcfocbfocemapaaGreat.SubB Go.Proofs.YtcfocbfocemapaaGreat.Brk
open Go.Proofs.YtcfocbfocemapaaGreatW.PrintWords
set_option linter.unusedVariables false
set_option linter.unusedSimpArgs false
set_option maxRecDepth 100000

/-- Has the one list a number of the other? -/
def meetB (L R : List Int) : Bool := L.any fun v => decide (v ∈ R)
def cross (L R : List Int) : List PI := L.flatMap fun v => R.map fun w => (v, w)
theorem cross_take {L R : List Int} {i : Nat} (h : i < L.length) : cross (L.take (i + 1)) R = cross (L.take i) R ++ R.map fun w => (L[i], w) := by
  unfold cross
  rw [List.take_succ_eq_append_getElem h, List.flatMap_append]
  simp
theorem cross_len (L R : List Int) : (cross L R).length = L.length * R.length := by
  unfold cross
  induction L with
  | nil => simp
  | cons a L ih => rw [List.flatMap_cons, List.length_append, ih, List.length_map, List.length_cons, Nat.add_mul]; omega
theorem int_row {W w : World} {rs : List Res} {A : Option Addr} {n c : Nat} {xs : List Int} (h : Sep W w (rowR 3 1 (.slice A n c) n (xs.map num) :: rs)) {i : Nat} (hi : i < xs.length) (hn : xs.length = n) : ∃ b, A = some ⟨b, 0, none⟩ ∧ w.cell? ⟨b, i, none⟩ = some (.int .i64 xs[i]) := by
  obtain ⟨b, cap, e, _, hc, _⟩ := row_some h.row (by omega)
  simp only [Value.slice.injEq, true_and] at e
  exact ⟨b, e.1, hc i _ (by rw [List.getElem?_map, List.getElem?_eq_getElem hi]; rfl)⟩
def AsksOut (w : World) (L R : List Int) (e : Ending) (w' : World) : Prop :=
  if meetB L R then e = .returned (.tuple #[.slice none 0 0, .bool false]) ∧ Below w.heap.size w w'
  else ∃ A' c', e = .returned (.tuple #[.slice A' (cross L R).length c', .bool true]) ∧ (cross L R).length ≤ c' ∧ (cross L R).length ≤ 1099511627776 ∧ Sep w w' [rowR 50 2 (.slice A' (cross L R).length c') (cross L R).length (pairCells (cross L R))]
set_option maxHeartbeats 8000000 in
theorem asks_calls {w : World} {A : Option Addr} {c : Nat} {env : List (Int × Ex)} (p0 p1 : Int) (hC : Kd.C kB w A env.length env) (hs : Rising env) (hl : env.length ≤ 4611686018427387903) (hsh : ∀ b ∈ env, b.2.length ≤ 1048576) (hok : ∀ b ∈ env, ∀ x ∈ b.2, IntOK x) (h0 : IntOK p0) (h1 : IntOK p1)
    (L R : List Int) (hL : L = varsL (subE env p0)) (hR : R = varsL (subE env p1)) :
    Calls Tryz.prog 83 #[.agg #[.int .i64 p0, .int .i64 p1], .agg #[.slice A env.length c], .func (.func 8) #[] #[]] w (AsksOut w L R) := by
  have hlen : ∀ p, (varsL (subE env p)).length ≤ 1048576 := fun p => by
    refine Nat.le_trans (varsL_len _) ?_
    unfold subE
    cases hf : find env p with
    | none => simp
    | some e => exact hsh _ (find_mem hf)
  have hLl : L.length ≤ 1048576 := by rw [hL]; exact hlen _
  have hRl : R.length ≤ 1048576 := by rw [hR]; exact hlen _
  have hsh2 : ∀ b ∈ env, b.2.length ≤ 4194304 := fun b hb => by have := hsh b hb; omega
  have M0 := box_fresh (box_fresh (Sep.start w) 50 #[.int .i64 p0, .int .i64 p1]) 103 #[.slice A env.length c]
  have hd1 := dof_calls (c := c) p1 (Kd.C_below hC M0.1) hs hl hsh2 hok h1 _ rfl
  rw [← hR] at hd1
  have HC := Aside0.mk hC
  have HD := Aside0.mk (fun w' (hb : Below w.heap.size w w') => dof_calls (c := c) p0 (Kd.C_below hC hb) hs hl hsh2 hok h0 _ rfl)
  rw [← hL] at HD
  have M := Aside0.mk M0
  clear hC hs hsh hsh2 hok hlen M0 hL hR
  go_enter Tryz.func83, Tryz.ntmps83
  go_wp2_with fail
  refine hd1.mono ?_
  clear hd1
  rintro e w1 ⟨A1, c1, rfl, hc1, hm1⟩
  have M1 := sep_over M.out hm1
  have q0 := (box_cell (M1.pull 2 (by simp)) (j := 0) rfl).1
  have q1 := (box_cell (M1.pull 1 (by simp)) (j := 0) rfl).1
  have hd0 := HD.out w1 M1.1
  clear M hm1 HD
  have M := Aside0.mk M1
  clear M1
  simp only [World.size_alloc] at q1
  go_wp2_with fail
  refine hd0.mono ?_
  clear hd0 q0 q1
  rintro e w2 ⟨A2, c2, rfl, hc2, hm2⟩
  have M1 := Aside0.mk (row_nil (sep_over M.out hm2) 50 2)
  clear M hm2
  have M := M1
  clear M1
  go_wp2_with fail
  go_loopw [8, 11, 13, 25] (fun v8 v11 v13 v25 wr => ∃ (i n : Nat) (A8 : Option Addr) (c8 : Nat), i ≤ L.length ∧ v25 = .int .i64 i ∧ v8 = .slice A8 n c8 ∧ n ≤ c8 ∧ n = i * R.length ∧ Aside0 (∀ x ∈ L.take i, x ∉ R) ∧
    Aside0 (Sep w wr [rowR 50 2 (.slice A8 n c8) n (pairCells (cross (L.take i) R)), rowR 3 1 (.slice A2 L.length c2) L.length (L.map num), rowR 3 1 (.slice A1 R.length c1) R.length (R.map num)])) (fun _ _ _ v25 _ => L.length - (intOf v25).toNat)
  case atStart => exact ⟨0, 0, none, 0, by omega, rfl, rfl, by omega, by omega, ⟨by simp⟩, ⟨(((M.out.pull 4 (by simp)).tail.pull 3 (by simp)).tail)⟩⟩
  case round =>
    clear M
    obtain ⟨i, n, A8, c8, hi, rfl, rfl, hc8, hn, hne, M⟩ := hrel
    by_cases hlt : i < L.length
    · obtain ⟨b2, rfl, x0⟩ := int_row (M.out.pull 1 (by simp)) hlt rfl
      obtain ⟨x, hx⟩ : ∃ x, x = L[i] := ⟨_, rfl⟩
      rw [← hx] at x0
      have HX := Aside0.mk hx
      clear hx
      go_wp2_with fail
      go_loopw [8, 13, 31] (fun v8 v13 v31 wq => ∃ (j m : Nat) (A9 : Option Addr) (c9 : Nat), j ≤ R.length ∧ v31 = .int .i64 j ∧ v8 = .slice A9 m c9 ∧ m ≤ c9 ∧ m = i * R.length + j ∧ Aside0 (x ∉ R.take j) ∧
        Aside0 (Sep w wq [rowR 50 2 (.slice A9 m c9) m (pairCells (cross (L.take i) R ++ (R.take j).map fun y => (x, y))), rowR 3 1 (.slice (some ⟨b2, 0, none⟩) L.length c2) L.length (L.map num), rowR 3 1 (.slice A1 R.length c1) R.length (R.map num)])) (fun _ _ v31 _ => R.length - (intOf v31).toNat)
      case atStart => exact ⟨0, n, A8, c8, by omega, rfl, rfl, hc8, by omega, ⟨by simp⟩, ⟨by simpa using M.out⟩⟩
      case round =>
        clear M x0
        obtain ⟨j, m, A9, c9, hj, rfl, rfl, hc9, hm, hnx, M⟩ := hrel
        by_cases hjt : j < R.length
        · obtain ⟨b1, rfl, y0⟩ := int_row (M.out.pull 2 (by simp)) hjt rfl
          obtain ⟨y, hy⟩ : ∃ y, y = R[j] := ⟨_, rfl⟩
          rw [← hy] at y0
          have HY := Aside0.mk hy
          clear hy
          by_cases hxy : x = y
          · have hmeet : meetB L R = true := by
              unfold meetB
              rw [List.any_eq_true]
              exact ⟨x, by rw [HX.out]; exact List.getElem_mem hlt, decide_eq_true (by rw [hxy, HY.out]; exact List.getElem_mem hjt)⟩
            have HM := Aside0.mk hmeet
            subst hxy
            clear hmeet
            go_wp2_with fail
            go_ret2
            unfold AsksOut
            rw [if_pos HM.out]
            exact ⟨rfl, M.out.1⟩
          · have hmb : m < 1099511627776 := by
              have h1 : i * R.length + R.length ≤ L.length * R.length := by
                have := Nat.mul_le_mul_right R.length (show i + 1 ≤ L.length by omega)
                rw [Nat.add_mul] at this
                omega
              have h2 : L.length * R.length ≤ 1048576 * 1048576 := Nat.mul_le_mul hLl hRl
              omega
            have HM := Aside0.mk hm
            clear hm
            go_wp2_with (at_builtin; refine wp_cells (M.out.alloc (.cells #[.int .i64 x, .int .i64 y] 50)) rfl _ _ 23 rfl Tryz.underlying23 IterB.info50 rfl (by omega) rfl (A := some ⟨wr.heap.size, 0, none⟩) (m := 1) (news := [.int .i64 x, .int .i64 y]) rfl rfl (fun h => by cases h) (fun ad e j u hu => by cases e; exact cells_pair_new _ _ _ _ j u hu) (fun u hu => by simp at hu; rcases hu with rfl | rfl <;> rfl) (by omega) (by omega) ?_; intro A10 c10 w10 hc10 hm10; clear M y0; have M := Aside0.mk hm10; clear hm10)
            have hcells : pairCells (cross (L.take i) R ++ (R.take (j + 1)).map fun y => (x, y)) = pairCells (cross (L.take i) R ++ (R.take j).map fun y => (x, y)) ++ [.int .i64 x, .int .i64 y] := by
              rw [List.take_succ_eq_append_getElem hjt, ← HY.out, List.map_append, ← List.append_assoc]
              exact pairCells_more _ (x, y)
            have hnx2 : x ∉ R.take (j + 1) := by
              rw [List.take_succ_eq_append_getElem hjt, ← HY.out, List.mem_append, List.mem_singleton]
              rintro (h | h)
              · exact hnx.out h
              · exact hxy h
            go_roundw
            case rel => exact ⟨j + 1, m + 1, A10, c10, by omega, by go_num, rfl, hc10, by have := HM.out; omega, ⟨hnx2⟩, ⟨by rw [hcells]; exact M.out⟩⟩
            case measure => simp [intOf]; omega
        · have hje : j = R.length := by omega
          subst hje
          have hnx2 := hnx.out
          rw [List.take_length] at hnx2
          have hne2 : ∀ z ∈ L.take (i + 1), z ∉ R := by
            intro z hz
            rw [List.take_succ_eq_append_getElem hlt, ← HX.out, List.mem_append, List.mem_singleton] at hz
            rcases hz with hz | rfl
            · exact hne.out z hz
            · exact hnx2
          have hcr : cross (L.take i) R ++ (R.take R.length).map (fun y => (x, y)) = cross (L.take (i + 1)) R := by
            rw [List.take_length, cross_take hlt, ← HX.out]
          rw [hcr] at M
          have HNE := Aside0.mk hne2
          have hm2 : m = (i + 1) * R.length := by rw [Nat.add_mul]; omega
          have HM := Aside0.mk hm2
          clear hne2 hcr hm hm2 hnx2
          go_wp2_with fail
          go_roundw
          case rel => exact ⟨i + 1, m, A9, c9, by omega, by go_num, rfl, hc9, HM.out, HNE, M⟩
          case measure => simp [intOf]; omega
    · have hie : i = L.length := by omega
      subst hie
      rw [List.take_length] at M hne
      have hmeet : meetB L R = false := by
        unfold meetB
        rw [List.any_eq_false]
        intro z hz
        simpa using hne.out z hz
      have hn2 : n = (cross L R).length := by rw [cross_len]; exact hn
      subst hn2
      have HM := Aside0.mk hmeet
      clear hmeet hn
      go_wp2_with fail
      go_ret2
      unfold AsksOut
      rw [HM.out]
      exact ⟨A8, c8, rfl, hc8, by rw [cross_len]; exact Nat.mul_le_mul hLl hRl, M.out.swap.tail.swap.tail⟩
end Go.Proofs.YtcfocbfocemapaaGreat.Asks

namespace Go.Proofs.YtcfocbfocemapaaGreat.Breach
open Go.RowKit Go.Maps Go.Lib Go.Proofs.YtcfocbfocemapaaGreat.Sep Go.Proofs.YtcfocbfocemapaaGreat.Mem Go.Proofs.YtcfocbfocemapaaGreat.Sets Go.Proofs.YtcfocbfocemapaaGreat.PlayP Go.Proofs.YtcfocbfocemapaaGreat.PStackPlays Go.Proofs.YtcfocbfocemapaaGreat.DistA Go.Proofs.YtcfocbfocemapaaGreat.IterA Go.Proofs.YtcfocbfocemapaaGreat.IterB Go.Proofs.YtcfocbfocemapaaGreat.DistB Go.Proofs.YtcfocbfocemapaaGreat.DistC Go.Proofs.YtcfocbfocemapaaGreat.LibC Go.Proofs.YtcfocbfocemapaaGreat.SubA Go.Proofs.YtcfocbfocemapaaGreat.SubB Go.Proofs.YtcfocbfocemapaaGreat.Brk Go.Proofs.YtcfocbfocemapaaGreat.Asks
open Go.Proofs.YtcfocbfocemapaaGreatW.PrintWords
set_option linter.unusedVariables false
set_option linter.unusedSimpArgs false
set_option maxRecDepth 100000

/-! ### plain -/
theorem turn_eq {p q : PI} (hp : p.1 ≠ p.2) (hq : q.1 ≠ q.2) : turnP p = turnP q ↔ (p.1 = q.1 ∧ p.2 = q.2 ∨ p.1 = q.2 ∧ p.2 = q.1) := by
  obtain ⟨a, b⟩ := p
  obtain ⟨c, d⟩ := q
  unfold turnP
  simp only at hp hq ⊢
  split <;> split <;> simp only [Prod.mk.injEq] <;> omega
theorem put_has (f : PI → Bool) (p q : PI) (hq : q.1 ≠ q.2) : putS f p (turnP q) = (decide (p.1 = q.1 ∧ p.2 = q.2 ∨ p.1 = q.2 ∧ p.2 = q.1) || f (turnP q)) := by
  unfold putS
  by_cases hp : p.1 = p.2
  · rw [if_pos hp, decide_eq_false (by omega), Bool.false_or]
  · rw [if_neg hp]
    unfold upd
    congr 1
    refine decide_eq_decide.2 ?_
    rw [eq_comm, turn_eq hp hq]
theorem putAll_has (l : List S50) (f : PI → Bool) (q : PI) (hq : q.1 ≠ q.2) : putAll f l (turnP q) = (hadB l q.1 q.2 || f (turnP q)) := by
  induction l generalizing f with
  | nil => simp [putAll, hadB]
  | cons p l ih =>
    have e1 : putAll f (p :: l) = putAll (putS f (prP p)) l := rfl
    have e2 : hadB (p :: l) q.1 q.2 = ((p.f0 == q.1 && p.f1 == q.2 || p.f0 == q.2 && p.f1 == q.1) || hadB l q.1 q.2) := rfl
    rw [e1, ih, put_has _ _ _ hq, e2, ← Bool.or_assoc]
    congr 1
    rw [Bool.or_comm]
    congr 1
    unfold prP
    simp only
    rw [Bool.eq_iff_iff]
    simp only [decide_eq_true_eq, Bool.or_eq_true, Bool.and_eq_true, beq_iff_eq]
/-- A pair is whole: its strings share no variable, and each pair of variables is had. -/
def wholeB (have_ : List S50) (L R : List Int) : Bool := !meetB L R && (cross L R).all fun q => hadB have_ q.1 q.2
theorem whole_iff (hv : List S50) (s t : Ex) : wholeB hv (varsL s) (varsL t) = apartB VB hv s t := by
  rw [Bool.eq_iff_iff]
  unfold wholeB apartB meetB cross
  simp only [Bool.and_eq_true, Bool.not_eq_true', List.any_eq_false, decide_eq_true_eq, List.all_eq_true, List.mem_flatMap, List.mem_map, Bool.or_eq_true, Bool.and_eq_false_iff, bne_iff_ne, ne_eq]
  constructor
  · rintro ⟨h1, h2⟩ a ha b hb
    by_cases ua : VB a = true
    · by_cases ub : VB b = true
      · have ma := (varsL_mem s a).2 ⟨ha, ua⟩
        have mb := (varsL_mem t b).2 ⟨hb, ub⟩
        right
        refine ⟨fun e => h1 a ma (e ▸ mb), h2 (a, b) ⟨a, ma, b, mb, rfl⟩⟩
      · left; right; simpa using ub
    · left; left; simpa using ua
  · intro h
    constructor
    · intro a ma mb
      obtain ⟨ha, ua⟩ := (varsL_mem s a).1 ma
      obtain ⟨hb, _⟩ := (varsL_mem t a).1 mb
      rcases h a ha a hb with (h1 | h1) | h1
      · rw [ua] at h1; cases h1
      · rw [ua] at h1; cases h1
      · exact h1.1 rfl
    · rintro _ ⟨a, ma, b, mb, rfl⟩
      obtain ⟨ha, ua⟩ := (varsL_mem s a).1 ma
      obtain ⟨hb, ub⟩ := (varsL_mem t b).1 mb
      rcases h a ha b hb with (h1 | h1) | h1
      · rw [ua] at h1; cases h1
      · rw [ub] at h1; cases h1
      · exact h1.2

theorem broken_take {hv : List S50} {env : List (Int × Ex)} {ps : List S50} {i : Nat} (h : i < ps.length) : brokenB VB hv env (ps.take (i + 1)) = (brokenB VB hv env (ps.take i) || !wholeB hv (varsL (subE env ps[i].f0)) (varsL (subE env ps[i].f1))) := by
  unfold brokenB
  rw [List.take_succ_eq_append_getElem h, List.any_append, whole_iff]
  simp
theorem broken_of {hv : List S50} {env : List (Int × Ex)} {ps : List S50} {i : Nat} (h : i < ps.length) (hw : wholeB hv (varsL (subE env ps[i].f0)) (varsL (subE env ps[i].f1)) = false) : brokenB VB hv env ps = true := by
  unfold brokenB
  rw [List.any_eq_true]
  refine ⟨ps[i], List.getElem_mem h, ?_⟩
  rw [← whole_iff, hw]
  rfl
theorem look_P {w : World} {b g : Nat} {f : PI → Bool} (h : SetIs sP w b g f) (x : PI) (hx : PairOK x) : (Instr.lookup 145 (.map (some b)) (.agg #[.int .i64 x.1, .int .i64 x.2]) true).run Tryz.prog w = .ok (.tuple #[.agg #[], .bool (f x)]) w := h.look (s := x) hx
theorem cross_mem {L R : List Int} {z : PI} (h : z ∈ cross L R) : z.1 ∈ L ∧ z.2 ∈ R := by
  unfold cross at h
  obtain ⟨v, hv, hz⟩ := List.mem_flatMap.1 h
  obtain ⟨u, hu, rfl⟩ := List.mem_map.1 hz
  exact ⟨hv, hu⟩
theorem cells_at2 (ss : List PI) : ∀ {t : Nat} (ht : t < ss.length), (pairCells ss)[t * 2]? = some (.int .i64 ss[t].1) ∧ (pairCells ss)[t * 2 + 1]? = some (.int .i64 ss[t].2) := by
  induction ss with
  | nil => intro t ht; simp at ht
  | cons a l ih =>
    intro t ht
    have e : pairCells (a :: l) = .int .i64 a.1 :: .int .i64 a.2 :: pairCells l := rfl
    rw [e]
    cases t with
    | zero => exact ⟨rfl, rfl⟩
    | succ t =>
      obtain ⟨h1, h2⟩ := ih (t := t) (by simpa using ht)
      rw [show (t + 1) * 2 = t * 2 + 1 + 1 by omega]
      exact ⟨by simpa using h1, by simpa [Nat.add_assoc] using h2⟩
theorem pair_row {W w : World} {rs : List Res} {A : Option Addr} {n c : Nat} {ss : List PI} (h : Sep W w (rowR 50 2 (.slice A n c) n (pairCells ss) :: rs)) {t : Nat} (ht : t < ss.length) (hn : ss.length = n) : ∃ b, A = some ⟨b, 0, none⟩ ∧ w.cell? ⟨b, t * 2, none⟩ = some (.int .i64 ss[t].1) ∧ w.cell? ⟨b, t * 2 + 1, none⟩ = some (.int .i64 ss[t].2) := by
  obtain ⟨b, cap, e, _, hc, _⟩ := row_some h.row (by omega)
  simp only [Value.slice.injEq, true_and] at e
  obtain ⟨h1, h2⟩ := cells_at2 ss ht
  exact ⟨b, e.1, hc _ _ h1, hc _ _ h2⟩
theorem sub_ok {env : List (Int × Ex)} (hok : ∀ b ∈ env, ∀ x ∈ b.2, IntOK x) {p : Int} (hp : IntOK p) : ∀ x ∈ varsL (subE env p), IntOK x := by
  intro x hx
  have h := ((varsL_mem _ _).1 hx).1
  unfold subE at h
  cases hf : find env p with
  | none =>
    rw [hf] at h
    simp at h
    subst h
    exact hp
  | some e =>
    rw [hf] at h
    exact hok _ (find_mem hf) x h
def BreachOut (w : World) (q : Bool) (e : Ending) (w' : World) : Prop := ∃ a b : Int, e = .returned (.tuple #[.agg #[.int .i64 a, .int .i64 b], .bool q]) ∧ Below w.heap.size w w'
set_option maxHeartbeats 8000000 in
theorem breach_calls {w : World} {A P H : Option Addr} {c d k : Nat} {env : List (Int × Ex)} {ps hv : List S50} (hC : Kd.C kB w A env.length env) (hs : Rising env) (hl : env.length ≤ 4611686018427387903) (hsh : ∀ b ∈ env, b.2.length ≤ 1048576) (hok : ∀ b ∈ env, ∀ x ∈ b.2, IntOK x)
    (hP : Kd.C k50 w P ps.length ps) (hPl : ps.length ≤ 4194304) (oP : ∀ p ∈ ps, PairOK (prP p)) (hH : Kd.C k50 w H hv.length hv) (hHl : hv.length ≤ 4194304) (oH : ∀ p ∈ hv, PairOK (prP p)) (q : Bool) (hq : q = brokenB VB hv env ps) :
    Calls Tryz.prog 58 #[.slice P ps.length d, .agg #[.slice A env.length c], .func (.func 8) #[] #[], .slice H hv.length k] w (BreachOut w q) := by
  have HQ := Aside0.mk hq
  clear hq
  have M0 := set_fresh (box_fresh (box_fresh (Sep.start w) 103 #[.slice A env.length c]) 50 #[.int .i64 0, .int .i64 0]) sP
  have HAS := Aside0.mk (fun (p : S50) (hp : PairOK (prP p)) w' (hb : Below w.heap.size w w') => asks_calls (c := c) p.f0 p.f1 (Kd.C_below hC hb) hs hl hsh hok hp.1 hp.2 _ _ rfl rfl)
  have HOK := Aside0.mk hok
  have HP := Aside0.mk hP
  have HH := Aside0.mk hH
  have OP := Aside0.mk oP
  have OH := Aside0.mk oH
  have M := Aside0.mk M0
  clear hC hs hsh hok hP oP hH oH M0
  simp only [World.size_alloc] at M
  have hmm := @run_makeMap Tryz.prog
  go_enter Tryz.func58, Tryz.ntmps58
  go_wp2_with fail
  go_loopw [12, 24] (fun v12 v24 wr => ∃ (i : Nat), i ≤ hv.length ∧ v24 = .int .i64 i ∧ Aside0 (Sep w wr [setR sP (w.heap.size + 1 + 1) i (putAll (fun _ => false) (hv.take i)), boxR (w.heap.size + 1) 50 #[.int .i64 0, .int .i64 0], boxR w.heap.size 103 #[.slice A env.length c]])) (fun _ v24 _ => hv.length - (intOf v24).toNat)
  case atStart => exact ⟨0, by omega, rfl, M⟩
  case round =>
    clear M
    obtain ⟨i, hi, rfl, M⟩ := hrel
    by_cases hlt : i < hv.length
    · obtain ⟨ad, rfl, x0, x1⟩ := T50_at (Kd.C_below HH.out M.out.1) hlt
      have ho := OH.out hv[i] (List.getElem_mem hlt)
      have hst := Aside0.mk (putAll_take (f := fun _ => false) hlt)
      generalize hv[i] = p at *
      obtain ⟨p0, p1⟩ := p
      have hp1 := put_calls (M.out.alloc (Obj.cells #[Value.int IntKind.i64 p0, Value.int IntKind.i64 p1] 50)) (by unfold maxLen; omega) (p0, p1) ho
      clear M ho
      go_wp2_with fail
      refine hp1.mono ?_
      clear hp1 x0 x1
      rintro e w3 ⟨rfl, hm⟩
      have M := Aside0.mk hm
      clear hm
      go_wp2_with fail
      go_roundw
      case rel => exact ⟨i + 1, by omega, by go_num, ⟨by rw [hst.out]; exact M.out⟩⟩
      case measure => simp [intOf]; omega
    · have hie : i = hv.length := by omega
      subst hie
      rw [List.take_length] at M
      go_wp2_with fail
      go_loopw [14, 15, 16, 18, 19, 20, 34] (fun v14 v15 v16 v18 v19 v20 v34 wq => ∃ (j : Nat), j ≤ ps.length ∧ v34 = .int .i64 j ∧ Aside0 (brokenB VB hv env (ps.take j) = false) ∧ Aside0 (Sep w wq [setR sP (w.heap.size + 1 + 1) hv.length (putAll (fun _ => false) hv), boxR (w.heap.size + 1) 50 #[.int .i64 0, .int .i64 0], boxR w.heap.size 103 #[.slice A env.length c]])) (fun _ _ _ _ _ _ v34 _ => ps.length - (intOf v34).toNat)
      case atStart => exact ⟨0, by omega, rfl, ⟨rfl⟩, M⟩
      case round =>
        clear M
        obtain ⟨j, hj, rfl, hbr, M⟩ := hrel
        by_cases hjt : j < ps.length
        · obtain ⟨ad, rfl, x0, x1⟩ := T50_at (Kd.C_below HP.out M.out.1) hjt
          have ho := OP.out ps[j] (List.getElem_mem hjt)
          have hbt := Aside0.mk (broken_take (hv := hv) (env := env) hjt)
          have hbo := Aside0.mk (broken_of (hv := hv) (env := env) hjt)
          generalize ps[j] = p at *
          have M1 := Aside0.mk (box_fresh M.out 50 #[.int .i64 p.f0, .int .i64 p.f1])
          have has := HAS.out p ho _ M1.out.1
          have b0 := (box_cell (M1.out.pull 3 (by simp)) (j := 0) rfl).1
          obtain ⟨p0, p1⟩ := p
          have OO := Aside0.mk ho
          have hg : wr.heap.size < (wr.alloc (.cells #[.int .i64 p0, .int .i64 p1] 50)).heap.size := by simp
          clear M ho
          simp only at has b0 x0 x1 M1 hbt hbo
          generalize hLe : varsL (subE env p0) = L at *
          generalize hRe : varsL (subE env p1) = R at *
          have HLR := Aside0.mk (And.intro hLe hRe)
          clear hLe hRe
          go_wp2_with fail
          refine has.mono ?_
          clear has x0 x1 b0
          intro e w5 hout
          unfold AsksOut at hout
          by_cases hmeet : meetB L R = true
          · rw [if_pos hmeet] at hout
            obtain ⟨rfl, hb⟩ := hout
            have hq := HQ.out.trans (hbo.out (by unfold wholeB; rw [hmeet]; rfl))
            have HQT := Aside0.mk hq
            have M := Aside0.mk (M1.out.below hb)
            clear M1 hb hmeet hq
            have c0 := (box_cell M.out (j := 0) rfl).1
            have c1 := (box_cell M.out (j := 1) rfl).1
            obtain ⟨d0, e0⟩ := box_cell (M.out.pull 2 (by simp)) (j := 0) rfl
            obtain ⟨d1, e1⟩ := box_cell (M.out.pull 2 (by simp)) (j := 1) rfl
            have M2 := Aside0.mk (box_set (box_set (M.out.pull 2 (by simp)) 0 (.int .i64 p0)) 1 (.int .i64 p1))
            clear M
            go_wp2_with fail
            refine bodyPost_ret (results_ct rfl _ _ (w.heap.size + 1) 50 #[.int .i64 p0, .int .i64 p1] (0, 0) _ rfl (box_at M2.out) Tryz.underlying50 rfl (by kernel_rfl)) rfl ?_
            exact ⟨p0, p1, by rw [HQT.out]; rfl, M2.out.1⟩
          · rw [if_neg hmeet] at hout
            obtain ⟨A', c', rfl, hc', hXl, hm⟩ := hout
            have M2 := Aside0.mk (sep_over M1.out hm)
            have HME := Aside0.mk hmeet
            clear M1 hm hmeet
            have M := M2
            clear M2
            obtain ⟨X, hX⟩ : ∃ X, X = cross L R := ⟨_, rfl⟩
            rw [← hX] at M hc' hXl ⊢
            have HX := Aside0.mk hX
            clear hX
            go_wp2_with fail
            go_loopw [18, 19, 20, 50] (fun v18 v19 v20 v50 wz => ∃ (t : Nat), t ≤ X.length ∧ v50 = .int .i64 t ∧ Aside0 (∀ z ∈ X.take t, hadB hv z.1 z.2 = true) ∧ Aside0 (Sep w wz [rowR 50 2 (.slice A' X.length c') X.length (pairCells X), boxR wr.heap.size 50 #[.int .i64 p0, .int .i64 p1], setR sP (w.heap.size + 1 + 1) hv.length (putAll (fun _ => false) hv), boxR (w.heap.size + 1) 50 #[.int .i64 0, .int .i64 0], boxR w.heap.size 103 #[.slice A env.length c]])) (fun _ _ _ v50 _ => X.length - (intOf v50).toNat)
            case atStart => exact ⟨0, by omega, rfl, ⟨by simp⟩, M⟩
            case round =>
              clear M
              obtain ⟨t, ht, rfl, hall, M⟩ := hrel
              by_cases htt : t < X.length
              · obtain ⟨bx, rfl, z0, z1⟩ := pair_row M.out htt rfl
                have hzm : X[t] ∈ cross L R := by rw [← HX.out]; exact List.getElem_mem htt
                have hzt : ∀ z ∈ X.take (t + 1), z ∈ X.take t ∨ z = X[t] := fun z hz => by
                  rw [List.take_succ_eq_append_getElem htt, List.mem_append, List.mem_singleton] at hz
                  exact hz
                have HZT := Aside0.mk hzt
                clear hzt
                generalize X[t] = z at *
                obtain ⟨u, v⟩ := z
                obtain ⟨hu, hv2⟩ := cross_mem hzm
                have hne : u ≠ v := by
                  rintro rfl
                  apply HME.out
                  unfold meetB
                  rw [List.any_eq_true]
                  exact ⟨u, hu, decide_eq_true hv2⟩
                have hzo : PairOK (u, v) := ⟨sub_ok HOK.out (p := p0) OO.out.1 u (by rw [HLR.out.1]; exact hu), sub_ok HOK.out (p := p1) OO.out.2 v (by rw [HLR.out.2]; exact hv2)⟩
                have hlk := putAll_has hv (fun _ => false) (u, v) hne
                simp only [Bool.or_false] at hlk
                have M2 := Aside0.mk (M.out.alloc (.cells #[.int .i64 u, .int .i64 v] 50))
                have htn := turned_calls u v (wr.alloc (.cells #[.int .i64 u, .int .i64 v] 50))
                simp only at z0 z1
                have HZM := Aside0.mk hzm
                have HNE := Aside0.mk hne
                have HZO := Aside0.mk hzo
                have HLK := Aside0.mk hlk
                clear hzm hu hv2 hne hzo hlk M
                have M := M2
                clear M2
                go_wp2_with fail
                refine htn.mono ?_
                clear htn z0 z1
                rintro e w7 ⟨rfl, hb⟩
                have M2 := Aside0.mk (M.out.below hb)
                clear M hb
                have M := M2
                clear M2
                obtain ⟨y, hy⟩ : ∃ y, y = hadB hv u v := ⟨_, rfl⟩
                have hlo := look_P (set_at (M.out.pull 2 (by simp))) (turnP (u, v)) (turn_ok HZO.out)
                rw [HLK.out, ← hy] at hlo
                have HYE := Aside0.mk hy
                clear hy
                cases y with
                | true =>
                  go_wp2_with fail
                  go_roundw
                  case rel =>
                    refine ⟨t + 1, by omega, by go_num, ⟨fun z hz => ?_⟩, ⟨M.out.alloc _⟩⟩
                    rcases HZT.out z hz with h | rfl
                    · exact hall.out z h
                    · exact HYE.out.symm
                  case measure => simp [intOf]; omega
                | false =>
                  have hwf : wholeB hv L R = false := by
                    unfold wholeB
                    have : (cross L R).all (fun q => hadB hv q.1 q.2) = false := by
                      rw [List.all_eq_false]
                      exact ⟨(u, v), HZM.out, by rw [← HYE.out]; simp⟩
                    rw [this, Bool.and_false]
                  have HQT := Aside0.mk (HQ.out.trans (hbo.out hwf))
                  clear hwf
                  have M2 := Aside0.mk (M.out.alloc (.cells #[] 149))
                  clear M
                  have M := M2
                  clear M2
                  have c0 := (box_cell (M.out.pull 1 (by simp)) (j := 0) rfl).1
                  have c1 := (box_cell (M.out.pull 1 (by simp)) (j := 1) rfl).1
                  obtain ⟨d0, e0⟩ := box_cell (M.out.pull 3 (by simp)) (j := 0) rfl
                  obtain ⟨d1, e1⟩ := box_cell (M.out.pull 3 (by simp)) (j := 1) rfl
                  have M2 := Aside0.mk (box_set (box_set (M.out.pull 3 (by simp)) 0 (.int .i64 p0)) 1 (.int .i64 p1))
                  clear M
                  go_wp2_with fail
                  refine bodyPost_ret (results_ct rfl _ _ (w.heap.size + 1) 50 #[.int .i64 p0, .int .i64 p1] (0, 0) _ rfl (box_at M2.out) Tryz.underlying50 rfl (by kernel_rfl)) rfl ?_
                  exact ⟨p0, p1, by rw [HQT.out]; rfl, M2.out.1⟩
              · have hte : t = X.length := by omega
                subst hte
                rw [List.take_length] at hall
                have hwh : wholeB hv L R = true := by
                  unfold wholeB
                  rw [← HX.out]
                  have h1 : meetB L R = false := by simpa using HME.out
                  rw [h1, List.all_eq_true.2 (fun z hz => hall.out z hz)]
                  rfl
                have hb2 : brokenB VB hv env (ps.take (j + 1)) = false := by
                  rw [hbt.out, hbr.out, hwh]
                  rfl
                have HB2 := Aside0.mk hb2
                clear hwh hb2
                go_wp2_with fail
                go_roundw
                case rel => exact ⟨j + 1, by omega, by go_num, HB2, ⟨M.out.tail.tail⟩⟩
                case measure => simp [intOf]; omega
        · have hje : j = ps.length := by omega
          subst hje
          rw [List.take_length] at hbr
          have HQF := Aside0.mk (HQ.out.trans hbr.out)
          obtain ⟨d0, e0⟩ := box_cell (M.out.pull 1 (by simp)) (j := 0) rfl
          obtain ⟨d1, e1⟩ := box_cell (M.out.pull 1 (by simp)) (j := 1) rfl
          have hbd : ∀ w, (Instr.build 50 #[]).run Tryz.prog w = .ok (.agg #[.int .i64 0, .int .i64 0]) w := fun w => by kernel_rfl
          have M2 := Aside0.mk (box_set (box_set (M.out.pull 1 (by simp)) 0 (.int .i64 0)) 1 (.int .i64 0))
          clear M
          go_wp2_with fail
          refine bodyPost_ret (results_ct rfl _ _ (w.heap.size + 1) 50 #[.int .i64 0, .int .i64 0] (0, 0) _ rfl (box_at M2.out) Tryz.underlying50 rfl (by kernel_rfl)) rfl ?_
          exact ⟨0, 0, by rw [HQF.out]; rfl, M2.out.1⟩
end Go.Proofs.YtcfocbfocemapaaGreat.Breach
