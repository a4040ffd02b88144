/- LibC, SubA, SubB, SubC. -/
import Derived.Test.YtcfocbfocemapaaGreatU7
import Derived.Deep.LoopGhost
namespace Go.Proofs.YtcfocbfocemapaaGreat.LibC
open Go.RowKit Go.Maps Go.Proofs.YtcfocbfocemapaaGreat.Sep Go.Proofs.YtcfocbfocemapaaGreat.Mem Go.Proofs.YtcfocbfocemapaaGreat.Sets Go.Proofs.YtcfocbfocemapaaGreat.PlayP Go.Proofs.YtcfocbfocemapaaGreat.PStackPlays Go.Proofs.YtcfocbfocemapaaGreat.IterA Go.Proofs.YtcfocbfocemapaaGreat.IterB Go.Proofs.YtcfocbfocemapaaGreat.DistB Go.Proofs.YtcfocbfocemapaaGreat.DistC
open Go.Proofs.YtcfocbfocemapaaGreatW.PrintWords
open Go.Proofs.YtcfocbfocemapaaGreatW.PrintLast
set_option linter.unusedVariables false
set_option linter.unusedSimpArgs false
set_option maxRecDepth 100000

abbrev kI : Kd Int := Kd.int .i64
theorem Ci_all {w : World} {n : Nat} {A : Option Addr} {xs : List Int} (h : Kd.C kI w A n xs) : (A = none → n = 0) ∧ ∀ ad, A = some ad → ∀ j u, (xs.map num)[j]? = some u → w.cell? (ad.add j) = some u := by
  refine ⟨fun hA => ?_, fun ad hA j u hu => ?_⟩
  · rcases Nat.eq_zero_or_pos n with h0 | h0
    · exact h0
    · obtain ⟨ad, e, _⟩ := h.2.2 h0
      rw [hA] at e
      cases e
  · rw [List.getElem?_map] at hu
    obtain ⟨s, hs, rfl⟩ := Option.map_eq_some_iff.1 hu
    obtain ⟨ad2, e, hc⟩ := Ci_at h hs
    rw [hA] at e
    cases e
    exact hc
/-- 'append(l, xs...)' at the operation, l of one's own, xs a list of elements of so many cells that lies anywhere. -/
theorem wp_cells {ops : Array Oper} {rest : List Oper} {o : Oper} {a : Act} {Q : Exit → Act → World → Prop} {W w : World} {rs : List Res} {v : Value} {n size : Nat} {xs : List Value} {e : TypeId} (M : Sep W w (rowR e size v n xs :: rs)) (hgd : o.guard = none) (sl x : Operand) (t : TypeId) {z : Value} {b : Nat}
    (hop : o.op = .call { callee := .builtin .append, args := #[sl, x], argTypes := #[t, t] }) (ht : Tryz.prog.underlying t = some (.slice e)) (hi : (Tryz.prog.info? e).map (fun i => (i.zero, i.size, i.bytes)) = some (some z, size, b)) (hz : z.cells.size = size) (hsp : 0 < size) (hs : a.eval sl = v)
    {A : Option Addr} {m c2 : Nat} {news : List Value} (hx : a.eval x = .slice A m c2) (hl : news.length = m * size) (hA : A = none → m = 0) (hnew : ∀ ad, A = some ad → ∀ j u, news[j]? = some u → w.cell? (ad.add j) = some u) (hu : ∀ u ∈ news, u.oneCell' = true) (hb : b ≤ 64) (hn : n + m ≤ 1099511627776)
    (h : ∀ A' c' w', n + m ≤ c' → Sep W w' (rowR e size (.slice A' (n + m) c') (n + m) (xs ++ news) :: rs) → wpList Tryz.prog ops Q rest (a.put o.dst (.slice A' (n + m) c')) w') : wpList Tryz.prog ops Q (o :: rest) a w := by
  obtain ⟨i0, hi0, hz0, hz1, hz2⟩ := info_parts hi
  rcases A with _ | ad
  · have h0 := hA rfl
    subst h0
    rw [Nat.zero_mul] at hl
    obtain rfl : news = [] := List.eq_nil_of_length_eq_zero hl
    refine wpList_plain hgd fun K hK => ?_
    have hown := M.row
    obtain ⟨A', c', rfl, hc'⟩ := row_slice hown
    have hrun : (Builtin.append_ #[t, t] o.type #[.slice A' n c', .slice none 0 c2]).run Tryz.prog w = .ok (.slice A' n c') w := by
      rcases hown.2 with ⟨e1, hn0⟩ | ⟨g, cap, cur, e1, _, _, hnc, _⟩
      · simp only [Value.slice.injEq] at e1
        obtain ⟨rfl, rfl, rfl⟩ := e1
        simp [Builtin.append_, run_underlying ht, sizeOf, typeInfo, hi0, Builtin.lenOf, Builtin.firstCells]
      · simp only [Value.slice.injEq] at e1
        obtain ⟨rfl, _, rfl⟩ := e1
        simp [Builtin.append_, run_underlying ht, sizeOf, typeInfo, hi0, Builtin.lenOf, Builtin.firstCells, hnc, storeCells]
    unfold Oper.wp
    simp [execOp, hop, resolve, invoke, builtin, hs, hx, hrun, Result.andThen]
    refine hK _ _ (h A' c' w (by omega) ?_)
    rw [List.append_nil]
    exact M
  · refine wpList_append_own_at w hgd sl x t hop 0 e i0 z size b ht hi0 hz0 hz1 hz2 hz hsp v n xs hs M.row ad m c2 news hx (by omega) (hnew ad rfl) hu (by unfold maxLen; omega) ?_ (Nat.zero_le _) ?_
    · have : (n + m) * b ≤ 1099511627776 * 64 := Nat.mul_le_mul hn hb
      omega
    intro v' w' hown hgrow _ hat
    have M2 := M.appended hown hgrow hat
    obtain ⟨A', c', rfl, hc'⟩ := row_slice hown
    exact h A' c' w' hc' M2
set_option maxHeartbeats 2000000 in
theorem clone_calls {W w : World} {rs : List Res} (hM : Sep W w rs) {A : Option Addr} {c : Nat} {xs : List Int} (hC : Kd.C kI w A xs.length xs) (hl : xs.length ≤ 1099511627776) :
    Calls Tryz.prog 40 #[.slice A xs.length c] w fun e w' => ∃ A' c', e = .returned (.slice A' xs.length c') ∧ xs.length ≤ c' ∧ Sep W w' (rowR 3 1 (.slice A' xs.length c') xs.length (xs.map num) :: rs) := by
  have M := Aside0.mk hM
  have q24 : ∀ (w : World) (a : Option Addr) (n c n' c' : Nat), (binOp .eql 24 (.slice a n c) (.slice none n' c')).run Tryz.prog w = .ok (.bool a.isNone) w := fun w a n c n' c' => Lib.run_eql_slice_nil w _ _ a n c n' c' Tryz.underlying24
  obtain ⟨h0, h1⟩ := Ci_all hC
  rcases A with _ | ad
  · have hn := h0 rfl
    obtain rfl : xs = [] := List.eq_nil_of_length_eq_zero hn
    clear hC hM h0 h1
    go_enter Tryz.func40, Tryz.ntmps40
    go_wp2_with fail
    go_ret
    exact ⟨none, 0, rfl, Nat.le_refl _, row_nil M.out 3 1⟩
  · have H1 := Aside0.mk (h1 ad rfl)
    clear hC hM h0 h1
    go_enter Tryz.func40, Tryz.ntmps40
    go_wp2_with (at_builtin; refine wp_cells (row_lits M.out 3 1 0 #[] rfl (by unfold maxLen; omega)) rfl _ _ 24 rfl Tryz.underlying24 info3 rfl (by omega) rfl (A := some ad) (news := xs.map num) rfl (by rw [List.length_map, Nat.mul_one]) (fun h => by cases h) (fun ad2 e2 j u hu => ?qc) (fun u hu => ?qd) (by omega) (by omega) ?_)
    case qc =>
      cases e2
      exact Lib.cell?_alloc_some _ (H1.out j u hu)
    case qd =>
      obtain ⟨x, _, rfl⟩ := List.mem_map.1 hu
      rfl
    intro A' c' w' hc' hm
    have M2 := Aside0.mk hm
    clear hm M
    go_wp2_with fail
    go_ret
    exact ⟨A', c', rfl, hc', M2.out⟩

theorem pair_cells_at (ps : List S50) : ∀ {j : Nat} {u : Value}, (pairCells (ps.map prP))[j]? = some u → ∃ i, ∃ h : i < ps.length, (j = i * 2 ∧ u = .int .i64 ps[i].f0) ∨ (j = i * 2 + 1 ∧ u = .int .i64 ps[i].f1) := by
  induction ps with
  | nil => intro j u h; simp [pairCells] at h
  | cons p ps ih =>
    intro j u h
    have e : pairCells ((p :: ps).map prP) = .int .i64 p.f0 :: .int .i64 p.f1 :: pairCells (ps.map prP) := rfl
    rw [e] at h
    match j, h with
    | 0, h => exact ⟨0, by simp, .inl ⟨rfl, by simpa using h.symm⟩⟩
    | 1, h => exact ⟨0, by simp, .inr ⟨rfl, by simpa using h.symm⟩⟩
    | j + 2, h =>
      obtain ⟨i, hi, hh⟩ := ih (j := j) (u := u) (by simpa using h)
      refine ⟨i + 1, by simpa using hi, ?_⟩
      simp only [List.getElem_cons_succ]
      rcases hh with ⟨rfl, h2⟩ | ⟨rfl, h2⟩
      · exact .inl ⟨by omega, h2⟩
      · exact .inr ⟨by omega, h2⟩
theorem CP_all {w : World} {n : Nat} {A : Option Addr} {ps : List S50} (h : Kd.C k50 w A n ps) : (A = none → n = 0) ∧ ∀ ad, A = some ad → ∀ j u, (pairCells (ps.map prP))[j]? = some u → w.cell? (ad.add j) = some u := by
  refine ⟨fun hA => ?_, fun ad hA j u hu => ?_⟩
  · rcases Nat.eq_zero_or_pos n with h0 | h0
    · exact h0
    · obtain ⟨ad, e, _⟩ := h.2.2 h0
      rw [hA] at e
      cases e
  · obtain ⟨i, hi, hh⟩ := pair_cells_at ps hu
    obtain ⟨ad2, e, c0, c1⟩ := T50_at h hi
    rw [hA] at e
    cases e
    rcases hh with ⟨rfl, rfl⟩ | ⟨rfl, rfl⟩
    · exact c0
    · rw [add_field _ _ 1 (by omega)]
      exact c1
set_option maxHeartbeats 2000000 in
theorem cloneP_calls {W w : World} {rs : List Res} (hM : Sep W w rs) {A : Option Addr} {c : Nat} {ps : List S50} (hC : Kd.C k50 w A ps.length ps) (hl : ps.length ≤ 1099511627776) :
    Calls Tryz.prog 39 #[.slice A ps.length c] w fun e w' => ∃ A' c', e = .returned (.slice A' ps.length c') ∧ ps.length ≤ c' ∧ Sep W w' (rowR 50 2 (.slice A' ps.length c') ps.length (pairCells (ps.map prP)) :: rs) := by
  have M := Aside0.mk hM
  have q23 : ∀ (w : World) (a : Option Addr) (n c n' c' : Nat), (binOp .eql 23 (.slice a n c) (.slice none n' c')).run Tryz.prog w = .ok (.bool a.isNone) w := fun w a n c n' c' => Lib.run_eql_slice_nil w _ _ a n c n' c' Tryz.underlying23
  obtain ⟨h0, h1⟩ := CP_all hC
  rcases A with _ | ad
  · have hn := h0 rfl
    obtain rfl : ps = [] := List.eq_nil_of_length_eq_zero hn
    clear hC hM h0 h1
    go_enter Tryz.func39, Tryz.ntmps39
    go_wp2_with fail
    go_ret
    exact ⟨none, 0, rfl, Nat.le_refl _, row_nil M.out 50 2⟩
  · have H1 := Aside0.mk (h1 ad rfl)
    have hlen : (pairCells (ps.map prP)).length = ps.length * 2 := by rw [pairCells_len, List.length_map]
    have HL := Aside0.mk hlen
    clear hC hM h0 h1 hlen
    go_enter Tryz.func39, Tryz.ntmps39
    go_wp2_with (at_builtin; refine wp_cells (row_lits M.out 50 2 0 #[] rfl (by unfold maxLen; omega)) rfl _ _ 23 rfl Tryz.underlying23 IterB.info50 rfl (by omega) rfl (A := some ad) (news := pairCells (ps.map prP)) rfl HL.out (fun h => by cases h) (fun ad2 e2 j u hu => ?qc) (fun u hu => ?qd) (by omega) (by omega) ?_)
    case qc =>
      cases e2
      exact Lib.cell?_alloc_some _ (H1.out j u hu)
    case qd =>
      obtain ⟨x, _, hx⟩ := List.mem_flatMap.1 hu
      simp only [List.mem_cons, List.not_mem_nil, or_false] at hx
      rcases hx with rfl | rfl <;> rfl
    intro A' c' w' hc' hm
    have M2 := Aside0.mk hm
    clear hm M
    go_wp2_with fail
    go_ret
    exact ⟨A', c', rfl, hc', M2.out⟩
end Go.Proofs.YtcfocbfocemapaaGreat.LibC

namespace Go.Proofs.YtcfocbfocemapaaGreat.SubA
open Go.RowKit Go.Maps Go.Lib Go.Proofs.YtcfocbfocemapaaGreat.Sep Go.Proofs.YtcfocbfocemapaaGreat.Mem Go.Proofs.YtcfocbfocemapaaGreat.Sets Go.Proofs.YtcfocbfocemapaaGreat.PlayP Go.Proofs.YtcfocbfocemapaaGreat.PStackPlays Go.Proofs.YtcfocbfocemapaaGreat.LibC
open Go.Proofs.YtcfocbfocemapaaGreatW.PrintWords
set_option linter.unusedVariables false
set_option linter.unusedSimpArgs false
set_option maxRecDepth 100000

abbrev kB : Kd (Int × List Int) := Kd.pair kI (Kd.slice 3 kI)
theorem bind_at {w : World} {A : Option Addr} {n : Nat} {env : List (Int × Ex)} (h : Kd.C kB w A n env) {i : Nat} (hi : i < env.length) :
    ∃ ad A' c', A = some ad ∧ w.cell? (ad.add (i * 2)) = some (.int .i64 env[i].1) ∧ w.cell? ⟨(ad.add (i * 2)).block, (ad.add (i * 2)).off + 1, none⟩ = some (.slice A' env[i].2.length c') ∧ env[i].2.length ≤ c' ∧ Kd.C kI w A' env[i].2.length env[i].2 := by
  have hn := h.1
  obtain ⟨ad, c, e, _, hK, hc0⟩ := Kd.C_get h env[i] (i : Int) (by omega) (by omega)
  have hx : env.getD ((i : Int)).toNat env[i] = env[i] := by simp [hi]
  rw [hx] at hK
  have hc : ∀ j u, c[j]? = some u → w.cell? (ad.add (i * 2 + j)) = some u := hc0
  obtain ⟨_, _, rfl, rfl, ⟨A1, c1, rfl, l1, g1⟩⟩ := hK
  exact ⟨ad, A1, c1, e, hc 0 _ rfl, by rw [← add_field _ _ 1 (by omega)]; exact hc 1 _ rfl, l1, g1⟩
/-- By variables, rising. -/
def Rising (env : List (Int × Ex)) : Prop := env.Pairwise (fun a b => a.1 < b.1)
theorem rising_nodup {env : List (Int × Ex)} (h : Rising env) : (env.map (·.1)).Nodup := by
  unfold List.Nodup
  rw [List.pairwise_map]
  exact h.imp fun h e => by omega
theorem rising_at {env : List (Int × Ex)} (h : Rising env) {i j : Nat} (hi : i < env.length) (hj : j < env.length) (hij : i < j) : env[i].1 < env[j].1 := (List.pairwise_iff_getElem.1 h) i j hi hj hij
set_option maxHeartbeats 1000000 in
theorem closure96 (x v : Int) (A : Option Addr) (n c : Nat) (W : World) : Calls Tryz.prog 96 #[.agg #[.int .i64 x, .slice A n c], .int .i64 v] W fun e w' => e = .returned (.int .i64 (compareInt x v)) ∧ Below W.heap.size W w' := by
  have hb := fun o => (Below.refl W.heap.size W).alloc (Nat.le_refl _) o
  by_cases h1 : x < v
  · have e : compareInt x v = -1 := by unfold compareInt; rw [if_pos h1]
    rw [e]
    go_enter Tryz.func96, Tryz.ntmps96
    go_wp2
    go_ret
    exact ⟨rfl, hb _⟩
  · by_cases h2 : x > v
    · have e : compareInt x v = 1 := by unfold compareInt; rw [if_neg h1, if_pos h2]
      rw [e]
      have h3 : v < x := h2
      go_enter Tryz.func96, Tryz.ntmps96
      go_wp2
      go_ret
      exact ⟨rfl, hb _⟩
    · have e : compareInt x v = 0 := by unfold compareInt; rw [if_neg h1, if_neg h2]
      rw [e]
      have h3 : ¬ v < x := h2
      go_enter Tryz.func96, Tryz.ntmps96
      go_wp2
      go_ret
      exact ⟨rfl, hb _⟩
def SearchOut (w : World) (env : List (Int × Ex)) (v : Int) (e : Ending) (w' : World) : Prop :=
  ∃ i : Nat, i ≤ env.length ∧ (∀ t (h : t < env.length), t < i → env[t].1 < v) ∧ (∀ t (h : t < env.length), i ≤ t → v ≤ env[t].1) ∧ e = .returned (.tuple #[.int .i64 (i : Int), .bool (decide ((env[i]?).map (·.1) = some v))]) ∧ Below w.heap.size w w'
set_option maxHeartbeats 8000000 in
theorem search_calls {w : World} {A : Option Addr} {c : Nat} {env : List (Int × Ex)} (v : Int) (hC : Kd.C kB w A env.length env) (hs : Rising env) (hl : env.length ≤ 4611686018427387903) :
    Calls Tryz.prog 95 #[.slice A env.length c, .int .i64 v, .func (.func 96) #[] #[]] w (SearchOut w env v) := by
  have HC := Aside0.mk hC
  have HS := Aside0.mk hs
  have B0 := Aside0.mk (Below.refl w.heap.size w)
  clear hC hs
  go_enter Tryz.func95, Tryz.ntmps95
  go_wp2_with fail
  go_loopg [9, 10, 11] env.length (fun kx s9 s10 s11 wr => ∃ lo hi : Nat, s9 = .int .i64 lo ∧ s10 = .int .i64 hi ∧ lo ≤ hi ∧ hi ≤ env.length ∧ hi - lo ≤ kx ∧ Aside0 (Below w.heap.size w wr) ∧
    Aside0 ((∀ t (h : t < env.length), t < lo → env[t].1 < v) ∧ (∀ t (h : t < env.length), hi ≤ t → v ≤ env[t].1)))
  case atStart => exact ⟨0, env.length, rfl, rfl, Nat.zero_le _, Nat.le_refl _, by omega, B0, ⟨fun t _ ht => absurd ht (Nat.not_lt_zero _), fun t h1 h2 => by omega⟩⟩
  case round =>
    clear B0
    obtain ⟨lo, hi, rfl, rfl, hlh, hin, hg, B, I⟩ := hrel
    have hC2 := Kd.C_below HC.out B.out
    by_cases hlt : lo < hi
    · obtain ⟨ad, A', c', rfl, x0, x1, _, _⟩ := bind_at hC2 (i := (lo + hi) / 2) (by omega)
      clear hC2
      have hm : (lo + hi) / 2 < env.length := by omega
      obtain ⟨y, hy⟩ : ∃ y, y = (env[(lo + hi) / 2]).1 := ⟨_, rfl⟩
      rw [← hy] at x0
      generalize (env[(lo + hi) / 2]).2.length = yl at x1
      have Y := Aside0.mk hy
      clear hy
      have hc := fun W => closure96 y v A' yl c' W
      have hw1 : (lo + hi : Nat) ≤ 9223372036854775806 := by omega
      by_cases hyx : y < v
      · have e : compareInt y v = -1 := by unfold compareInt; rw [if_pos hyx]
        rw [e] at hc
        go_wp2_with fail
        refine (hc _).mono ?_
        clear hc x0 x1
        rintro e w' ⟨rfl, hb⟩
        have B2 := Aside0.mk (below_then B.out B.out.size hb)
        clear B hb
        go_wp2_with fail
        go_roundg (hi - ((lo + hi) / 2 + 1))
        case measure => omega
        case rel =>
          refine ⟨(lo + hi) / 2 + 1, hi, by rw [show ((lo : Int) + (hi : Int)) / 2 + 1 = (((lo + hi) / 2 + 1 : Nat) : Int) by omega], rfl, by omega, hin, Nat.le_refl _, B2, ⟨fun t h1 ht => ?_, I.out.2⟩⟩
          have hy2 := Y.out
          rcases Nat.lt_or_ge t ((lo + hi) / 2) with h3 | h3
          · have := rising_at HS.out h1 hm h3
            omega
          · have h4 : t = (lo + hi) / 2 := by omega
            subst h4
            omega
      · have e : 0 ≤ compareInt y v := by unfold compareInt; rw [if_neg hyx]; split <;> omega
        generalize compareInt y v = r at hc e
        have e2 : ¬ r < 0 := by omega
        go_wp2_with fail
        refine (hc _).mono ?_
        clear hc x0 x1
        rintro e w' ⟨rfl, hb⟩
        have B2 := Aside0.mk (below_then B.out B.out.size hb)
        clear B hb
        go_wp2_with fail
        go_roundg ((lo + hi) / 2 - lo)
        case measure => omega
        case rel =>
          refine ⟨lo, (lo + hi) / 2, rfl, by rw [show ((lo : Int) + (hi : Int)) / 2 = (((lo + hi) / 2 : Nat) : Int) by omega], by omega, by omega, Nat.le_refl _, B2, ⟨I.out.1, fun t h1 ht => ?_⟩⟩
          have hy2 := Y.out
          rcases Nat.lt_or_ge ((lo + hi) / 2) t with h3 | h3
          · have := rising_at HS.out hm h1 h3
            omega
          · have h4 : t = (lo + hi) / 2 := by omega
            subst h4
            omega
    · obtain rfl : hi = lo := by omega
      by_cases hn : hi < env.length
      · obtain ⟨ad, A', c', rfl, x0, x1, _, _⟩ := bind_at hC2 hn
        clear hC2
        obtain ⟨y, hy⟩ : ∃ y, y = (env[hi]).1 := ⟨_, rfl⟩
        have hy2 : (env[hi]?).map (·.1) = some y := by rw [List.getElem?_eq_getElem hn, hy]; rfl
        rw [← hy] at x0
        generalize (env[hi]).2.length = yl at x1
        have Y := Aside0.mk hy2
        clear hy hy2
        have hc := fun W => closure96 y v A' yl c' W
        by_cases hyx : y = v
        · subst hyx
          have e : compareInt y y = 0 := by unfold compareInt; simp
          rw [e] at hc
          go_wp2_with (go_at_call 96; refine (hc _).mono ?_; rintro e w' ⟨rfl, hb⟩)
          go_ret2
          exact ⟨hi, hin, I.out.1, I.out.2, by rw [Y.out]; simp, below_then B.out B.out.size hb⟩
        · have e : (compareInt y v == 0) = false := by
            unfold compareInt
            by_cases h5 : y < v
            · rw [if_pos h5]; rfl
            · rw [if_neg h5, if_pos (by omega)]; rfl
          have e2 : ¬ compareInt y v = 0 := by simpa using e
          have HYX := Aside0.mk hyx
          clear hyx
          generalize compareInt y v = r at hc e e2
          go_wp2_with (go_at_call 96; refine (hc _).mono ?_; rintro e w' ⟨rfl, hb⟩)
          go_ret2
          exact ⟨hi, hin, I.out.1, I.out.2, by rw [Y.out]; simp [HYX.out], below_then B.out B.out.size hb⟩
      · have hie : hi = env.length := by omega
        clear hC2
        go_wp2_with fail
        go_ret2
        exact ⟨hi, hin, I.out.1, I.out.2, by rw [List.getElem?_eq_none (by omega)]; simp, B.out⟩
end Go.Proofs.YtcfocbfocemapaaGreat.SubA

namespace Go.Proofs.YtcfocbfocemapaaGreat.SubB
open Go.RowKit Go.Maps Go.Lib Go.Proofs.YtcfocbfocemapaaGreat.Sep Go.Proofs.YtcfocbfocemapaaGreat.Mem Go.Proofs.YtcfocbfocemapaaGreat.Sets Go.Proofs.YtcfocbfocemapaaGreat.PlayP Go.Proofs.YtcfocbfocemapaaGreat.PStackPlays Go.Proofs.YtcfocbfocemapaaGreat.DistC Go.Proofs.YtcfocbfocemapaaGreat.LibC Go.Proofs.YtcfocbfocemapaaGreat.SubA
open Go.Proofs.YtcfocbfocemapaaGreatW.PrintWords
set_option linter.unusedVariables false
set_option linter.unusedSimpArgs false
set_option maxRecDepth 100000

theorem find_here {env : List (Int × Ex)} (hs : Rising env) {i : Nat} {v : Int} (hi : i < env.length) (he : env[i].1 = v) : find env v = some env[i].2 := by
  subst he
  exact find_of_mem (rising_nodup hs) (List.getElem_mem hi)
theorem find_gone {env : List (Int × Ex)} (hs : Rising env) {i : Nat} {v : Int} (h1 : ∀ t (h : t < env.length), t < i → env[t].1 < v) (h2 : ∀ t (h : t < env.length), i ≤ t → v ≤ env[t].1) (he : (env[i]?).map (·.1) ≠ some v) : find env v = none := by
  rw [find_none]
  intro hm
  obtain ⟨b, hb, e⟩ := List.mem_map.1 hm
  obtain ⟨t, ht, rfl⟩ := List.getElem_of_mem hb
  rcases Nat.lt_trichotomy t i with h3 | h3 | h3
  · have := h1 t ht h3
    omega
  · subst h3
    apply he
    rw [List.getElem?_eq_getElem ht]
    simp [e]
  · have h4 := h2 i (by omega) (Nat.le_refl _)
    have h5 := rising_at hs (i := i) (j := t) (by omega) ht h3
    omega
/-- What stands for a variable, and whether something does. -/
def OfOut (w : World) (env : List (Int × Ex)) (v : Int) (e : Ending) (w' : World) : Prop :=
  ∃ (L : Ex) (A' : Option Addr) (c' : Nat), L = (find env v).getD [] ∧ e = .returned (.tuple #[.slice A' L.length c', .bool (find env v).isSome]) ∧ L.length ≤ c' ∧ Kd.C kI w A' L.length L ∧ Below w.heap.size w w'
set_option maxHeartbeats 4000000 in
theorem of_calls {w : World} {A : Option Addr} {c : Nat} {env : List (Int × Ex)} (v : Int) (hC : Kd.C kB w A env.length env) (hs : Rising env) (hl : env.length ≤ 4611686018427387903) :
    Calls Tryz.prog 81 #[.agg #[.slice A env.length c], .int .i64 v] w (OfOut w env v) := by
  have B0 := (Below.refl w.heap.size w).alloc (Nat.le_refl _) (Obj.cells #[.slice A env.length c] 103)
  have hC1 := Kd.C_below hC B0
  have hcell : (w.alloc (Obj.cells #[.slice A env.length c] 103)).cell? ⟨w.heap.size, 0, none⟩ = some (.slice A env.length c) := by simp
  have hlt : w.heap.size < (w.alloc (Obj.cells #[.slice A env.length c] 103)).heap.size := by simp
  have hsr := search_calls (c := c) v hC1 hs hl
  have HC := Aside0.mk hC
  have HS := Aside0.mk hs
  have HB := Aside0.mk B0
  have HCELL := Aside0.mk hcell
  clear hC hs hC1 B0 hcell
  go_enter Tryz.func81, Tryz.ntmps81
  go_wp2_with fail
  refine hsr.mono ?_
  clear hsr
  rintro e w1 ⟨i, hi, h1, h2, rfl, hb⟩
  have hc1 : w1.cell? ⟨w.heap.size, 0, none⟩ = some (.slice A env.length c) := (hb.cell hlt).trans HCELL.out
  have B1 := Aside0.mk (below_then HB.out HB.out.size hb)
  have H1 := Aside0.mk h1
  have H2 := Aside0.mk h2
  clear HB hb h1 h2
  by_cases he : (env[i]?).map (·.1) = some v
  · have hi2 : i < env.length := by
      rcases Nat.lt_or_ge i env.length with h | h
      · exact h
      · rw [List.getElem?_eq_none h] at he
        cases he
    have he2 : env[i].1 = v := by rw [List.getElem?_eq_getElem hi2] at he; simpa using he
    have hf := find_here HS.out hi2 he2
    rw [decide_eq_true he]
    obtain ⟨ad, A', c', rfl, x0, x1, y2, y3⟩ := bind_at HC.out hi2
    have x1' : w1.cell? ⟨(ad.add (i * 2)).block, (ad.add (i * 2)).off + 1, none⟩ = some (.slice A' env[i].2.length c') := (B1.out.cell (World.block_lt_of_cell? _ _ x1)).trans x1
    have HF := Aside0.mk hf
    have H3 := Aside0.mk y3
    clear x0 x1 he he2 hf y3
    generalize env[i].2 = L at *
    go_wp2_with fail
    go_ret2
    refine ⟨L, A', c', by rw [HF.out]; rfl, by rw [HF.out]; rfl, y2, H3.out, B1.out⟩
  · have hf := find_gone HS.out H1.out H2.out he
    rw [decide_eq_false he]
    have HF := Aside0.mk hf
    clear he hf
    go_wp2_with fail
    go_ret2
    refine ⟨[], none, 0, by rw [HF.out]; rfl, by rw [HF.out]; rfl, Nat.le_refl _, Kd.C_nil kI w, B1.out⟩
set_option maxHeartbeats 4000000 in
/-- Of: a copy. -/
theorem Of_calls {W w : World} {rs : List Res} (hM : Sep W w rs) {A : Option Addr} {c : Nat} {env : List (Int × Ex)} (v : Int) (hC : Kd.C kB w A env.length env) (hs : Rising env) (hl : env.length ≤ 4611686018427387903) (hsh : ∀ b ∈ env, b.2.length ≤ 1099511627776) :
    Calls Tryz.prog 85 #[.agg #[.slice A env.length c], .int .i64 v] w fun e w' => ∃ (L : Ex) (A' : Option Addr) (c' : Nat), L = (find env v).getD [] ∧ e = .returned (.tuple #[.slice A' L.length c', .bool (find env v).isSome]) ∧ L.length ≤ c' ∧ Below w.heap.size w w' ∧ Sep W w' (rowR 3 1 (.slice A' L.length c') L.length (L.map num) :: rs) := by
  have B0 := (Below.refl w.heap.size w).alloc (Nat.le_refl _) (Obj.cells #[.slice A env.length c] 103)
  have hC1 := Kd.C_below hC B0
  have hof := of_calls (c := c) v hC1 hs hl
  have hsl : ((find env v).getD []).length ≤ 1099511627776 := by
    cases hf : find env v with
    | none => simp
    | some e => exact hsh _ (find_mem hf)
  have HB := Aside0.mk B0
  have M := Aside0.mk (hM.alloc (Obj.cells #[.slice A env.length c] 103))
  clear hC hs hC1 B0 hsh hM
  go_enter Tryz.func85, Tryz.ntmps85
  go_wp2_with fail
  refine hof.mono ?_
  clear hof
  rintro e w1 ⟨L, A', c', hL, rfl, hc', hCL, hb⟩
  rw [← hL] at hsl
  have B1 := Aside0.mk (below_then HB.out HB.out.size hb)
  have hm := M.out.below hb
  have hCL1 := Kd.C_below hCL hb
  have HL := Aside0.mk hL
  clear HB hb hCL hL M
  obtain ⟨q, hq⟩ : ∃ q, q = (find env v).isSome := ⟨_, rfl⟩
  rw [← hq]
  have HQ := Aside0.mk hq
  clear hq
  have hcl := clone_calls (c := c') (Sep.start w1) hCL1 hsl
  have M := Aside0.mk hm
  clear hm hCL1
  go_wp2_with fail
  refine hcl.mono ?_
  clear hcl
  rintro e w2 ⟨A2, c2, rfl, hc2, hm2⟩
  have M2 := Aside0.mk (sep_over M.out hm2)
  have B2 := Aside0.mk (below_then B1.out B1.out.size hm2.1)
  clear hm2 M B1
  go_wp2_with fail
  go_ret2
  exact ⟨L, A2, c2, HL.out, by rw [← HQ.out]; rfl, hc2, B2.out, M2.out⟩
end Go.Proofs.YtcfocbfocemapaaGreat.SubB

namespace Go.Proofs.YtcfocbfocemapaaGreat.SubC
open Go.RowKit Go.Maps Go.Lib Go.Proofs.YtcfocbfocemapaaGreat.Sep Go.Proofs.YtcfocbfocemapaaGreat.Mem Go.Proofs.YtcfocbfocemapaaGreat.Sets Go.Proofs.YtcfocbfocemapaaGreat.PlayP Go.Proofs.YtcfocbfocemapaaGreat.PStackPlays Go.Proofs.YtcfocbfocemapaaGreat.DistC Go.Proofs.YtcfocbfocemapaaGreat.LibC Go.Proofs.YtcfocbfocemapaaGreat.SubA Go.Proofs.YtcfocbfocemapaaGreat.SubB
open Go.Proofs.YtcfocbfocemapaaGreatW.PrintWords Go.Proofs.YtcfocbfocemapaaGreatW.PrintLast Go.Proofs.YtcfocbfocemapaaGreatW.PrintMore
attribute [local go_sem] max2_int min2_int max_two min_two
set_option linter.unusedVariables false
set_option linter.unusedSimpArgs false
set_option maxRecDepth 100000

theorem putL_take {env : List (Int × Ex)} {e : Ex} {i : Nat} (h : i < e.length) : putL env (e.take (i + 1)) = putL env (e.take i) ++ (find env e[i]).getD [e[i]] := by
  rw [List.take_succ_eq_append_getElem h, putL_append, putL_cons, putL_nil, List.append_nil]
theorem putL_le (env : List (Int × Ex)) (e : Ex) (i : Nat) : (putL env (e.take i)).length ≤ (putL env e).length := by
  have : putL env e = putL env (e.take i) ++ putL env (e.drop i) := by rw [← putL_append, List.take_append_drop]
  rw [this, List.length_append]
  omega
/-- A length, saturated. -/
def satN (n : Nat) : Nat := if 201 ≤ n then 201 else n
set_option maxHeartbeats 8000000 in
theorem size_calls {w : World} {A B : Option Addr} {c d : Nat} {env : List (Int × Ex)} {x : Ex} (hC : Kd.C kB w A env.length env) (hs : Rising env) (hl : env.length ≤ 4611686018427387903) (hX : Kd.C kI w B x.length x) (hxl : x.length ≤ 4194304) (hsh : ∀ b ∈ env, b.2.length ≤ 4194304) :
    Calls Tryz.prog 80 #[.agg #[.slice A env.length c], .slice B x.length d] w fun e w' => e = .returned (.int .i64 (satN (putL env x).length : Int)) ∧ Below w.heap.size w w' := by
  have hb0 := (Below.refl w.heap.size w).alloc (Nat.le_refl _) (Obj.cells #[.slice A env.length c] 103)
  have hcell : (w.alloc (Obj.cells #[.slice A env.length c] 103)).cell? ⟨w.heap.size, 0, none⟩ = some (.slice A env.length c) := by simp
  have HC := Aside0.mk hC
  have HX := Aside0.mk hX
  have HS := Aside0.mk hs
  have HSH := Aside0.mk hsh
  have B0 := Aside0.mk hb0
  have H0 := Aside0.mk hcell
  clear hC hX hs hsh hb0 hcell
  go_enter Tryz.func80, Tryz.ntmps80
  go_wp2_with fail
  go_loopw [5, 7, 8, 9, 10, 13] (fun v5 v7 v8 v9 v10 v13 wr => ∃ (i : Nat), i ≤ x.length ∧ v13 = .int .i64 i ∧ v5 = .int .i64 ((putL env (x.take i)).length : Int) ∧ (putL env (x.take i)).length < 201 ∧ Aside0 (Below w.heap.size w wr) ∧ Aside0 (wr.cell? ⟨w.heap.size, 0, none⟩ = some (.slice A env.length c))) (fun _ _ _ _ _ v13 _ => x.length - (intOf v13).toNat)
  case atStart => exact ⟨0, by omega, rfl, by rw [List.take_zero, putL_nil]; rfl, by rw [List.take_zero, putL_nil]; decide, B0, H0⟩
  case round =>
    clear B0 H0
    obtain ⟨i, hi, rfl, rfl, hn, B, H⟩ := hrel
    by_cases hlt : i < x.length
    · obtain ⟨ad, rfl, x0⟩ := int_at (Kd.C_below HX.out B.out) hlt
      have hp := Aside0.mk (putL_take (env := env) hlt)
      have hle := Aside0.mk (putL_le env x (i + 1))
      generalize x[i] = y at x0 hp
      have hof := of_calls (c := c) y (Kd.C_below HC.out B.out) HS.out hl
      have hlt2 : w.heap.size < wr.heap.size := World.block_lt_of_cell? _ _ H.out
      have p0 := H.out
      have hshy : ((find env y).getD []).length ≤ 4194304 := by
        cases hf : find env y with
        | none => simp
        | some e => exact HSH.out _ (find_mem hf)
      go_wp2_with fail
      refine hof.mono ?_
      clear hof x0
      rintro e w1 ⟨L, A', c', hL, rfl, hc', hCL, hb⟩
      have B1 := Aside0.mk (below_then B.out B.out.size hb)
      have p1 : w1.cell? ⟨w.heap.size, 0, none⟩ = some (.slice A env.length c) := (hb.cell hlt2).trans p0
      rw [← hL] at hshy
      clear B H hb hCL p0
      cases hf : find env y with
      | none =>
        rw [hf] at hp hL
        have hlen : (putL env (x.take (i + 1))).length = (putL env (x.take i)).length + 1 := by rw [hp.out]; simp
        obtain rfl : L = [] := hL
        have HLEN := Aside0.mk hlen
        clear hp hlen hshy
        generalize (putL env (x.take i)).length = n at *
        by_cases h2 : n + 1 < 201
        · have h3 : ¬ ((n : Int) + 1 ≥ 201) := by omega
          have h4 : ¬ ((201 : Int) ≤ (n : Int) + 1) := by omega
          go_wp2_with fail
          go_roundw
          case rel => exact ⟨i + 1, by omega, by go_num, by rw [HLEN.out]; go_num, by rw [HLEN.out]; omega, B1, ⟨p1⟩⟩
          case measure => simp [intOf]; omega
        · have h3 : (n : Int) + 1 ≥ 201 := by omega
          have h4 : (201 : Int) ≤ (n : Int) + 1 := by omega
          go_wp2_with fail
          go_ret
          have : satN (putL env x).length = 201 := by
            unfold satN
            have h5 := hle.out
            rw [HLEN.out] at h5
            rw [if_pos (by omega)]
          rw [this]
          exact ⟨rfl, B1.out⟩
      | some e =>
        rw [hf] at hp hL
        obtain rfl : L = e := hL
        have hlen : (putL env (x.take (i + 1))).length = (putL env (x.take i)).length + L.length := by rw [hp.out]; simp
        have HLEN := Aside0.mk hlen
        clear hp hlen hf
        generalize (putL env (x.take i)).length = n at *
        generalize L.length = m at *
        by_cases hm : 201 < m
        · have hm1 : (201 : Int) < (m : Int) := by omega
          have h3 : (n : Int) + 201 ≥ 201 := by omega
          have h4 : (201 : Int) ≤ (n : Int) + 201 := by omega
          go_wp2_with fail
          go_ret
          have : satN (putL env x).length = 201 := by
            unfold satN
            have h5 := hle.out
            rw [HLEN.out] at h5
            rw [if_pos (by omega)]
          rw [this]
          exact ⟨rfl, B1.out⟩
        · have hm1 : ¬ (201 : Int) < (m : Int) := by omega
          have hm2 : ¬ (m : Int) < 0 := by omega
          by_cases h2 : n + m < 201
          · have h3 : ¬ ((n : Int) + (m : Int) ≥ 201) := by omega
            have h4 : ¬ ((201 : Int) ≤ (n : Int) + (m : Int)) := by omega
            go_wp2_with fail
            go_roundw
            case rel => exact ⟨i + 1, by omega, by go_num, by rw [HLEN.out]; go_num, by rw [HLEN.out]; omega, B1, ⟨p1⟩⟩
            case measure => simp [intOf]; omega
          · have h3 : (n : Int) + (m : Int) ≥ 201 := by omega
            have h4 : (201 : Int) ≤ (n : Int) + (m : Int) := by omega
            go_wp2_with fail
            go_ret
            have : satN (putL env x).length = 201 := by
              unfold satN
              have h5 := hle.out
              rw [HLEN.out] at h5
              rw [if_pos (by omega)]
            rw [this]
            exact ⟨rfl, B1.out⟩
    · have hie : i = x.length := by omega
      subst hie
      rw [List.take_length] at hn ⊢
      go_wp2_with fail
      go_ret
      have : satN (putL env x).length = (putL env x).length := by
        unfold satN
        rw [if_neg (by omega)]
      rw [this]
      exact ⟨rfl, B.out⟩

/-- 'make([]int, 0, n)' at the operation. -/
theorem wp_make0 {ops : Array Oper} {rest : List Oper} {o : Oper} {a : Act} {Q : Exit → Act → World → Prop} {W w : World} {rs : List Res} (M : Sep W w rs) (hgd : o.guard = none) (lo co : Operand) (t e : TypeId) {z : Value} {size b : Nat} (hop : o.op = Op.makeSlice t lo co) (ht : Tryz.prog.underlying t = some (.slice e))
    (hi : (Tryz.prog.info? e).map (fun i => (i.zero, i.size, i.bytes)) = some (some z, size, b)) {n : Nat} (hl : a.eval lo = .int .i64 0) (hc : a.eval co = .int .i64 (n : Int)) (hb : b ≤ 64) (hn : n ≤ 1099511627776)
    (h : ∀ w', Below w.heap.size w w' → Sep W w' (rowR e size (.slice (some ⟨w.heap.size, 0, none⟩) 0 n) 0 [] :: rs) → wpList Tryz.prog ops Q rest (a.put o.dst (.slice (some ⟨w.heap.size, 0, none⟩) 0 n)) w') : wpList Tryz.prog ops Q (o :: rest) a w := by
  obtain ⟨i0, hi0, hz0, hz1, hz2⟩ := info_parts hi
  refine wpList_make_own w hgd lo co t hop 0 e i0 z size ht hi0 hz0 hz1 .i64 .i64 (n : Int) n hl hc rfl ?_ (by unfold maxLen; omega) (Nat.zero_le _) ?_
  · rw [hz2]
    have : b * n ≤ 64 * n := Nat.mul_le_mul_right _ hb
    omega
  intro w' hown hgrow
  refine h w' ((Below.refl _ w).grown hgrow (Nat.le_refl _) (fun k hk => by cases hk)) (M.fresh (f := fun k => w.heap.size ≤ k) (Turns.of_grown hgrow (fun k hk => by cases hk)) ⟨hown, fun k hk => ?_⟩ (fun _ hk => hk))
  have : w.heap.size = k := by simpa [Value.ownBlock] using hk
  omega
/-- What Apply answers. -/
def ApplyOut (W w : World) (rs : List Res) (L : Ex) (e : Ending) (w' : World) : Prop :=
  if 200 < L.length then e = .returned (.tuple #[.slice none 0 0, .int .i64 31]) ∧ Below w.heap.size w w' ∧ Sep W w' rs
  else ∃ A' c', e = .returned (.tuple #[.slice A' L.length c', .int .i64 0]) ∧ L.length ≤ c' ∧ Below w.heap.size w w' ∧ Sep W w' (rowR 3 1 (.slice A' L.length c') L.length (L.map num) :: rs)
set_option maxHeartbeats 8000000 in
theorem apply_sep {w : World} {A B : Option Addr} {c d : Nat} {env : List (Int × Ex)} {x : Ex} (hC : Kd.C kB w A env.length env) (hs : Rising env) (hl : env.length ≤ 4611686018427387903) (hX : Kd.C kI w B x.length x) (hxl : x.length ≤ 4194304) (hsh : ∀ b ∈ env, b.2.length ≤ 4194304) :
    Calls Tryz.prog 57 #[.agg #[.slice A env.length c], .slice B x.length d] w (ApplyOut w w [] (putL env x)) := by
  have hb0 := (Below.refl w.heap.size w).alloc (Nat.le_refl _) (Obj.cells #[.slice A env.length c] 103)
  have hcell : (w.alloc (Obj.cells #[.slice A env.length c] 103)).cell? ⟨w.heap.size, 0, none⟩ = some (.slice A env.length c) := by simp
  have hlt0 : w.heap.size < (w.alloc (Obj.cells #[.slice A env.length c] 103)).heap.size := by simp
  have hsz := size_calls (c := c) (d := d) (Kd.C_below hC hb0) hs hl (Kd.C_below hX hb0) hxl hsh
  have HC := Aside0.mk hC
  have HX := Aside0.mk hX
  have HS := Aside0.mk hs
  have HSH := Aside0.mk hsh
  have B0 := Aside0.mk hb0
  have Mb := Aside0.mk (box_fresh (Sep.start w) 103 #[.slice A env.length c])
  have H0 := Aside0.mk hcell
  clear hC hX hs hsh hb0 hcell
  go_enter Tryz.func57, Tryz.ntmps57
  go_wp2_with fail
  refine hsz.mono ?_
  clear hsz
  rintro e w1 ⟨rfl, hb⟩
  have p0 : w1.cell? ⟨w.heap.size, 0, none⟩ = some (.slice A env.length c) := (hb.cell hlt0).trans H0.out
  have B1 := Aside0.mk (below_then B0.out B0.out.size hb)
  have M0 := Aside0.mk (Mb.out.below hb)
  clear B0 H0 hb hlt0 Mb
  by_cases hbig : 200 < (putL env x).length
  · have e1 : satN (putL env x).length = 201 := by unfold satN; rw [if_pos (by omega)]
    rw [e1]
    go_wp2_with fail
    go_ret2
    unfold ApplyOut
    rw [if_pos hbig]
    exact ⟨rfl, B1.out, M0.out.tail⟩
  · have e1 : satN (putL env x).length = (putL env x).length := by unfold satN; rw [if_neg (by omega)]
    rw [e1]
    have hne : ((putL env x).length : Int) ≠ 201 := by omega
    have hne2 : (((putL env x).length : Int) == 201) = false := by simpa using hne
    have HPL := Aside0.mk (putL_le env x)
    obtain ⟨T, hT⟩ : ∃ T, T = putL env x := ⟨_, rfl⟩
    rw [← hT] at hbig hne hne2 HPL ⊢
    have HT := Aside0.mk hT
    clear hT
    have M1 := Aside0.mk M0.out
    go_wp2_with (at_make; refine wp_make0 M1.out rfl _ _ 24 3 rfl Tryz.underlying24 info3 rfl rfl (by omega) (by omega) ?_; intro w2 hb2 hm2; have p0 : w2.cell? ⟨w.heap.size, 0, none⟩ = some (.slice A env.length c) := (hb2.cell (World.block_lt_of_cell? _ _ p0)).trans p0; clear M1 B1 hb2 M0; have M := Aside0.mk hm2; clear hm2)
    have P0 := Aside0.mk p0
    clear p0
    go_loopw [7, 9, 10, 11, 21] (fun v7 v9 v10 v11 v21 wr => ∃ (i n : Nat) (A7 : Option Addr) (c7 : Nat), i ≤ x.length ∧ v21 = .int .i64 i ∧ v7 = .slice A7 n c7 ∧ n ≤ c7 ∧ n = (putL env (x.take i)).length ∧
      Aside0 (Sep w wr (rowR 3 1 (.slice A7 n c7) n ((putL env (x.take i)).map num) :: [boxR w.heap.size 103 #[.slice A env.length c]]))) (fun _ _ _ _ v21 _ => x.length - (intOf v21).toNat)
    case atStart => exact ⟨0, 0, some ⟨w1.heap.size, 0, none⟩, T.length, by omega, rfl, rfl, by omega, by rw [List.take_zero]; rfl, ⟨by rw [List.take_zero]; exact M.out⟩⟩
    case round =>
      clear M P0
      obtain ⟨i, n, A7, c7, hi, rfl, rfl, hc7, hn, M⟩ := hrel
      have B := Aside0.mk M.out.1
      have HN := Aside0.mk hn
      have hnT : n ≤ T.length := by rw [hn]; exact HPL.out i
      clear hn
      by_cases hlt : i < x.length
      · obtain ⟨ad, rfl, x0⟩ := int_at (Kd.C_below HX.out B.out) hlt
        have hp := Aside0.mk (putL_take (env := env) hlt)
        have hle := HPL.out (i + 1)
        have HLE := Aside0.mk hle
        clear hle
        generalize x[i] = y at x0 hp
        have hof := of_calls (c := c) y (Kd.C_below HC.out B.out) HS.out hl
        have p0 := (box_cell (M.out.pull 1 (by simp)) (j := 0) rfl).1
        go_wp2_with fail
        refine hof.mono ?_
        clear hof x0 p0
        rintro e w3 ⟨L, A', c', hL, rfl, hc', hCL, hb⟩
        have hm := M.out.below hb
        have hCL2 := Kd.C_below hCL hb
        clear M hb hCL
        have M := Aside0.mk hm
        clear hm
        cases hf : find env y with
        | none =>
          rw [hf] at hp hL
          obtain rfl : L = [] := hL
          have hmap := Aside0.mk (show (putL env (x.take (i + 1))).map num = (putL env (x.take i)).map num ++ [num y] by rw [hp.out]; simp)
          have hlen := Aside0.mk (show (putL env (x.take (i + 1))).length = (putL env (x.take i)).length + 1 by rw [hp.out]; simp)
          clear hp hCL2
          have hnn : n ≤ 200 := by omega
          go_wp2_with (at_builtin; refine wp_one (M.out.alloc (.cells #[.int .i64 y] 3)) rfl _ _ 24 rfl Tryz.underlying24 info3 rfl rfl rfl (new_cell _ _ _) rfl (by omega) (by omega) ?_; intro A8 c8 w4 hc8 hm4; clear M; have M := Aside0.mk hm4; clear hm4)
          go_roundw
          case rel => exact ⟨i + 1, n + 1, A8, c8, by omega, by go_num, rfl, hc8, by rw [hlen.out, ← HN.out], ⟨by rw [hmap.out]; exact M.out⟩⟩
          case measure => simp [intOf]; omega
        | some e =>
          rw [hf] at hp hL
          obtain rfl : L = e := hL
          have hmap := Aside0.mk (show (putL env (x.take (i + 1))).map num = (putL env (x.take i)).map num ++ L.map num by rw [hp.out]; simp)
          have hlen := Aside0.mk (show (putL env (x.take (i + 1))).length = (putL env (x.take i)).length + L.length by rw [hp.out]; simp)
          have hLL : n + L.length ≤ 200 := by
            have h1 := HLE.out
            rw [hlen.out, ← HN.out] at h1
            omega
          obtain ⟨k0, k1⟩ := Ci_all hCL2
          have K0 := Aside0.mk k0
          have K1 := Aside0.mk k1
          clear hp hCL2 hf k0 k1
          go_wp2_with (at_builtin; refine wp_cells M.out rfl _ _ 24 rfl Tryz.underlying24 info3 rfl (by omega) rfl (A := A') (m := L.length) (news := L.map num) rfl (by rw [List.length_map, Nat.mul_one]) K0.out K1.out (fun u hu => ?qd) (by omega) (by omega) ?_)
          case qd =>
            obtain ⟨z, _, rfl⟩ := List.mem_map.1 hu
            rfl
          intro A8 c8 w4 hc8 hm4
          clear M K0 K1
          have M := Aside0.mk hm4
          clear hm4
          go_wp2_with fail
          go_roundw
          case rel => exact ⟨i + 1, n + L.length, A8, c8, by omega, by go_num, rfl, hc8, by rw [hlen.out, ← HN.out], ⟨by rw [hmap.out]; exact M.out⟩⟩
          case measure => simp [intOf]; omega
      · have hie : i = x.length := by omega
        subst hie
        have hn := HN.out
        rw [List.take_length, ← HT.out] at M hn
        subst hn
        go_wp2_with fail
        go_ret2
        unfold ApplyOut
        rw [← HT.out, if_neg hbig]
        exact ⟨A7, c7, rfl, hc7, M.out.1, M.out.swap.tail⟩
theorem apply_calls {W w : World} {rs : List Res} (hM : Sep W w rs) {A B : Option Addr} {c d : Nat} {env : List (Int × Ex)} {x : Ex} (hC : Kd.C kB w A env.length env) (hs : Rising env) (hl : env.length ≤ 4611686018427387903) (hX : Kd.C kI w B x.length x) (hxl : x.length ≤ 4194304) (hsh : ∀ b ∈ env, b.2.length ≤ 4194304) :
    Calls Tryz.prog 57 #[.agg #[.slice A env.length c], .slice B x.length d] w (ApplyOut W w rs (putL env x)) := by
  refine (apply_sep (c := c) (d := d) hC hs hl hX hxl hsh).mono ?_
  intro e w' h
  unfold ApplyOut at h ⊢
  split
  · rename_i hb
    rw [if_pos hb] at h
    exact ⟨h.1, h.2.1, hM.below h.2.1⟩
  · rename_i hb
    rw [if_neg hb] at h
    obtain ⟨A', c', h1, h2, h3, h4⟩ := h
    exact ⟨A', c', h1, h2, h3, sep_over hM h4⟩
end Go.Proofs.YtcfocbfocemapaaGreat.SubC
