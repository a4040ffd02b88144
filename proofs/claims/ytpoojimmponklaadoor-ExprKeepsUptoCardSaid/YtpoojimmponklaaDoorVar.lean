/- Var declares a variable, or makes it active again. -/
import Derived.Test.YtpoojimmponklaaDoorPut
import Derived.Deep.AppendLies
import Derived.IntWalk
import Derived.Test.YtpoojimmponklaaDoorWTab
namespace Go.Proofs.YtpoojimmponklaaDoor.SymVar
open Go.RowKit Go.Maps Go.Proofs.YtpoojimmponklaaDoor.SymTab Go.Proofs.YtpoojimmponklaaDoor.SymHeap Go.Proofs.YtpoojimmponklaaDoor.SymReads Go.Proofs.YtpoojimmponklaaDoor.SymAdd Go.Proofs.YtpoojimmponklaaDoor.SymConst Go.Proofs.YtpoojimmponklaaDoor.SymScan Go.Proofs.YtpoojimmponklaaDoor.SymPut
open Go.Proofs.YtpoojimmponklaaDoorW.PrintWords (Aside0 Drawn0 own_move)
open Go.Proofs.YtpoojimmponklaaDoorW.PrintLast
set_option linter.unusedSimpArgs false
set_option linter.unusedVariables false

theorem info3 : (Tryd.prog.info? 3).map (fun i => (i.zero, i.size, i.bytes)) = some (some (.int .i64 0), 1, 8) := by kernel_rfl
theorem cell_far {w w3 : World} {a : Addr} (h : w3.heap[a.block]? = w.heap[a.block]?) : w3.cell? a = w.cell? a ∧ w3.frozen? a = w.frozen? a := by
  constructor
  · simp [World.cell?, h]
  · simp [World.frozen?, h]

theorem last_split {α : Type} {l : List α} (h : 0 < l.length) : ∃ a x, l = a ++ [x] := ⟨l.dropLast, l.getLast (by intro e; rw [e] at h; simp at h), (List.dropLast_concat_getLast _).symm⟩
/-- The innermost scope in memory. -/
theorem last_facts {w : World} {p g : Nat} {T : Tab} {q : Parts} (h : Holds w p g T q) (hs : 0 < T.scopes.length) :
    ∃ ls xs us v sb cap A3 cap3, T.scopes = ls ++ [xs] ∧ q.vals = us ++ [v] ∧ q.vc = .slice (some ⟨sb, 0, none⟩) T.scopes.length cap ∧ v = .slice A3 xs.length cap3 ∧
      w.cell? ⟨p, 3, none⟩ = some (.slice (some ⟨sb, 0, none⟩) T.scopes.length cap) ∧ w.cell? ⟨sb, T.scopes.length - 1, none⟩ = some (.slice A3 xs.length cap3) ∧ w.frozen? ⟨sb, T.scopes.length - 1, none⟩ = false ∧
      p < w.heap.size ∧ sb < w.heap.size ∧ v.ownBlock ≠ some p ∧ v.ownBlock ≠ some sb ∧ w.ownsRow 0 3 1 v xs.length (numRow xs) := by
  obtain ⟨ls, xs, hT⟩ := last_split hs
  have hvl := h.vars.1
  obtain ⟨us, v, hq⟩ := last_split (l := q.vals) (by rw [hvl]; exact hs)
  have hv := h.vars
  rw [hT, hq] at hv
  obtain ⟨hv1, hv2, hv3⟩ := vars_split hv
  obtain ⟨A3, cap3, e3, _⟩ := row_slice hv2
  obtain ⟨sb, cap, ec, _, hcell, hfz, cur, hcur⟩ := row_some h.scopes hs
  have htsb : tyOf w sb = some 90 := tyOf_cells hcur
  have hm : T.scopes.length - 1 = us.length := by rw [hT]; simp; exact hv1.1.symm
  refine ⟨ls, xs, us, v, sb, cap, A3, cap3, hT, hq, ec, e3, ?_, ?_, hfz _, h.lt p (.inl rfl), (Array.getElem?_eq_some_iff.1 hcur).1, fun e => ne_ty (tyOf_row hv2 e) h.tp (by decide) rfl, fun e => ne_ty (tyOf_row hv2 e) htsb (by decide) rfl, hv2⟩
  · rw [(cell_at h.cells 3).1, ← ec]
    rfl
  · rw [← e3]
    refine hcell _ _ ?_
    rw [hq, hm]
    simp

theorem nodup_le {l : List Nat} {n : Nat} (hd : l.Nodup) (h : ∀ x ∈ l, x < n) : l.length ≤ n := by
  induction n generalizing l with
  | zero =>
    cases l with
    | nil => simp
    | cons x l => exact absurd (h x (by simp)) (by omega)
  | succ n ih =>
    have h1 : (l.filter (fun x => decide (x < n))).length ≤ n := ih (hd.filter _) (fun x hx => by simpa using (List.mem_filter.1 hx).2)
    have h2 : l.length = (l.filter (fun x => decide (x < n))).length + (l.filter (fun x => !decide (x < n))).length := by
      rw [← List.length_append]
      exact (List.filter_append_perm _ l).length_eq.symm
    have h3 : (l.filter (fun x => !decide (x < n))).length ≤ 1 := by
      have hn : (l.filter (fun x => !decide (x < n))).Nodup := hd.filter _
      have ha : ∀ x ∈ l.filter (fun x => !decide (x < n)), x = n := fun x hx => by
        have h4 := List.mem_filter.1 hx
        have h5 := h x h4.1
        have h6 : ¬ x < n := by simpa using h4.2
        omega
      cases hl : l.filter (fun x => !decide (x < n)) with
      | nil => simp
      | cons a r =>
        cases r with
        | nil => simp
        | cons b r =>
          rw [hl] at hn ha
          have e1 := ha a (by simp)
          have e2 := ha b (by simp)
          subst e1
          simp [e2] at hn
    omega

set_option maxHeartbeats 4000000 in
set_option maxRecDepth 100000 in
theorem var_old_out {w : World} (hb : Blanks w) {p g : Nat} {T : Tab} {q : Parts} (h : Holds w p g T q) (s : ByteArray) (hs : s.size ≤ maxLen) (hg : g + 2 < maxLen) (hsym : symOk s = true) (hact : T.act s = none) (n : Nat) (hn : idx T.syms s = some n) (hn2 : n < 512) (hdeep : T.scopes.length ≤ 16) (hsc : T.scopes.length = 0) :
    Calls Tryd.prog 22 #[.pointer (some ⟨p, 0, none⟩), .string s] w fun e w' => e = .returned (.tuple #[.int .i64 (n : Int), .int .i64 0]) ∧ TabSteps w w' p (g + 2) (activate T s n) q := by
  have H := Aside0.mk h
  have c1 := (cell_at h.cells 1).1
  have c2 := (cell_at h.cells 2).1
  simp only [List.getElem?_toArray, List.getElem?_cons_zero, List.getElem?_cons_succ] at c1 c2
  have hl1 := h.numbers.look hs
  have hl2 := h.active.look hs
  rw [hn] at hl1
  rw [hact] at hl2
  simp only [num, Option.isSome_some, Option.isSome_none] at hl1 hl2
  have Hb := Lib.hid hb
  have hsy := symbol_calls Hb.out s hs
  rw [hsym] at hsy
  have Hn := Lib.hid hn
  have Hsym := Lib.hid hsym
  clear h hb hsym hact hn
  have Hsc := Lib.hid hsc
  clear hsc
  go_enter Tryd.func22, Tryd.ntmps22
  go_wp2_with (first
    | (go_at_call 58; refine hsy.mono ?_; rintro e w' ⟨rfl, hw'⟩; obtain rfl := hw'.symm)
    | (at_mapUpdate; refine wp_store (n := n) rfl _ _ _ rfl rfl rfl rfl H.out.active hs (by omega) (by omega) ?_; intro w2 hm2 hg2
       have h2 := holds_act H.out hg2 hm2 (by omega)
       have Ht2 := Aside0.mk (Turns.of_grown (fp := q.has p) hg2 (fun k hk => by have := Option.some.inj hk; subst this; exact .inr (.inr (.inl rfl))))
       obtain ⟨A3, cap3, e3', _⟩ := row_slice h2.scopes
       have e3 := (cell_at h2.cells 3).1
       simp only [List.getElem?_toArray, List.getElem?_cons_zero, List.getElem?_cons_succ, e3'] at e3
       replace e3 : w2.cell? ⟨p, 3, none⟩ = some (.slice A3 0 cap3) := by rw [e3]; exact congrArg (fun z => some (Value.slice A3 z cap3)) Hsc.out
       have H2 := Aside0.mk h2
       clear h2 hm2 hg2 e3' c1 c2 hl1 hl2))
  go_ret2
  refine ⟨rfl, ?_⟩
  have h2 := H2.out
  obtain ⟨q', a, b, c⟩ := steps_refl h2
  have ha : addLast T.scopes n = T.scopes := by have := Hsc.out; cases hl : T.scopes with | nil => rfl | cons x l => rw [hl] at this; simp at this
  have ht : activate T s n = { T with act := upd T.act s n } := by unfold activate; rw [show T.scopes = T.scopes from rfl, ha]
  rw [ht]
  refine ⟨q', a.more (by omega), fun k hk => ?_, ?_⟩
  · rcases b k hk with hk | hk
    · exact .inl hk
    · exact .inr (Nat.le_trans Ht2.out.size hk)
  · exact Turns.trans (Turns.refl (q.has p) w) (Turns.trans Ht2.out c (fun _ hk => .inl hk)) (fun k hk => .inl hk)

set_option maxHeartbeats 4000000 in
set_option maxRecDepth 100000 in
theorem var_old_in {w : World} (hb : Blanks w) {p g : Nat} {T : Tab} {q : Parts} (h : Holds w p g T q) (s : ByteArray) (hs : s.size ≤ maxLen) (hg : g + 2 < maxLen) (hsym : symOk s = true) (hact : T.act s = none) (n : Nat) (hn : idx T.syms s = some n) (hn2 : n < 512) (hdeep : T.scopes.length ≤ 16) (hsc : 0 < T.scopes.length) (hx : ∀ l ∈ T.scopes, l.length ≤ 512) :
    Calls Tryd.prog 22 #[.pointer (some ⟨p, 0, none⟩), .string s] w fun e w' => e = .returned (.tuple #[.int .i64 (n : Int), .int .i64 0]) ∧ TabSteps w w' p (g + 2) (activate T s n) q := by
  have H := Aside0.mk h
  have c1 := (cell_at h.cells 1).1
  have c2 := (cell_at h.cells 2).1
  simp only [List.getElem?_toArray, List.getElem?_cons_zero, List.getElem?_cons_succ] at c1 c2
  have hl1 := h.numbers.look hs
  have hl2 := h.active.look hs
  rw [hn] at hl1
  rw [hact] at hl2
  simp only [num, Option.isSome_some, Option.isSome_none] at hl1 hl2
  have Hb := Lib.hid hb
  have hsy := symbol_calls Hb.out s hs
  rw [hsym] at hsy
  have Hn := Lib.hid hn
  have Hsym := Lib.hid hsym
  clear h hb hsym hact hn
  have hsc' : (0 : Int) < (T.scopes.length : Int) := by omega
  have hd' : (T.scopes.length : Int) ≤ 16 := by omega
  go_enter Tryd.func22, Tryd.ntmps22
  go_wp2_with (first
    | (go_at_call 58; refine hsy.mono ?_; rintro e w' ⟨rfl, hw'⟩; obtain rfl := hw'.symm)
    | (at_mapUpdate; refine wp_store (n := n) rfl _ _ _ rfl rfl rfl rfl H.out.active hs (by omega) (by omega) ?_; intro w2 hm2 hg2
       have h2 := holds_act H.out hg2 hm2 (by omega)
       have Ht2 := Aside0.mk (Turns.of_grown (fp := q.has p) hg2 (fun k hk => by have := Option.some.inj hk; subst this; exact .inr (.inr (.inl rfl))))
       obtain ⟨ls, xs, us, v, sb, cap, A3, cap3, hT, hq, hvc, hv, e3, ev, fv, hpl2, hsl2, hne, hne2, ho2⟩ := last_facts h2 hsc
       subst hv
       have hxs : xs.length ≤ 512 := hx xs (by have hT' : T.scopes = ls ++ [xs] := hT; rw [hT']; simp)
       have HT := Aside0.mk hT
       have Hq := Aside0.mk hq
       have Hvc := Aside0.mk hvc
       have H2 := Aside0.mk h2
       have Ho2 := Aside0.mk ho2
       obtain ⟨i0, hi, hz0, hz1, hz2⟩ := info_parts info3
       have HI := Aside0.mk hi
       have Hz0 := Aside0.mk hz0
       have Hz1 := Aside0.mk hz1
       have Hz2 := Aside0.mk hz2
       have Hne := Aside0.mk hne
       have Hne2 := Aside0.mk hne2
       clear hi hz0 hz1 hz2 hT hq hvc h2 ho2 hne hne2 hm2 hg2 c1 c2 hl1 hl2
       have hk1 : (0 : Int) ≤ (T.scopes.length : Int) - 1 := by omega
       have hk1' : (1 : Int) ≤ (T.scopes.length : Int) := by omega
       have hk2 : (T.scopes.length : Int) - 1 < (T.scopes.length : Int) := by omega
       have hk3 : IntKind.i64.wrap ((T.scopes.length : Int) - 1) = (T.scopes.length : Int) - 1 := IntWalk.i64_in _ (by omega)
       have hk4 : ((T.scopes.length : Int) - 1).toNat = T.scopes.length - 1 := by omega
       replace e3 : w2.cell? ⟨p, 3, none⟩ = some (.slice (some ⟨sb, 0, none⟩) T.scopes.length cap) := e3
       replace ev : w2.cell? ⟨sb, T.scopes.length - 1, none⟩ = some (.slice A3 xs.length cap3) := ev
       replace fv : w2.frozen? ⟨sb, T.scopes.length - 1, none⟩ = false := fv))
  refine start_ (n := 21) (S := fun w' => w'.cell? ⟨p, 3, none⟩ = some (.slice (some ⟨sb, 0, none⟩) T.scopes.length cap) ∧ w'.cell? ⟨sb, T.scopes.length - 1, none⟩ = some (.slice A3 xs.length cap3)) (ds := [20]) #[false, false, false, false, false, false, false, false, false, false, false, false, false, false, false, false, false, false, false, false, false] (by kernel_rfl) rfl rfl ⟨e3, ev⟩ (fun hHeld => ?_)
  refine pure_ (i := 0) (N := some 58) (v := ?_) (a' := ?_) #[true, false, false, false, false, false, false, false, false, false, false, false, false, false, false, false, false, false, false, false, false] rfl rfl (by kernel_rfl) (fun _ _ _ h => h) (Or.inl ⟨by rfl, ?_⟩) ?_ ?_
  rotate_left
  · intro w'
    go_simp
    with_reducible rfl
  rotate_left
  · simp only [Act.put, List.setIfInBounds_toArray, List.set_cons_zero, List.set_cons_succ, i64_w, i32_w]
    rfl
  refine pure_ (i := 1) (N := some 59) (v := ?_) (a' := ?_) #[true, true, false, false, false, false, false, false, false, false, false, false, false, false, false, false, false, false, false, false, false] rfl rfl (by kernel_rfl) (fun _ _ _ h => h) (Or.inl ⟨by rfl, ?_⟩) ?_ ?_
  rotate_left
  · intro w'
    go_simp
    with_reducible rfl
  rotate_left
  · simp only [Act.put, List.setIfInBounds_toArray, List.set_cons_zero, List.set_cons_succ, i64_w, i32_w]
    rfl
  refine pure_ (i := 2) (N := some 60) (v := ?_) (a' := ?_) #[true, true, true, false, false, false, false, false, false, false, false, false, false, false, false, false, false, false, false, false, false] rfl rfl (by kernel_rfl) (fun _ _ _ h => h) (Or.inl ⟨by rfl, ?_⟩) ?_ ?_
  rotate_left
  · intro w'
    go_simp
    with_reducible rfl
  rotate_left
  · simp only [Act.put, List.setIfInBounds_toArray, List.set_cons_zero, List.set_cons_succ, i64_w, i32_w]
    rfl
  refine take_ (i := 3) (N := some 61) (v := ?_) (a' := ?_) #[true, true, true, true, false, false, false, false, false, false, false, false, false, false, false, false, false, false, false, false, false] rfl rfl (by kernel_rfl) (fun _ _ _ h => h) (Or.inl ⟨by rfl, ?_⟩) hHeld ?_ ?_
  rotate_left
  · rintro w' ⟨s0, s1⟩
    go_simp
    with_reducible rfl
  rotate_left
  · simp only [Act.put, List.setIfInBounds_toArray, List.set_cons_zero, List.set_cons_succ, i64_w, i32_w]
    rfl
  refine pure_ (i := 4) (N := some 62) (v := ?_) (a' := ?_) #[true, true, true, true, true, false, false, false, false, false, false, false, false, false, false, false, false, false, false, false, false] rfl rfl (by kernel_rfl) (fun _ _ _ h => h) (Or.inl ⟨by rfl, ?_⟩) ?_ ?_
  rotate_left
  · intro w'
    go_simp
    with_reducible rfl
  rotate_left
  · simp only [Act.put, List.setIfInBounds_toArray, List.set_cons_zero, List.set_cons_succ, i64_w, i32_w]
    rfl
  refine pure_ (i := 5) (N := some 63) (v := ?_) (a' := ?_) #[true, true, true, true, true, true, false, false, false, false, false, false, false, false, false, false, false, false, false, false, false] rfl rfl (by kernel_rfl) (fun _ _ _ h => h) (Or.inl ⟨by rfl, ?_⟩) ?_ ?_
  rotate_left
  · intro w'
    go_simp
    with_reducible rfl
  rotate_left
  · simp only [Act.put, List.setIfInBounds_toArray, List.set_cons_zero, List.set_cons_succ, i64_w, i32_w]
    rfl
  refine pure_ (i := 6) (N := some 64) (v := ?_) (a' := ?_) #[true, true, true, true, true, true, true, false, false, false, false, false, false, false, false, false, false, false, false, false, false] rfl rfl (by kernel_rfl) (fun _ _ _ h => h) (Or.inl ⟨by rfl, ?_⟩) ?_ ?_
  rotate_left
  · intro w'
    go_simp
    with_reducible rfl
  rotate_left
  · simp only [Act.put, List.setIfInBounds_toArray, List.set_cons_zero, List.set_cons_succ, i64_w, i32_w]
    rfl
  refine pure_ (i := 7) (N := some 65) (v := ?_) (a' := ?_) #[true, true, true, true, true, true, true, true, false, false, false, false, false, false, false, false, false, false, false, false, false] rfl rfl (by kernel_rfl) (fun _ _ _ h => h) (Or.inl ⟨by rfl, ?_⟩) ?_ ?_
  rotate_left
  · intro w'
    go_simp
    with_reducible rfl
  rotate_left
  · simp only [Act.put, List.setIfInBounds_toArray, List.set_cons_zero, List.set_cons_succ, i64_w, i32_w]
    rfl
  refine pure_ (i := 8) (N := some 66) (v := ?_) (a' := ?_) #[true, true, true, true, true, true, true, true, true, false, false, false, false, false, false, false, false, false, false, false, false] rfl rfl (by kernel_rfl) (fun _ _ _ h => h) (Or.inl ⟨by rfl, ?_⟩) ?_ ?_
  rotate_left
  · intro w'
    go_simp
    with_reducible rfl
  rotate_left
  · simp only [Act.put, List.setIfInBounds_toArray, List.set_cons_zero, List.set_cons_succ, i64_w, i32_w]
    rfl
  refine take_ (i := 9) (N := some 67) (v := ?_) (a' := ?_) #[true, true, true, true, true, true, true, true, true, true, false, false, false, false, false, false, false, false, false, false, false] rfl rfl (by kernel_rfl) (fun _ _ _ h => h) (Or.inl ⟨by rfl, ?_⟩) hHeld ?_ ?_
  rotate_left
  · rintro w' ⟨s0, s1⟩
    go_simp
    with_reducible rfl
  rotate_left
  · simp only [Act.put, List.setIfInBounds_toArray, List.set_cons_zero, List.set_cons_succ, i64_w, i32_w]
    rfl
  refine pure_ (i := 10) (N := some 68) (v := ?_) (a' := ?_) #[true, true, true, true, true, true, true, true, true, true, true, false, false, false, false, false, false, false, false, false, false] rfl rfl (by kernel_rfl) (fun _ _ _ h => h) (Or.inl ⟨by rfl, ?_⟩) ?_ ?_
  rotate_left
  · intro w'
    go_simp
    with_reducible rfl
  rotate_left
  · simp only [Act.put, List.setIfInBounds_toArray, List.set_cons_zero, List.set_cons_succ, i64_w, i32_w]
    rfl
  refine pure_ (i := 11) (N := some 69) (v := ?_) (a' := ?_) #[true, true, true, true, true, true, true, true, true, true, true, true, false, false, false, false, false, false, false, false, false] rfl rfl (by kernel_rfl) (fun _ _ _ h => h) (Or.inl ⟨by rfl, ?_⟩) ?_ ?_
  rotate_left
  · intro w'
    go_simp
    with_reducible rfl
  rotate_left
  · simp only [Act.put, List.setIfInBounds_toArray, List.set_cons_zero, List.set_cons_succ, i64_w, i32_w]
    rfl
  refine pure_ (i := 12) (N := some 70) (v := ?_) (a' := ?_) #[true, true, true, true, true, true, true, true, true, true, true, true, true, false, false, false, false, false, false, false, false] rfl rfl (by kernel_rfl) (fun _ _ _ h => h) (Or.inl ⟨by rfl, ?_⟩) ?_ ?_
  rotate_left
  · intro w'
    go_simp
    with_reducible rfl
  rotate_left
  · simp only [Act.put, List.setIfInBounds_toArray, List.set_cons_zero, List.set_cons_succ, i64_w, i32_w]
    rfl
  refine pure_ (i := 13) (N := some 71) (v := ?_) (a' := ?_) #[true, true, true, true, true, true, true, true, true, true, true, true, true, true, false, false, false, false, false, false, false] rfl rfl (by kernel_rfl) (fun _ _ _ h => h) (Or.inl ⟨by rfl, ?_⟩) ?_ ?_
  rotate_left
  · intro w'
    go_simp
    with_reducible rfl
  rotate_left
  · simp only [Act.put, List.setIfInBounds_toArray, List.set_cons_zero, List.set_cons_succ, i64_w, i32_w]
    rfl
  refine take_ (i := 14) (N := some 72) (v := ?_) (a' := ?_) #[true, true, true, true, true, true, true, true, true, true, true, true, true, true, true, false, false, false, false, false, false] rfl rfl (by kernel_rfl) (fun _ _ _ h => h) (Or.inl ⟨by rfl, ?_⟩) hHeld ?_ ?_
  rotate_left
  · rintro w' ⟨s0, s1⟩
    go_simp
    with_reducible rfl
  rotate_left
  · simp only [Act.put, List.setIfInBounds_toArray, List.set_cons_zero, List.set_cons_succ, i64_w, i32_w]
    rfl
  refine pure_ (i := 15) (N := some 73) (v := ?_) (a' := ?_) #[true, true, true, true, true, true, true, true, true, true, true, true, true, true, true, true, false, false, false, false, false] rfl rfl (by kernel_rfl) (fun _ _ _ h => h) (Or.inl ⟨by rfl, ?_⟩) ?_ ?_
  rotate_left
  · intro w'
    go_simp
    with_reducible rfl
  rotate_left
  · simp only [Act.put, List.setIfInBounds_toArray, List.set_cons_zero, List.set_cons_succ, i64_w, i32_w]
    rfl
  refine one_ (i := 16) (N := some 74) #[true, true, true, true, true, true, true, true, true, true, true, true, true, true, true, true, true, false, false, false, false] rfl rfl (by kernel_rfl) (by decide) (fun K hK => ?_)
  refine value_ (w1 := ?_) (v := ?_) (by rfl) rfl ?_ ?_
  rotate_left
  rotate_left
  · go_simp
    refine ⟨?_, ?_⟩ <;> rfl
  refine hK.out _ _ ⟨?_, ?_⟩ (fun hHeld => ?_)
  · exact (cell_far (a := ⟨p, 3, none⟩) (World.grownBy_alloc w2 (.cells #[.int .i64 n] 3) none |>.block p hpl2 (by simp))).1.trans e3
  · exact (cell_far (a := ⟨sb, T.scopes.length - 1, none⟩) (World.grownBy_alloc w2 (.cells #[.int .i64 n] 3) none |>.block sb hsl2 (by simp))).1.trans ev
  clear hK K
  refine one_ (i := 17) (N := some 75) #[true, true, true, true, true, true, true, true, true, true, true, true, true, true, true, true, true, true, false, false, false] rfl rfl (by kernel_rfl) (by decide) (fun K hK => ?_)
  refine step_append_lies _ rfl _ _ _ rfl 0 3 i0 _ 1 8 Tryd.underlying57 HI.out Hz0.out Hz1.out Hz2.out rfl (by omega) _ xs.length _ rfl ((Ho2.out.alloc _).drew)
    ⟨w2.heap.size, 0, none⟩ 1 1 [.int .i64 n] rfl rfl (World.news_of_block (cs := #[.int .i64 n]) (t := 3) (fr := (0, 0)) (heap_alloc_new w2 _)) (by simp [Value.oneCell'])
    (by omega) (by unfold maxLen; omega) (by omega) (Nat.zero_le _) (w2.heap.size + 1) (by simp) ?_
  intro gg cap4 w3 hown3 hgrow hat hlt
  have hc3 := cell_far (a := ⟨sb, T.scopes.length - 1, none⟩) ((hgrow.block sb (by simp; omega) (Ne.symm Hne2.out)).trans (World.grownBy_alloc w2 (.cells #[.int .i64 n] 3) none |>.block sb hsl2 (by simp)))
  have hcp := cell_far (a := ⟨p, 3, none⟩) ((hgrow.block p (by simp; omega) (Ne.symm Hne.out)).trans (World.grownBy_alloc w2 (.cells #[.int .i64 n] 3) none |>.block p hpl2 (by simp)))
  have f3 := hc3.2.trans fv
  have e3' := hc3.1.trans ev
  have Hown3 := Aside0.mk hown3
  have Hgrow := Aside0.mk hgrow
  have Hat := Aside0.mk hat
  clear hown3 hgrow hat
  refine hK.out _ _ ⟨hcp.1.trans e3, e3'⟩ (fun hHeld => ?_)
  clear hK K hc3 hcp
  refine pure_ (i := 18) (N := some 76) (v := ?_) (a' := ?_) #[true, true, true, true, true, true, true, true, true, true, true, true, true, true, true, true, true, true, true, false, false] rfl rfl (by kernel_rfl) (fun _ _ _ h => h) (Or.inl ⟨by rfl, ?_⟩) ?_ ?_
  rotate_left
  · intro w'
    go_simp
    with_reducible rfl
  rotate_left
  · simp only [Act.put, List.setIfInBounds_toArray, List.set_cons_zero, List.set_cons_succ, i64_w, i32_w]
    rfl
  refine pure_ (i := 19) (N := some 77) (v := ?_) (a' := ?_) #[true, true, true, true, true, true, true, true, true, true, true, true, true, true, true, true, true, true, true, true, false] rfl rfl (by kernel_rfl) (fun _ _ _ h => h) (Or.inl ⟨by rfl, ?_⟩) ?_ ?_
  rotate_left
  · intro w'
    go_simp
    with_reducible rfl
  rotate_left
  · simp only [Act.put, List.setIfInBounds_toArray, List.set_cons_zero, List.set_cons_succ, i64_w, i32_w]
    rfl
  refine last_ (i := 20) (N := none) #[true, true, true, true, true, true, true, true, true, true, true, true, true, true, true, true, true, true, true, true, true] rfl rfl (by kernel_rfl) (by decide) (fun K hK => ?_)
  refine skip_ (w1 := ?_) (by rfl) rfl ?_ ?_
  rotate_left
  · go_simp
    rfl
  refine hK.out _ _ ?_
  clear hK K
  refine done_ (by kernel_rfl) ?_
  go_wp2_with fail
  go_ret2
  refine ⟨rfl, ?_⟩
  have h2 := H2.out
  have hst := put_steps h2 HT.out Hq.out Hvc.out Hown3.out Hgrow.out Hat.out
  obtain ⟨q', a, b, c⟩ := hst
  refine ⟨q', a.more (by omega), fun k hk => ?_, ?_⟩
  · rcases b k hk with hk | hk
    · exact .inl hk
    · exact .inr (Nat.le_trans Ht2.out.size hk)
  · exact Turns.trans (Turns.refl (q.has p) w) (Turns.trans Ht2.out c (fun _ hk => .inl hk)) (fun k hk => .inl hk)

set_option maxHeartbeats 4000000 in
set_option maxRecDepth 100000 in
theorem var_new_out {w : World} (hb : Blanks w) {p g : Nat} {T : Tab} {q : Parts} (h : Holds w p g T q) (s : ByteArray) (hs : s.size ≤ maxLen) (hg : g + 2 < maxLen) (hsym : symOk s = true) (hact : T.act s = none) (hn : idx T.syms s = none) (hfew : T.syms.length < 512) (hdeep : T.scopes.length ≤ 16) (hsc : T.scopes.length = 0) :
    Calls Tryd.prog 22 #[.pointer (some ⟨p, 0, none⟩), .string s] w fun e w' => e = .returned (.tuple #[.int .i64 (T.syms.length : Int), .int .i64 0]) ∧ TabSteps w w' p (g + 2) (activate (added T s true) s T.syms.length) q := by
  have H := Aside0.mk h
  have c1 := (cell_at h.cells 1).1
  have c2 := (cell_at h.cells 2).1
  simp only [List.getElem?_toArray, List.getElem?_cons_zero, List.getElem?_cons_succ] at c1 c2
  have hl1 := h.numbers.look hs
  have hl2 := h.active.look hs
  rw [hn] at hl1
  rw [hact] at hl2
  simp only [num, Option.isSome_some, Option.isSome_none] at hl1 hl2
  have Hb := Lib.hid hb
  have hsy := symbol_calls Hb.out s hs
  rw [hsym] at hsy
  have Hn := Lib.hid hn
  have Hsym := Lib.hid hsym
  clear h hb hsym hact hn
  have Hsc := Lib.hid hsc
  clear hsc
  go_enter Tryd.func22, Tryd.ntmps22
  go_wp2_with (go_at_call 58; refine hsy.mono ?_; rintro e w' ⟨rfl, hw'⟩; obtain rfl := hw'.symm)
  have hs32 : s.size ≤ 32 := by
    have := Hsym.out
    unfold symOk at this
    simp only [Bool.and_eq_true, decide_eq_true_eq] at this
    exact this.2
  refine (add_calls H.out s true hs32 Hn.out hfew (by omega)).mono ?_
  rintro e wz ⟨rfl, ⟨qz, hqz, hhz, htz⟩⟩
  have Hz := Aside0.mk hqz
  have Hhz := Aside0.mk hhz
  have Htz := Aside0.mk htz
  have c2' := (cell_at hqz.cells 2).1
  simp only [List.getElem?_toArray, List.getElem?_cons_zero, List.getElem?_cons_succ] at c2'
  clear hqz hhz htz c1 c2 hl1 hl2
  go_wp2_with (first
    | (at_mapUpdate; refine wp_store (n := T.syms.length) rfl _ _ _ rfl rfl rfl rfl Hz.out.active hs (by omega) (by omega) ?_; intro w2 hm2 hg2
       have h2 := holds_act Hz.out hg2 hm2 (by omega)
       have Ht2 := Aside0.mk (Turns.of_grown (fp := qz.has p) hg2 (fun k hk => by have := Option.some.inj hk; subst this; exact .inr (.inr (.inl rfl))))
       obtain ⟨A3, cap3, e3', _⟩ := row_slice h2.scopes
       have e3 := (cell_at h2.cells 3).1
       simp only [List.getElem?_toArray, List.getElem?_cons_zero, List.getElem?_cons_succ, e3'] at e3
       replace e3 : w2.cell? ⟨p, 3, none⟩ = some (.slice A3 0 cap3) := by rw [e3]; exact congrArg (fun z => some (Value.slice A3 z cap3)) Hsc.out
       have H2 := Aside0.mk h2
       clear h2 hm2 hg2 e3' c2'))
  go_ret2
  refine ⟨rfl, ?_⟩
  have h2 := H2.out
  obtain ⟨q', a, b, c⟩ := steps_refl h2
  have ha : addLast T.scopes T.syms.length = T.scopes := by have := Hsc.out; cases hl : T.scopes with | nil => rfl | cons x l => rw [hl] at this; simp at this
  have ht : activate (added T s true) s T.syms.length = { (added T s true) with act := upd (added T s true).act s T.syms.length } := by unfold activate; rw [show (added T s true).scopes = T.scopes from rfl, ha]; rfl
  rw [ht]
  refine ⟨q', a.more (by omega), fun k hk => ?_, ?_⟩
  · rcases b k hk with hk | hk
    · exact Hhz.out k hk
    · exact .inr (Nat.le_trans (Nat.le_trans Htz.out.size Ht2.out.size) hk)
  · exact Turns.trans Htz.out (Turns.trans Ht2.out c (fun _ hk => .inl hk)) (fun k hk => Hhz.out k hk)

set_option maxHeartbeats 4000000 in
set_option maxRecDepth 100000 in
theorem var_new_in {w : World} (hb : Blanks w) {p g : Nat} {T : Tab} {q : Parts} (h : Holds w p g T q) (s : ByteArray) (hs : s.size ≤ maxLen) (hg : g + 2 < maxLen) (hsym : symOk s = true) (hact : T.act s = none) (hn : idx T.syms s = none) (hfew : T.syms.length < 512) (hdeep : T.scopes.length ≤ 16) (hsc : 0 < T.scopes.length) (hx : ∀ l ∈ T.scopes, l.length ≤ 512) :
    Calls Tryd.prog 22 #[.pointer (some ⟨p, 0, none⟩), .string s] w fun e w' => e = .returned (.tuple #[.int .i64 (T.syms.length : Int), .int .i64 0]) ∧ TabSteps w w' p (g + 2) (activate (added T s true) s T.syms.length) q := by
  have H := Aside0.mk h
  have c1 := (cell_at h.cells 1).1
  have c2 := (cell_at h.cells 2).1
  simp only [List.getElem?_toArray, List.getElem?_cons_zero, List.getElem?_cons_succ] at c1 c2
  have hl1 := h.numbers.look hs
  have hl2 := h.active.look hs
  rw [hn] at hl1
  rw [hact] at hl2
  simp only [num, Option.isSome_some, Option.isSome_none] at hl1 hl2
  have Hb := Lib.hid hb
  have hsy := symbol_calls Hb.out s hs
  rw [hsym] at hsy
  have Hn := Lib.hid hn
  have Hsym := Lib.hid hsym
  clear h hb hsym hact hn
  have hsc' : (0 : Int) < (T.scopes.length : Int) := by omega
  have hd' : (T.scopes.length : Int) ≤ 16 := by omega
  go_enter Tryd.func22, Tryd.ntmps22
  go_wp2_with (go_at_call 58; refine hsy.mono ?_; rintro e w' ⟨rfl, hw'⟩; obtain rfl := hw'.symm)
  have hs32 : s.size ≤ 32 := by
    have := Hsym.out
    unfold symOk at this
    simp only [Bool.and_eq_true, decide_eq_true_eq] at this
    exact this.2
  refine (add_calls H.out s true hs32 Hn.out hfew (by omega)).mono ?_
  rintro e wz ⟨rfl, ⟨qz, hqz, hhz, htz⟩⟩
  have Hz := Aside0.mk hqz
  have Hhz := Aside0.mk hhz
  have Htz := Aside0.mk htz
  have c2' := (cell_at hqz.cells 2).1
  simp only [List.getElem?_toArray, List.getElem?_cons_zero, List.getElem?_cons_succ] at c2'
  clear hqz hhz htz c1 c2 hl1 hl2
  go_wp2_with (first
    | (at_mapUpdate; refine wp_store (n := T.syms.length) rfl _ _ _ rfl rfl rfl rfl Hz.out.active hs (by omega) (by omega) ?_; intro w2 hm2 hg2
       have h2 := holds_act Hz.out hg2 hm2 (by omega)
       have Ht2 := Aside0.mk (Turns.of_grown (fp := qz.has p) hg2 (fun k hk => by have := Option.some.inj hk; subst this; exact .inr (.inr (.inl rfl))))
       obtain ⟨ls, xs, us, v, sb, cap, A3, cap3, hT, hq, hvc, hv, e3, ev, fv, hpl2, hsl2, hne, hne2, ho2⟩ := last_facts h2 hsc
       subst hv
       have hxs : xs.length ≤ 512 := hx xs (by have hT' : T.scopes = ls ++ [xs] := hT; rw [hT']; simp)
       have HT := Aside0.mk hT
       have Hq := Aside0.mk hq
       have Hvc := Aside0.mk hvc
       have H2 := Aside0.mk h2
       have Ho2 := Aside0.mk ho2
       obtain ⟨i0, hi, hz0, hz1, hz2⟩ := info_parts info3
       have HI := Aside0.mk hi
       have Hz0 := Aside0.mk hz0
       have Hz1 := Aside0.mk hz1
       have Hz2 := Aside0.mk hz2
       have Hne := Aside0.mk hne
       have Hne2 := Aside0.mk hne2
       clear hi hz0 hz1 hz2 hT hq hvc h2 ho2 hne hne2 hm2 hg2 c2'
       have hk1 : (0 : Int) ≤ (T.scopes.length : Int) - 1 := by omega
       have hk1' : (1 : Int) ≤ (T.scopes.length : Int) := by omega
       have hk2 : (T.scopes.length : Int) - 1 < (T.scopes.length : Int) := by omega
       have hk3 : IntKind.i64.wrap ((T.scopes.length : Int) - 1) = (T.scopes.length : Int) - 1 := IntWalk.i64_in _ (by omega)
       have hk4 : ((T.scopes.length : Int) - 1).toNat = T.scopes.length - 1 := by omega
       replace e3 : w2.cell? ⟨p, 3, none⟩ = some (.slice (some ⟨sb, 0, none⟩) T.scopes.length cap) := e3
       replace ev : w2.cell? ⟨sb, T.scopes.length - 1, none⟩ = some (.slice A3 xs.length cap3) := ev
       replace fv : w2.frozen? ⟨sb, T.scopes.length - 1, none⟩ = false := fv))
  refine start_ (n := 21) (S := fun w' => w'.cell? ⟨p, 3, none⟩ = some (.slice (some ⟨sb, 0, none⟩) T.scopes.length cap) ∧ w'.cell? ⟨sb, T.scopes.length - 1, none⟩ = some (.slice A3 xs.length cap3)) (ds := [20]) #[false, false, false, false, false, false, false, false, false, false, false, false, false, false, false, false, false, false, false, false, false] (by kernel_rfl) rfl rfl ⟨e3, ev⟩ (fun hHeld => ?_)
  refine pure_ (i := 0) (N := some 58) (v := ?_) (a' := ?_) #[true, false, false, false, false, false, false, false, false, false, false, false, false, false, false, false, false, false, false, false, false] rfl rfl (by kernel_rfl) (fun _ _ _ h => h) (Or.inl ⟨by rfl, ?_⟩) ?_ ?_
  rotate_left
  · intro w'
    go_simp
    with_reducible rfl
  rotate_left
  · simp only [Act.put, List.setIfInBounds_toArray, List.set_cons_zero, List.set_cons_succ, i64_w, i32_w]
    rfl
  refine pure_ (i := 1) (N := some 59) (v := ?_) (a' := ?_) #[true, true, false, false, false, false, false, false, false, false, false, false, false, false, false, false, false, false, false, false, false] rfl rfl (by kernel_rfl) (fun _ _ _ h => h) (Or.inl ⟨by rfl, ?_⟩) ?_ ?_
  rotate_left
  · intro w'
    go_simp
    with_reducible rfl
  rotate_left
  · simp only [Act.put, List.setIfInBounds_toArray, List.set_cons_zero, List.set_cons_succ, i64_w, i32_w]
    rfl
  refine pure_ (i := 2) (N := some 60) (v := ?_) (a' := ?_) #[true, true, true, false, false, false, false, false, false, false, false, false, false, false, false, false, false, false, false, false, false] rfl rfl (by kernel_rfl) (fun _ _ _ h => h) (Or.inl ⟨by rfl, ?_⟩) ?_ ?_
  rotate_left
  · intro w'
    go_simp
    with_reducible rfl
  rotate_left
  · simp only [Act.put, List.setIfInBounds_toArray, List.set_cons_zero, List.set_cons_succ, i64_w, i32_w]
    rfl
  refine take_ (i := 3) (N := some 61) (v := ?_) (a' := ?_) #[true, true, true, true, false, false, false, false, false, false, false, false, false, false, false, false, false, false, false, false, false] rfl rfl (by kernel_rfl) (fun _ _ _ h => h) (Or.inl ⟨by rfl, ?_⟩) hHeld ?_ ?_
  rotate_left
  · rintro w' ⟨s0, s1⟩
    go_simp
    with_reducible rfl
  rotate_left
  · simp only [Act.put, List.setIfInBounds_toArray, List.set_cons_zero, List.set_cons_succ, i64_w, i32_w]
    rfl
  refine pure_ (i := 4) (N := some 62) (v := ?_) (a' := ?_) #[true, true, true, true, true, false, false, false, false, false, false, false, false, false, false, false, false, false, false, false, false] rfl rfl (by kernel_rfl) (fun _ _ _ h => h) (Or.inl ⟨by rfl, ?_⟩) ?_ ?_
  rotate_left
  · intro w'
    go_simp
    with_reducible rfl
  rotate_left
  · simp only [Act.put, List.setIfInBounds_toArray, List.set_cons_zero, List.set_cons_succ, i64_w, i32_w]
    rfl
  refine pure_ (i := 5) (N := some 63) (v := ?_) (a' := ?_) #[true, true, true, true, true, true, false, false, false, false, false, false, false, false, false, false, false, false, false, false, false] rfl rfl (by kernel_rfl) (fun _ _ _ h => h) (Or.inl ⟨by rfl, ?_⟩) ?_ ?_
  rotate_left
  · intro w'
    go_simp
    with_reducible rfl
  rotate_left
  · simp only [Act.put, List.setIfInBounds_toArray, List.set_cons_zero, List.set_cons_succ, i64_w, i32_w]
    rfl
  refine pure_ (i := 6) (N := some 64) (v := ?_) (a' := ?_) #[true, true, true, true, true, true, true, false, false, false, false, false, false, false, false, false, false, false, false, false, false] rfl rfl (by kernel_rfl) (fun _ _ _ h => h) (Or.inl ⟨by rfl, ?_⟩) ?_ ?_
  rotate_left
  · intro w'
    go_simp
    with_reducible rfl
  rotate_left
  · simp only [Act.put, List.setIfInBounds_toArray, List.set_cons_zero, List.set_cons_succ, i64_w, i32_w]
    rfl
  refine pure_ (i := 7) (N := some 65) (v := ?_) (a' := ?_) #[true, true, true, true, true, true, true, true, false, false, false, false, false, false, false, false, false, false, false, false, false] rfl rfl (by kernel_rfl) (fun _ _ _ h => h) (Or.inl ⟨by rfl, ?_⟩) ?_ ?_
  rotate_left
  · intro w'
    go_simp
    with_reducible rfl
  rotate_left
  · simp only [Act.put, List.setIfInBounds_toArray, List.set_cons_zero, List.set_cons_succ, i64_w, i32_w]
    rfl
  refine pure_ (i := 8) (N := some 66) (v := ?_) (a' := ?_) #[true, true, true, true, true, true, true, true, true, false, false, false, false, false, false, false, false, false, false, false, false] rfl rfl (by kernel_rfl) (fun _ _ _ h => h) (Or.inl ⟨by rfl, ?_⟩) ?_ ?_
  rotate_left
  · intro w'
    go_simp
    with_reducible rfl
  rotate_left
  · simp only [Act.put, List.setIfInBounds_toArray, List.set_cons_zero, List.set_cons_succ, i64_w, i32_w]
    rfl
  refine take_ (i := 9) (N := some 67) (v := ?_) (a' := ?_) #[true, true, true, true, true, true, true, true, true, true, false, false, false, false, false, false, false, false, false, false, false] rfl rfl (by kernel_rfl) (fun _ _ _ h => h) (Or.inl ⟨by rfl, ?_⟩) hHeld ?_ ?_
  rotate_left
  · rintro w' ⟨s0, s1⟩
    go_simp
    with_reducible rfl
  rotate_left
  · simp only [Act.put, List.setIfInBounds_toArray, List.set_cons_zero, List.set_cons_succ, i64_w, i32_w]
    rfl
  refine pure_ (i := 10) (N := some 68) (v := ?_) (a' := ?_) #[true, true, true, true, true, true, true, true, true, true, true, false, false, false, false, false, false, false, false, false, false] rfl rfl (by kernel_rfl) (fun _ _ _ h => h) (Or.inl ⟨by rfl, ?_⟩) ?_ ?_
  rotate_left
  · intro w'
    go_simp
    with_reducible rfl
  rotate_left
  · simp only [Act.put, List.setIfInBounds_toArray, List.set_cons_zero, List.set_cons_succ, i64_w, i32_w]
    rfl
  refine pure_ (i := 11) (N := some 69) (v := ?_) (a' := ?_) #[true, true, true, true, true, true, true, true, true, true, true, true, false, false, false, false, false, false, false, false, false] rfl rfl (by kernel_rfl) (fun _ _ _ h => h) (Or.inl ⟨by rfl, ?_⟩) ?_ ?_
  rotate_left
  · intro w'
    go_simp
    with_reducible rfl
  rotate_left
  · simp only [Act.put, List.setIfInBounds_toArray, List.set_cons_zero, List.set_cons_succ, i64_w, i32_w]
    rfl
  refine pure_ (i := 12) (N := some 70) (v := ?_) (a' := ?_) #[true, true, true, true, true, true, true, true, true, true, true, true, true, false, false, false, false, false, false, false, false] rfl rfl (by kernel_rfl) (fun _ _ _ h => h) (Or.inl ⟨by rfl, ?_⟩) ?_ ?_
  rotate_left
  · intro w'
    go_simp
    with_reducible rfl
  rotate_left
  · simp only [Act.put, List.setIfInBounds_toArray, List.set_cons_zero, List.set_cons_succ, i64_w, i32_w]
    rfl
  refine pure_ (i := 13) (N := some 71) (v := ?_) (a' := ?_) #[true, true, true, true, true, true, true, true, true, true, true, true, true, true, false, false, false, false, false, false, false] rfl rfl (by kernel_rfl) (fun _ _ _ h => h) (Or.inl ⟨by rfl, ?_⟩) ?_ ?_
  rotate_left
  · intro w'
    go_simp
    with_reducible rfl
  rotate_left
  · simp only [Act.put, List.setIfInBounds_toArray, List.set_cons_zero, List.set_cons_succ, i64_w, i32_w]
    rfl
  refine take_ (i := 14) (N := some 72) (v := ?_) (a' := ?_) #[true, true, true, true, true, true, true, true, true, true, true, true, true, true, true, false, false, false, false, false, false] rfl rfl (by kernel_rfl) (fun _ _ _ h => h) (Or.inl ⟨by rfl, ?_⟩) hHeld ?_ ?_
  rotate_left
  · rintro w' ⟨s0, s1⟩
    go_simp
    with_reducible rfl
  rotate_left
  · simp only [Act.put, List.setIfInBounds_toArray, List.set_cons_zero, List.set_cons_succ, i64_w, i32_w]
    rfl
  refine pure_ (i := 15) (N := some 73) (v := ?_) (a' := ?_) #[true, true, true, true, true, true, true, true, true, true, true, true, true, true, true, true, false, false, false, false, false] rfl rfl (by kernel_rfl) (fun _ _ _ h => h) (Or.inl ⟨by rfl, ?_⟩) ?_ ?_
  rotate_left
  · intro w'
    go_simp
    with_reducible rfl
  rotate_left
  · simp only [Act.put, List.setIfInBounds_toArray, List.set_cons_zero, List.set_cons_succ, i64_w, i32_w]
    rfl
  refine one_ (i := 16) (N := some 74) #[true, true, true, true, true, true, true, true, true, true, true, true, true, true, true, true, true, false, false, false, false] rfl rfl (by kernel_rfl) (by decide) (fun K hK => ?_)
  refine value_ (w1 := ?_) (v := ?_) (by rfl) rfl ?_ ?_
  rotate_left
  rotate_left
  · go_simp
    refine ⟨?_, ?_⟩ <;> rfl
  refine hK.out _ _ ⟨?_, ?_⟩ (fun hHeld => ?_)
  · exact (cell_far (a := ⟨p, 3, none⟩) (World.grownBy_alloc w2 (.cells #[.int .i64 T.syms.length] 3) none |>.block p hpl2 (by simp))).1.trans e3
  · exact (cell_far (a := ⟨sb, T.scopes.length - 1, none⟩) (World.grownBy_alloc w2 (.cells #[.int .i64 T.syms.length] 3) none |>.block sb hsl2 (by simp))).1.trans ev
  clear hK K
  refine one_ (i := 17) (N := some 75) #[true, true, true, true, true, true, true, true, true, true, true, true, true, true, true, true, true, true, false, false, false] rfl rfl (by kernel_rfl) (by decide) (fun K hK => ?_)
  refine step_append_lies _ rfl _ _ _ rfl 0 3 i0 _ 1 8 Tryd.underlying57 HI.out Hz0.out Hz1.out Hz2.out rfl (by omega) _ xs.length _ rfl ((Ho2.out.alloc _).drew)
    ⟨w2.heap.size, 0, none⟩ 1 1 [.int .i64 T.syms.length] rfl rfl (World.news_of_block (cs := #[.int .i64 T.syms.length]) (t := 3) (fr := (0, 0)) (heap_alloc_new w2 _)) (by simp [Value.oneCell'])
    (by omega) (by unfold maxLen; omega) (by omega) (Nat.zero_le _) (w2.heap.size + 1) (by simp) ?_
  intro gg cap4 w3 hown3 hgrow hat hlt
  have hc3 := cell_far (a := ⟨sb, T.scopes.length - 1, none⟩) ((hgrow.block sb (by simp; omega) (Ne.symm Hne2.out)).trans (World.grownBy_alloc w2 (.cells #[.int .i64 T.syms.length] 3) none |>.block sb hsl2 (by simp)))
  have hcp := cell_far (a := ⟨p, 3, none⟩) ((hgrow.block p (by simp; omega) (Ne.symm Hne.out)).trans (World.grownBy_alloc w2 (.cells #[.int .i64 T.syms.length] 3) none |>.block p hpl2 (by simp)))
  have f3 := hc3.2.trans fv
  have e3' := hc3.1.trans ev
  have Hown3 := Aside0.mk hown3
  have Hgrow := Aside0.mk hgrow
  have Hat := Aside0.mk hat
  clear hown3 hgrow hat
  refine hK.out _ _ ⟨hcp.1.trans e3, e3'⟩ (fun hHeld => ?_)
  clear hK K hc3 hcp
  refine pure_ (i := 18) (N := some 76) (v := ?_) (a' := ?_) #[true, true, true, true, true, true, true, true, true, true, true, true, true, true, true, true, true, true, true, false, false] rfl rfl (by kernel_rfl) (fun _ _ _ h => h) (Or.inl ⟨by rfl, ?_⟩) ?_ ?_
  rotate_left
  · intro w'
    go_simp
    with_reducible rfl
  rotate_left
  · simp only [Act.put, List.setIfInBounds_toArray, List.set_cons_zero, List.set_cons_succ, i64_w, i32_w]
    rfl
  refine pure_ (i := 19) (N := some 77) (v := ?_) (a' := ?_) #[true, true, true, true, true, true, true, true, true, true, true, true, true, true, true, true, true, true, true, true, false] rfl rfl (by kernel_rfl) (fun _ _ _ h => h) (Or.inl ⟨by rfl, ?_⟩) ?_ ?_
  rotate_left
  · intro w'
    go_simp
    with_reducible rfl
  rotate_left
  · simp only [Act.put, List.setIfInBounds_toArray, List.set_cons_zero, List.set_cons_succ, i64_w, i32_w]
    rfl
  refine last_ (i := 20) (N := none) #[true, true, true, true, true, true, true, true, true, true, true, true, true, true, true, true, true, true, true, true, true] rfl rfl (by kernel_rfl) (by decide) (fun K hK => ?_)
  refine skip_ (w1 := ?_) (by rfl) rfl ?_ ?_
  rotate_left
  · go_simp
    rfl
  refine hK.out _ _ ?_
  clear hK K
  refine done_ (by kernel_rfl) ?_
  go_wp2_with fail
  go_ret2
  refine ⟨rfl, ?_⟩
  have h2 := H2.out
  have hst := put_steps h2 HT.out Hq.out Hvc.out Hown3.out Hgrow.out Hat.out
  obtain ⟨q', a, b, c⟩ := hst
  refine ⟨q', a.more (by omega), fun k hk => ?_, ?_⟩
  · rcases b k hk with hk | hk
    · exact Hhz.out k hk
    · exact .inr (Nat.le_trans (Nat.le_trans Htz.out.size Ht2.out.size) hk)
  · exact Turns.trans Htz.out (Turns.trans Ht2.out c (fun _ hk => .inl hk)) (fun k hk => Hhz.out k hk)

theorem var_calls {w : World} (hb : Blanks w) {p g : Nat} {T : Tab} {q : Parts} (hw : WF T) (h : Holds w p g T q) (s : ByteArray) (hs : s.size ≤ maxLen) (hg : g + 2 < maxLen) :
    Calls Tryd.prog 22 #[.pointer (some ⟨p, 0, none⟩), .string s] w fun e w' => e = .returned (.tuple #[.int .i64 ((varT T s).2.1 : Int), .int .i64 ((varT T s).2.2 : Int)]) ∧ TabSteps w w' p (g + 2) (varT T s).1 q := by
  have hsame := Lib.hid (steps_refl (h.more (show g ≤ g + 2 by omega)))
  cases hok : symOk s with
  | false =>
    have Hc := Lib.hid (show varT T s = (T, 0, 21) by unfold varT; rw [if_pos hok])
    have hsy := symbol_calls hb s hs
    rw [hok] at hsy
    clear hok h hb
    go_enter Tryd.func22, Tryd.ntmps22
    go_wp2_with (go_at_call 58; refine hsy.mono ?_; rintro e w' ⟨rfl, rfl⟩)
    go_ret2
    rw [Hc.out]
    exact ⟨rfl, hsame.out⟩
  | true =>
    cases hact : T.act s with
    | some n =>
      have Hc := Lib.hid (show varT T s = (T, 0, 20) by unfold varT; rw [hok, hact]; rfl)
      have hsy := symbol_calls hb s hs
      rw [hok] at hsy
      have c2 := (cell_at h.cells 2).1
      simp only [List.getElem?_toArray, List.getElem?_cons_zero, List.getElem?_cons_succ] at c2
      have hl2 := h.active.look hs
      rw [hact] at hl2
      clear hok h hb hact
      go_enter Tryd.func22, Tryd.ntmps22
      go_wp2_with (go_at_call 58; refine hsy.mono ?_; rintro e w' ⟨rfl, rfl⟩)
      go_ret2
      rw [Hc.out]
      exact ⟨rfl, hsame.out⟩
    | none =>
      have hx : ∀ l ∈ T.scopes, l.length ≤ 512 := fun l hl => by
        have h1 := nodup_le (n := T.syms.length) (List.Sublist.nodup (List.sublist_flatten_of_mem hl) hw.once) (fun v hv => (hw.vars l hl v hv).1)
        have := hw.few
        omega
      cases hn : idx T.syms s with
      | some n =>
        have hlt := (idx_lt hn).1
        have hfew := hw.few
        have hc : varT T s = (activate T s n, n, 0) := by unfold varT; rw [hok, hact, hn]; rfl
        rw [hc]
        by_cases hsc : 0 < T.scopes.length
        · exact var_old_in hb h s hs hg hok hact n hn (by omega) hw.deep hsc hx
        · exact var_old_out hb h s hs hg hok hact n hn (by omega) hw.deep (by omega)
      | none =>
        by_cases hf : 512 ≤ T.syms.length
        · have Hc := Lib.hid (show varT T s = (T, 0, 22) by unfold varT; rw [hok, hact, hn]; simp [hf])
          have H := Aside0.mk h
          have hsy := symbol_calls hb s hs
          rw [hok] at hsy
          have c1 := (cell_at h.cells 1).1
          have c2 := (cell_at h.cells 2).1
          simp only [List.getElem?_toArray, List.getElem?_cons_zero, List.getElem?_cons_succ] at c1 c2
          have hl1 := h.numbers.look hs
          have hl2 := h.active.look hs
          rw [hn] at hl1
          rw [hact] at hl2
          clear hok h hb hact hn
          go_enter Tryd.func22, Tryd.ntmps22
          go_wp2_with (first | (go_at_call 58; refine hsy.mono ?_; rintro e w' ⟨rfl, rfl⟩) | (go_at_call 59; refine (add_full H.out s true hf).mono ?_; rintro e w' ⟨rfl, rfl⟩))
          go_ret2
          rw [Hc.out]
          exact ⟨rfl, hsame.out⟩
        · have hc : varT T s = (activate (added T s true) s T.syms.length, T.syms.length, 0) := by unfold varT; rw [hok, hact, hn]; simp [hf]
          rw [hc]
          by_cases hsc : 0 < T.scopes.length
          · exact var_new_in hb h s hs hg hok hact hn (by omega) hw.deep hsc hx
          · exact var_new_out hb h s hs hg hok hact hn (by omega) hw.deep (by omega)
end Go.Proofs.YtpoojimmponklaaDoor.SymVar
