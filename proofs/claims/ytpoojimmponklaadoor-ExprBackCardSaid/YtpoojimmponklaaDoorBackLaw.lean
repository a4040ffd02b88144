/- ExprBack walked. -/
import Derived.Test.YtpoojimmponklaaDoorBackAll
import Derived.Test.YtpoojimmponklaaDoorWordsLaw
namespace Go.Proofs.YtpoojimmponklaaDoor.BackLaw
open Go.Proofs.YtpoojimmponklaaDoor.SymHeap hiding num
open Go.RowKit Go.Maps Go.Proofs.YtpoojimmponklaaDoor.SymTab Go.Proofs.YtpoojimmponklaaDoor.SymReads Go.Proofs.YtpoojimmponklaaDoor.SymApi Go.Proofs.YtpoojimmponklaaDoor.SymSep Go.Proofs.YtpoojimmponklaaDoor.KeepsPure Go.Proofs.YtpoojimmponklaaDoor.KeepsFuns Go.Proofs.YtpoojimmponklaaDoor.KeepsLast Go.Proofs.YtpoojimmponklaaDoor.ReadW Go.Proofs.YtpoojimmponklaaDoor.KeepsMore Go.Proofs.YtpoojimmponklaaDoor.KeepsLaw Go.Proofs.YtpoojimmponklaaDoor.WordsTab Go.Proofs.YtpoojimmponklaaDoor.WordsOut Go.Proofs.YtpoojimmponklaaDoor.WordsLaw Go.Proofs.YtpoojimmponklaaDoor.BackRead Go.Proofs.YtpoojimmponklaaDoor.BackVars Go.Proofs.YtpoojimmponklaaDoor.PExprBack Go.Proofs.YtpoojimmponklaaDoor.PExprKeeps
open Go.Proofs.YtpoojimmponklaaDoor.WordsPure (textTo Fits)
open Go.Proofs.YtpoojimmponklaaDoorW.PrintWords
open Go.Proofs.YtpoojimmponklaaDoorW.PrintLast
open Go.Proofs.YtpoojimmponklaaDoor.KeepsLib (num)
set_option linter.unusedVariables false
set_option linter.unusedSimpArgs false

/-! ### the first constant -/
def op : ByteArray := ⟨#[40]⟩
def To : Tab := ⟨[(op, false)], upd (fun _ => none) op 0, [], []⟩
theorem ok_op : symOk op = true := by decide
theorem const_op : constT empty op = (To, 0, 0) := by
  unfold constT
  simp [empty, ok_op, idx, added, To]
def Head (T : Tab) : Prop := ∃ r, T.syms = (op, false) :: r
theorem head_To : Head To := ⟨[], rfl⟩
theorem head_const {T : Tab} {s : ByteArray} (h : Head T) : Head (constT T s).1 := by
  obtain ⟨r, h⟩ := h
  unfold constT
  split
  · exact ⟨r, h⟩
  · split
    · exact ⟨r, h⟩
    · split
      · exact ⟨r, h⟩
      · split
        · exact ⟨r, h⟩
        · exact ⟨r ++ [(s, false)], by simp [added, h]⟩
theorem head_var {T : Tab} {s : ByteArray} (h : Head T) : Head (varT T s).1 := by
  obtain ⟨r, h⟩ := h
  unfold varT
  split
  · exact ⟨r, h⟩
  · split
    · exact ⟨r, h⟩
    · split
      · exact ⟨r, h⟩
      · split
        · exact ⟨r, h⟩
        · exact ⟨r ++ [(s, true)], by simp [activate, added, h]⟩
theorem head_open {T : Tab} (h : Head T) : Head (openS T).1 := by
  obtain ⟨r, h⟩ := h
  unfold openS
  split <;> exact ⟨r, h⟩
theorem head_close {T : Tab} (h : Head T) : Head (closeS T).1 := by
  obtain ⟨r, h⟩ := h
  unfold closeS
  split <;> exact ⟨r, h⟩
theorem head_active {T : Tab} (hw : WF T) (h : Head T) : activeT T 0 = true := by
  obtain ⟨r, h⟩ := h
  have hl : 0 < T.syms.length := by rw [h]; simp
  have := hw.consts 0 hl (by rw [h]; rfl)
  unfold activeT there
  simp [this, hl]
theorem head_count {T : Tab} (h : Head T) : 0 < T.syms.length := by
  obtain ⟨r, h⟩ := h
  rw [h]
  simp
theorem s_wf {W w : World} {p g : Nat} {T : Tab} {rs : List Res} (h : SymSep.Sep W w (tabR p g T :: rs)) : WF T := by
  obtain ⟨f, h1, _⟩ := h.head
  exact h1.1
theorem tab_up {W w : World} {p g g' : Nat} {T : Tab} (h : SymSep.Sep W w [tabR p g T]) (hg : g ≤ g') : SymSep.Sep W w [tabR p g' T] := h.told fun f hf => hf.more hg

/-- A list of one number. -/
theorem row_lit {W w : World} {rs : List Res} (h : SymSep.Sep W w rs) (n : Int) : SymSep.Sep W (w.alloc (.cells #[.int .i64 n] 3)) (rowR 3 1 (.slice (some ⟨w.heap.size, 0, none⟩) 1 1) 1 [num n] :: rs) := by
  refine h.fresh (f := fun k => w.heap.size ≤ k) (Turns.alloc _ w _) ⟨⟨rfl, .inr ⟨w.heap.size, 1, #[.int .i64 n], rfl, Nat.zero_le _, heap_alloc_new _ _, Nat.le_refl _, by unfold maxLen; omega, rfl, rfl⟩⟩, fun k hk => ?_⟩ (fun _ hk => hk)
  have : k = w.heap.size := by simpa [Value.ownBlock] using hk.symm
  omega
theorem t_count {W w : World} {p g : Nat} {T : Tab} {r : Res} (h : SymSep.Sep W w [r, tabR p g T]) (m : Nat) : Calls Tryd.prog 20 #[.pointer (some ⟨p, 0, none⟩)] (w.drewN m) fun e w'' => e = .returned (.int .i64 (T.syms.length : Int)) ∧ ∃ k, w'' = w.drewN k := by
  obtain ⟨f, h1, _⟩ := (h.drawn (w' := w.drewN m) ⟨m, rfl⟩).swap.head
  exact (count_calls h1).mono fun e w' ⟨he, k, hd⟩ => ⟨he, m + k, by rw [hd, World.drewN_drewN]⟩
theorem t_active {W w : World} {p g : Nat} {T : Tab} {r : Res} (h : SymSep.Sep W w [r, tabR p g T]) (k : Int) (m : Nat) : Calls Tryd.prog 21 #[.pointer (some ⟨p, 0, none⟩), .int .i64 k] (w.drewN m) fun e w'' => e = .returned (.bool (activeT T k)) ∧ ∃ k, w'' = w.drewN k := by
  obtain ⟨f, h1, _⟩ := (h.drawn (w' := w.drewN m) ⟨m, rfl⟩).swap.head
  exact (active_calls h1 k).mono fun e w' ⟨he, k, hd⟩ => ⟨he, m + k, by rw [hd, World.drewN_drewN]⟩
/-- A row of strings reads as a list. -/
theorem strs_C {w : World} {b n : Nat} {A : Option Addr} {c : Nat} {ws : List ByteArray} (hn : ws.length = n) (hl : n ≤ 4194304) (h : w.ownsRow b 9 1 (.slice A n c) n (ws.map Value.string)) : Kd.C Kd.string w A ws.length ws := by
  subst hn
  exact row_front (more := []) (b := b) (c := c) (by simpa using h) hl
theorem q_in {w : World} {A : Option Addr} {c : Nat} {l : List Int} (hC : CI w A l) (hl : l.length ≤ 1048576) (n : Int) {b : Bool} (hb : l.contains n = b) (m : Nat) :
    Calls Tryd.prog 43 #[.slice A l.length c, .int .i64 n] (w.drewN m) fun e w'' => e = .returned (.bool b) ∧ ∃ k, w'' = w.drewN k := by
  have := KeepsWalk.in_calls A c l (Kd.C_drewN hC m) hl n
  rw [hb] at this
  exact this.mono fun e w' ⟨he, k, hd⟩ => ⟨he, m + k, by rw [hd, World.drewN_drewN]⟩
theorem q_isv {W w : World} {p g : Nat} {T : Tab} {rs : List Res} (h : SymSep.Sep W w (tabR p g T :: rs)) (n : Int) {b : Bool} (hb : isVarT T n = b) (m : Nat) :
    Calls Tryd.prog 24 #[.pointer (some ⟨p, 0, none⟩), .int .i64 n] (w.drewN m) fun e w'' => e = .returned (.bool b) ∧ ∃ k, w'' = w.drewN k := by
  obtain ⟨f, h1, _⟩ := (h.drawn (w' := w.drewN m) ⟨m, rfl⟩).head
  exact (isv_calls h1 n hb).mono fun e w' ⟨he, k, hd⟩ => ⟨he, m + k, by rw [hd, World.drewN_drewN]⟩
theorem picks_has {V : Int → Bool} {x vs : List Int} (h : Picks V x vs) {y : Int} (hy : y ∈ x) : vs.contains y = V y := by
  rw [Bool.eq_iff_iff, List.contains_iff_mem, h.mem]
  exact ⟨fun h => h.2, fun h => ⟨hy, h⟩⟩
theorem mod_some (a : Int) (n : Nat) : ∃ m : Nat, m ≤ n ∧ ((a.tmod ((n : Int) + 1) = (m : Int)) ∨ (a.tmod ((n : Int) + 1) = -(m : Int) ∧ 1 ≤ m)) := by
  have h1 := Int.tmod_lt_of_pos a (show (0 : Int) < (n : Int) + 1 by omega)
  have h2 := Int.tmod_lt_of_pos (-a) (show (0 : Int) < (n : Int) + 1 by omega)
  rw [Int.neg_tmod] at h2
  generalize a.tmod ((n : Int) + 1) = r at *
  by_cases h : 0 ≤ r
  · exact ⟨r.toNat, by omega, .inl (by omega)⟩
  · exact ⟨(-r).toNat, by omega, .inr ⟨by omega, by omega⟩⟩
theorem row_nil {W w : World} {rs : List Res} (h : SymSep.Sep W w rs) : SymSep.Sep W w (rowR 9 1 (.slice none 0 0) 0 (([] : List ByteArray).map Value.string) :: rs) :=
  h.fresh (w' := w) (f := fun _ => False) (Turns.refl _ _) ⟨World.ownsRow_nil _ _ _ _, fun k hk => by simp [Value.ownBlock] at hk⟩ (fun _ h => h.elim)
/-- A list of strings of one's own grows by others. -/
theorem wp_more {ops : Array Oper} {rest : List Oper} {o : Oper} {a : Act} {Q : Exit → Act → World → Prop} {W w : World} {rs : List Res} (hgd : o.guard = none) (sl x : Operand)
    (hop : o.op = .call { callee := .builtin .append, args := #[sl, x], argTypes := #[38, 38] }) {v : Value} {n m N : Nat} {ws ws2 : List ByteArray} (M : SymSep.Sep W w (rowR 9 1 v n (ws.map Value.string) :: rs)) (hs : a.eval sl = v)
    {ad : Addr} {c2 : Nat} (hcells : ∀ j u, (ws2.map Value.string)[j]? = some u → w.cell? (ad.add j) = some u) (hx : a.eval x = .slice (some ad) m c2) (hm : ws2.length = m) (hN : n + m = N) (hsm : N ≤ 4194304)
    (h : ∀ A c w', N ≤ c → SymSep.Sep W w' (rowR 9 1 (.slice A N c) N ((ws ++ ws2).map Value.string) :: rs) → wpList Tryd.prog ops Q rest (a.put o.dst (.slice A N c)) w') : wpList Tryd.prog ops Q (o :: rest) a w := by
  obtain ⟨i9, hi9, hz0, hz1, hz2⟩ := info_parts SymNew.info9
  refine wpList_append_own_at w hgd sl x 38 hop 0 9 i9 (.string .empty) 1 16 Tryd.underlying38 hi9 hz0 hz1 hz2 rfl (by decide) v n (ws.map Value.string) hs M.row ad m c2 (ws2.map Value.string) hx (by simp [hm]) hcells ?_ (by unfold maxLen; omega) (by omega) (Nat.zero_le _) ?_
  · intro u hu
    obtain ⟨s, _, rfl⟩ := List.mem_map.1 hu
    rfl
  · intro v' w' hown hgrow _ hat
    subst hN
    rw [← List.map_append] at hown
    have M2 := M.appended (m := n + m) hown hgrow hat
    obtain ⟨A, c, e, hc⟩ := row_slice hown
    subst e
    exact h A c w' hc M2
theorem row_take {w : World} {b c n : Nat} {ws : List ByteArray} (h : w.ownsRow 0 9 1 (.slice (some ⟨b, 0, none⟩) n c) n (ws.map Value.string)) (m : Nat) : ∀ j u, ((ws.take m).map Value.string)[j]? = some u → w.cell? ((⟨b, 0, none⟩ : Addr).add j) = some u := by
  intro j u hu
  rw [List.map_take] at hu
  have hj := (List.getElem?_eq_some_iff.1 hu).1
  rw [List.length_take] at hj
  rw [List.getElem?_take, if_pos (by omega)] at hu
  have hl := h.1
  obtain ⟨g, cap, e, _, hcell, _⟩ := row_some h (by simp at hj hl; omega)
  simp only [Value.slice.injEq, Option.some.injEq, Addr.mk.injEq, and_true, true_and] at e
  rw [Addr.add_lit, Nat.zero_add, e.1]
  exact hcell j u hu
theorem row_drop {w : World} {b c n : Nat} {ws : List ByteArray} (h : w.ownsRow 0 9 1 (.slice (some ⟨b, 0, none⟩) n c) n (ws.map Value.string)) (m : Nat) : ∀ j u, ((ws.drop m).map Value.string)[j]? = some u → w.cell? ((⟨b, m, none⟩ : Addr).add j) = some u := by
  intro j u hu
  rw [List.map_drop, List.getElem?_drop] at hu
  have hj := (List.getElem?_eq_some_iff.1 hu).1
  have hl := h.1
  obtain ⟨g, cap, e, _, hcell, _⟩ := row_some h (by simp at hj hl; omega)
  simp only [Value.slice.injEq, Option.some.injEq, Addr.mk.injEq, and_true, true_and] at e
  rw [Addr.add_lit, e.1]
  exact hcell _ u hu
theorem bad_eq1 (T : Tab) (x : List Int) (m : Nat) : [] ++ (names T x).take m ++ [odd] ++ (names T x).drop m = badWords T x m := by simp [badWords]
theorem bad_eq2 (T : Tab) (x : List Int) {m : Nat} (h : x.length ≤ m) : [] ++ (names T x).take m ++ [odd] ++ [] = badWords T x m := by
  unfold badWords
  rw [List.drop_of_length_le (by rw [names_len]; exact h)]
  simp
theorem bad_len (T : Tab) (x : List Int) {m : Nat} (h : m ≤ x.length) : (badWords T x m).length = x.length + 1 := by
  simp [badWords, names_len]
  omega
set_option maxHeartbeats 8000000 in
set_option maxRecDepth 100000 in
theorem walk {w : World} (hb : SymScan.Blanks w) (hpow : Pows w) (L : Option Addr) (lc : Nat) (l : List DeclRec) (hd : Decls w L l) (hll : l.length ≤ 8796093022208)
    (P : Option Addr) (pc : Nat) (picks : List Int) (hp : CI w P picks) (hpl : picks.length ≤ 17592186044416) (hpf : Fits picks) (at_ : Int) (hat0 : -9223372036854775808 ≤ at_) (hat1 : at_ ≤ 9223372036854775807) :
    Calls Tryd.prog 12 #[.slice L l.length lc, .slice P picks.length pc, .int .i64 at_] w fun ed w' => ed = .returned (.bool true) ∧ Below w.heap.size w w' := by
  have Hb := Lib.hid hb
  have HPow := Aside0.mk hpow
  have HD := Aside0.mk hd
  have HP := Aside0.mk hp
  have HF := Aside0.mk hpf
  clear hb hpow hd hp hpf
  go_enter Tryd.func12, Tryd.ntmps12
  go_wp2_with fail
  refine (s_tab (Sep.start w)).mono ?_
  rintro e w1 ⟨p, rfl, hm⟩
  have M := Aside0.mk hm
  clear hm
  go_wp2_with fail
  refine (s_const Hb.out M.out (s := op) (by decide) (by unfold maxLen; omega) const_op).mono ?_
  rintro e w2 ⟨rfl, hm⟩
  replace M := Aside0.mk hm
  clear hm
  go_wp2_with fail
  go_loopw [10] (fun v10 wr => ∃ (i : Nat) (T : Tab), i ≤ l.length ∧ v10 = .int .i64 i ∧ Aside0 (Head T) ∧ Aside0 (SymSep.Sep w wr [tabR p (2 * i + 2) T])) (fun v10 _ => l.length - (intOf v10).toNat)
  case atStart => exact ⟨0, To, by omega, rfl, ⟨head_To⟩, M⟩
  case round =>
    clear M
    obtain ⟨i, T, hi, rfl, HH, M⟩ := hrel
    by_cases hlt : i < l.length
    · obtain ⟨a, rfl⟩ := HD.out.some_ (by omega)
      obtain ⟨x1, x2, hxs⟩ := (HD.out.below M.out.1).at_ a i l[i] rfl (List.getElem?_eq_getElem hlt)
      generalize l[i] = x at x1 x2 hxs
      obtain ⟨k, s⟩ := x
      simp only at x1 x2 hxs
      have hg : 2 * i + 2 + 2 < maxLen := by unfold maxLen; omega
      by_cases k1 : k = 1
      · subst k1
        go_wp2_with fail
        refine (s_const' Hb.out M.out hxs hg).mono ?_
        rintro e w4 ⟨rfl, hm⟩
        replace M := Aside0.mk hm
        replace HH := Aside0.mk (head_const (s := s) HH.out)
        clear hm x1 x2
        go_wp2_with fail
        go_roundw
        case rel => exact ⟨i + 1, _, by omega, by go_num, HH, M⟩
        case measure => simp [intOf]; omega
      by_cases k2 : k = 2
      · subst k2
        go_wp2_with fail
        refine (s_var Hb.out M.out hxs hg).mono ?_
        rintro e w4 ⟨rfl, hm⟩
        replace M := Aside0.mk hm
        replace HH := Aside0.mk (head_var (s := s) HH.out)
        clear hm x1 x2
        go_wp2_with fail
        go_roundw
        case rel => exact ⟨i + 1, _, by omega, by go_num, HH, M⟩
        case measure => simp [intOf]; omega
      by_cases k3 : k = 3
      · subst k3
        go_wp2_with fail
        refine (s_open M.out).mono ?_
        rintro e w3 ⟨rfl, hm⟩
        replace M := Aside0.mk (tab_up hm (show _ ≤ 2 * (i + 1) + 2 by omega))
        replace HH := Aside0.mk (head_open HH.out)
        clear hm x1 x2
        go_wp2_with fail
        go_roundw
        case rel => exact ⟨i + 1, _, by omega, by go_num, HH, M⟩
        case measure => simp [intOf]; omega
      by_cases k4 : k = 4
      · subst k4
        go_wp2_with fail
        refine (s_close M.out).mono ?_
        rintro e w3 ⟨rfl, hm⟩
        replace M := Aside0.mk (tab_up hm (show _ ≤ 2 * (i + 1) + 2 by omega))
        replace HH := Aside0.mk (head_close HH.out)
        clear hm x1 x2
        go_wp2_with fail
        go_roundw
        case rel => exact ⟨i + 1, _, by omega, by go_num, HH, M⟩
        case measure => simp [intOf]; omega
      have e1 : (k == 1) = false := by simpa using k1
      have e2 : (k == 2) = false := by simpa using k2
      have e3 : (k == 3) = false := by simpa using k3
      have e4 : (k == 4) = false := by simpa using k4
      replace M := Aside0.mk (tab_up M.out (show _ ≤ 2 * (i + 1) + 2 by omega))
      clear k1 k2 k3 k4
      go_wp2_with fail
      go_roundw
      case rel => exact ⟨i + 1, T, by omega, by go_num, HH, M⟩
      case measure => simp [intOf]; omega
    · clear hi
      generalize 2 * i + 2 = g at M
      go_wp2_with fail
      clear hlt
      replace M := Aside0.mk (row_lit M.out 0)
      go_loopw [11, 12] (fun v11 v12 wq => ∃ (i : Nat) (x : List Int), i ≤ picks.length ∧ i ≤ 199 ∧ v12 = .int .i64 i ∧ x.length ≤ i + 1 ∧ 0 < x.length ∧ Aside0 (Actives T x) ∧ Aside0 (SymSep.Sep w wq [rowR 3 1 v11 x.length (x.map num), tabR p g T])) (fun _ v12 _ => picks.length - (intOf v12).toNat)
      case atStart => exact ⟨0, [0], by omega, by omega, rfl, by simp, by simp, ⟨by intro k hk; simp at hk; subst hk; exact head_active (s_wf M.out.swap) HH.out⟩, M⟩
      case round =>
        clear M
        obtain ⟨i, x, hi, hi2, rfl, hxl, hx0, HA, M⟩ := hrel
        have hcnt := head_count HH.out
        have hfew := (s_wf M.out.swap).few
        by_cases hlt : i < picks.length ∧ i < 199
        · obtain ⟨hlt, hlt2⟩ := hlt
          have dlt2 : decide ((i : Int) < 199) = true := decide_eq_true (by omega)
          obtain ⟨ad, rfl, hx⟩ := Kd.at_int (Kd.C_below HP.out M.out.1) (i : Int) (by omega) (by omega)
          rw [rd_of hlt, Int.toNat_natCast] at hx
          have hfx := HF.out picks[i] (List.getElem_mem hlt)
          generalize picks[i] = y at hx hfx
          have c0 : ((T.syms.length : Int) == 0) = false := beq_eq_false_iff_ne.2 (by omega)
          obtain ⟨A5, c5, e5, _⟩ := row_slice M.out.row
          subst e5
          by_cases hk0 : 0 ≤ y.tmod (T.syms.length : Int)
          · have hk1 : y.tmod (T.syms.length : Int) ≤ 512 := by
              have := Int.tmod_lt_of_pos y (show (0 : Int) < T.syms.length by omega)
              omega
            have HAct := fun m => t_active M.out (y.tmod (T.syms.length : Int)) m
            have Hact := Lib.hid HAct
            clear HAct
            go_wp2_with fail
            go_quiet ((go_at_call 20; exact t_count M.out _))
            go_wp2_with fail
            refine (Hact.out _).mono ?_
            rintro e w5 ⟨rfl, nq2, rfl⟩
            generalize y.tmod (T.syms.length : Int) = k at hk0 hk1 Hact
            clear Hact
            replace M := Aside0.mk (M.out.drawn (w' := wr.drewN nq2) ⟨nq2, rfl⟩)
            generalize wr.drewN nq2 = w5 at M
            cases hact : activeT T k with
            | true =>
              have HA2 := Aside0.mk (show Actives T (x ++ [k]) from fun n hn => by
                rcases List.mem_append.1 hn with hn | hn
                · exact HA.out n hn
                · simp at hn; subst hn; exact hact)
              clear hact
              obtain ⟨i3, hi3, hz0, hz1, hz2⟩ := info_parts ReadW.info3'
              have Hi3 := Aside0.mk hi3
              have Hz03 := Aside0.mk hz0
              have Hz13 := Aside0.mk hz1
              have Hz23 := Aside0.mk hz2
              clear hi3 hz0 hz1 hz2
              go_wp2_with (at_builtin; refine wpList_append_own_at _ rfl (.tmp 96) (.tmp 98) 57 rfl 0 3 i3 (.int .i64 0) 1 8 Tryd.underlying57 Hi3.out Hz03.out Hz13.out Hz23.out rfl (by decide) _ x.length (x.map num) rfl (M.out.row.alloc _) ⟨w5.heap.size, 0, none⟩ 1 1 [num k] rfl rfl (cell_one_new _ _ _) ?c2 (by unfold maxLen; omega) (by omega) (Nat.zero_le _) ?_)
              case c2 => intro u hu; simp at hu; subst hu; rfl
              intro v7 w7 hown7 hgrow7 hnil7 hat7
              have hm := (M.out.alloc (Obj.cells #[num k] 3)).appended (m := x.length + 1) (ys := (x ++ [k]).map num) (by simpa using hown7) hgrow7 (by simpa using hat7)
              replace M := Aside0.mk hm
              clear hm hown7 hgrow7 hnil7 hat7
              go_wp2_with fail
              go_roundw
              case rel => exact ⟨i + 1, x ++ [k], by omega, by omega, by go_num, by simp; omega, by simp, HA2, by simpa using M⟩
              case measure => simp [intOf]; omega
            | false =>
              clear hact
              go_wp2_with fail
              go_roundw
              case rel => exact ⟨i + 1, x, by omega, by omega, by go_num, by omega, by omega, HA, M⟩
              case measure => simp [intOf]; omega
          · go_wp2_with fail
            go_quiet ((go_at_call 20; exact t_count M.out _))
            go_wp2_with fail
            go_roundw
            case rel => exact ⟨i + 1, x, by omega, by omega, by go_num, by omega, by omega, HA, ⟨M.out.drawn ⟨_, rfl⟩⟩⟩
            case measure => simp [intOf]; omega
        · have hx : (i < picks.length ∧ ¬ i < 199) ∨ ¬ i < picks.length := by omega
          have h200 : x.length ≤ 200 := by omega
          clear hlt hxl hi2
          rcases hx with ⟨h1, h2⟩ | h1
          case' inl => have dlt2 : decide ((i : Int) < 199) = false := decide_eq_false (by omega)
          all_goals
            have hw := s_wf M.out.swap
            obtain ⟨F1, hT, hF1⟩ := M.out.swap.head
            obtain ⟨A5, c5, e5, hc5, hC5⟩ := row_reads M.out.row
            subst e5
            have HW := Aside0.mk hw
            have Hpr := Aside0.mk (print_calls hT (fun k hk => (hF1 k hk).2) (HPow.out.below M.out.1) A5 c5 x hC5 (by omega) (actives_fit hw HA.out))
            clear hT hF1 hC5 hw
            go_wp2_with fail
            refine Hpr.out.mono ?_
            rintro e w5 ⟨rfl, hb5⟩
            replace M := Aside0.mk (M.out.below hb5)
            clear hb5 Hpr
            obtain ⟨kw, hkw⟩ := words_of HW.out (List.ne_nil_of_length_pos hx0) h200 HA.out
            have Hwd := Aside0.mk (lemmalaw03_words.calls kw _ _ w5 hkw)
            clear hkw
            go_wp2_with fail
            refine Hwd.out.mono ?_
            rintro e w6 ⟨v6, rfl, hR6, hB6⟩
            obtain ⟨A6, c6, e6, hc6, _⟩ := Kd.R_reads hR6
            have ho6 := Kd.own_of_R hR6
            subst e6
            rw [names_len] at ho6 hc6 ⊢
            replace M := Aside0.mk (s_fresh M.out hB6 ho6)
            clear hR6 hB6 ho6 Hwd
            go_wp2_with fail
            have hCw := strs_C (names_len T x) (by omega) M.out.row
            have hrd := s_read (rs := [rowR 9 1 (.slice A6 x.length c6) x.length ((names T x).map Value.string), rowR 3 1 (.slice A5 x.length c5) x.length (x.map num)]) (M.out.pull 2 (by simp)) A6 c6 (names T x) hCw (by rw [names_len]; omega) (names_small HW.out) (read_names HW.out HA.out h200)
            rw [names_len] at hrd
            have Hrd := Aside0.mk hrd
            clear hrd hCw
            refine Hrd.out.mono ?_
            rintro e w7 ⟨v7, rfl, hm, _⟩
            replace M := Aside0.mk hm
            clear hm Hrd
            obtain ⟨A7, c7, e7, hc7, hC7⟩ := row_reads M.out.row
            obtain ⟨_, _, eqq, _, hC5⟩ := row_reads (M.out.pull 3 (by simp)).row
            simp only [Value.slice.injEq, true_and] at eqq
            obtain ⟨rfl, rfl⟩ := eqq
            subst e7
            obtain ⟨ks, hks⟩ := same_law x (by omega)
            have HS := Aside0.mk (lemmalaw03_same.calls ks A7 c7 x A5 c5 x true w7 hC7 hc7 hC5 hc5 hks)
            clear hC7 hC5 hks
            go_wp2_with fail
            refine HS.out.mono ?_
            rintro ed w8 ⟨rfl, hd⟩
            replace M := Aside0.mk (M.out.drawn hd)
            clear hd HS
            go_wp2_with fail
            obtain ⟨F1, hT, hF1⟩ := (M.out.pull 1 (by simp)).head
            obtain ⟨_, _, eqq, _, hC5⟩ := row_reads (M.out.pull 3 (by simp)).row
            simp only [Value.slice.injEq, true_and] at eqq
            obtain ⟨rfl, rfl⟩ := eqq
            have HV := Aside0.mk (BackVars.vars_calls hT (fun k hk => (hF1 k hk).2) A5 c5 x hC5 (by omega))
            clear hT hF1 hC5
            refine HV.out.mono ?_
            rintro ed w9 ⟨v9, rfl, ho9, hB9⟩
            have hm := s_new M.out hB9 ho9
            obtain ⟨A9, c9, e9, hc9, _⟩ := row_reads ho9
            subst e9
            replace M := Aside0.mk hm
            have Hk := Aside0.mk (KeepsWalk.outK_picks (isVarT T) x x.length (Nat.le_refl _))
            have hol := KeepsWalk.outK_len (isVarT T) x x.length (Nat.le_refl _)
            clear hm ho9 hB9 HV
            generalize KeepsWalk.outK (isVarT T) x x.length = vs at M Hk hol hc9
            go_wp2_with fail
            have hxm : x.take x.length = x := List.take_length
            rw [hxm] at Hk
            clear hxm hc7
            go_loopw [19] (fun v19 wq => ∃ k : Nat, k ≤ x.length ∧ v19 = .int .i64 k ∧ Aside0 (SymSep.Sep w wq [rowR 3 1 (.slice A9 vs.length c9) vs.length (vs.map num), rowR 3 1 (.slice A7 x.length c7) x.length (x.map num), tabR p g T, rowR 9 1 (.slice A6 x.length c6) x.length ((names T x).map Value.string), rowR 3 1 (.slice A5 x.length c5) x.length (x.map num)])) (fun v19 _ => x.length - (intOf v19).toNat)
            case atStart => exact ⟨0, by omega, rfl, M⟩
            case round =>
              clear M
              obtain ⟨k, hk, rfl, M⟩ := hrel
              by_cases hlt : k < x.length
              · obtain ⟨_, _, eqq, _, hC5⟩ := row_reads (M.out.pull 4 (by simp)).row
                simp only [Value.slice.injEq, true_and] at eqq
                obtain ⟨rfl, rfl⟩ := eqq
                obtain ⟨_, _, eqq, _, hC9⟩ := row_reads M.out.row
                simp only [Value.slice.injEq, true_and] at eqq
                obtain ⟨rfl, rfl⟩ := eqq
                obtain ⟨ad, rfl, hx⟩ := Kd.at_int hC5 (k : Int) (by omega) (by omega)
                rw [rd_of hlt, Int.toNat_natCast] at hx
                have hmem : x[k] ∈ x := List.getElem_mem hlt
                generalize x[k] = y at hx hmem
                have hcv : vs.contains y = isVarT T y := picks_has Hk.out hmem
                have HC9 := Aside0.mk hC9
                clear hC5 hC9
                cases hv : isVarT T y with
                | true =>
                  rw [hv] at hcv
                  have Hv := Aside0.mk hv
                  have Hcv := Aside0.mk hcv
                  clear hv hcv
                  go_wp2_with fail
                  go_quiet (first | (go_at_call 43; exact q_in HC9.out (by omega) y Hcv.out _) | (go_at_call 24; exact q_isv (M.out.pull 2 (by simp)) y Hv.out _))
                  go_wp2_with fail
                  go_roundw
                  case rel => exact ⟨k + 1, by omega, by go_num, ⟨M.out.drawn ⟨_, rfl⟩⟩⟩
                  case measure => simp [intOf]; omega
                | false =>
                  rw [hv] at hcv
                  have Hv := Aside0.mk hv
                  have Hcv := Aside0.mk hcv
                  clear hv hcv
                  go_wp2_with fail
                  go_quiet (first | (go_at_call 43; exact q_in HC9.out (by omega) y Hcv.out _) | (go_at_call 24; exact q_isv (M.out.pull 2 (by simp)) y Hv.out _))
                  go_wp2_with fail
                  go_roundw
                  case rel => exact ⟨k + 1, by omega, by go_num, ⟨M.out.drawn ⟨_, rfl⟩⟩⟩
                  case measure => simp [intOf]; omega
              · obtain ⟨m, hmx, hm⟩ := mod_some at_ x.length
                obtain ⟨b6, cc6, e6, _, _⟩ := row_some (M.out.pull 3 (by simp)).row (by omega)
                simp only [Value.slice.injEq, true_and] at e6
                obtain ⟨rfl, rfl⟩ := e6
                have hk' : k = x.length := by omega
                clear hk
                have hm200 : (m = 200 ∧ ((m : Int) == 200) = true) ∨ (¬ m = 200 ∧ ((m : Int) == 200) = false) := by
                  by_cases h : m = 200
                  · exact .inl ⟨h, beq_iff_eq.2 (by omega)⟩
                  · exact .inr ⟨h, beq_eq_false_iff_ne.2 (by omega)⟩
                have hcap : m = c6 ∨ m < c6 := by omega
                rcases hm with hm | ⟨hm, hm1⟩
                all_goals rcases hcap with rfl | hcap
                all_goals
                  replace M := Aside0.mk (row_nil M.out)
                  go_wp2_with (first
                    | (at_builtin; refine wp_more rfl (.tmp 162) (.tmp 165) rfl M.out rfl (row_take (M.out.pull 4 (by simp)).row m) rfl (by simp [names_len]; omega) (show 0 + m = m by omega) (by omega) ?_; intro Ab cb wb hcb hm1; clear M; have M := Aside0.mk hm1; clear hm1)
                    | (at_builtin; refine wp_more rfl (.tmp 167) (.tmp 168) rfl (M.out.alloc (Obj.cells #[.string odd] 9)) rfl (ws2 := [odd]) (cell_one_new _ _ _) rfl rfl rfl (by omega) ?_; intro Ab2 cb2 wb2 hcb2 hm2; clear M; have M := Aside0.mk hm2; clear hm2)
                    | (at_builtin; refine wp_more rfl (.tmp 170) (.tmp 173) rfl M.out rfl (row_drop (M.out.pull 4 (by simp)).row m) rfl (by simp [names_len]) (show m + 1 + (x.length - m) = x.length + 1 by omega) (by omega) ?_; intro Ab3 cb3 wb3 hcb3 hm3; clear M; have M := Aside0.mk hm3; clear hm3)
                    | (at_builtin; refine wp_more rfl (.tmp 170) (.tmp 173) rfl M.out rfl (N := x.length + 1) (ws2 := []) (fun j u hu => by simp at hu) rfl (by first | rfl | (simp; omega)) (by omega) (by omega) ?_; intro Ab3 cb3 wb3 hcb3 hm3; clear M; have M := Aside0.mk hm3; clear hm3))
                  have hmb := M.out
                  first
                    | rw [bad_eq1] at hmb
                    | rw [bad_eq2 T x (by omega)] at hmb
                  clear M
                  have M := Aside0.mk hmb
                  clear hmb
                  have hCw := strs_C (bad_len T x hmx) (by omega) M.out.row
                  rcases hm200 with ⟨h2, d2⟩ | ⟨h2, d2⟩
                  all_goals
                    have hrb := read_bad HW.out HA.out h200 hmx
                    first
                      | rw [if_pos h2] at hrb
                      | rw [if_neg h2] at hrb
                    have hrd := s_read (M.out.pull 3 (by simp)) Ab3 cb3 (badWords T x m) hCw (by rw [bad_len T x hmx]; omega) (bad_small HW.out) hrb
                    rw [bad_len T x hmx] at hrd
                    clear h2 hrb
                    refine hrd.mono ?_
                    rintro e wz ⟨vz, rfl, hmz, _⟩
                    obtain ⟨Az, cz, ez, _⟩ := row_slice hmz.row
                    subst ez
                    clear M
                    have M := Aside0.mk hmz
                    clear hmz hrd hCw
                    go_wp2_with fail
                    go_ret
                    exact ⟨by simp, M.out.1⟩
end Go.Proofs.YtpoojimmponklaaDoor.BackLaw
