/- SymMemory walked. -/
import Derived.Test.YtpoojimmponklaaDoorMemoryPure
import Derived.Laws.AppendOwnNone
namespace Go.Proofs.YtpoojimmponklaaDoor.SymMemory
open Go.RowKit Go.Maps Go.Proofs.YtpoojimmponklaaDoor.SymTab Go.Proofs.YtpoojimmponklaaDoor.SymHeap Go.Proofs.YtpoojimmponklaaDoor.SymReads Go.Proofs.YtpoojimmponklaaDoor.SymApi Go.Proofs.YtpoojimmponklaaDoor.SymBegun Go.Proofs.YtpoojimmponklaaDoor.SymScan Go.Proofs.YtpoojimmponklaaDoor.SymScript Go.Proofs.YtpoojimmponklaaDoor.SymNew Go.Proofs.YtpoojimmponklaaDoor.SymAdd Go.Proofs.YtpoojimmponklaaDoor.SymConst Go.Proofs.YtpoojimmponklaaDoor.SymSep Go.Proofs.YtpoojimmponklaaDoor.SymMemoryPure
open Go.Proofs.YtpoojimmponklaaDoorW.PrintWords
open Go.Proofs.YtpoojimmponklaaDoorW.PrintLast
set_option linter.unusedVariables false
set_option linter.unusedSimpArgs false

def first : ByteArray := ⟨#[102, 105, 114, 115, 116]⟩
def second : ByteArray := ⟨#[115, 101, 99, 111, 110, 100]⟩
def T3 : Tab := { T2 with labels := [first] }
def T4 : Tab := { T2 with labels := [first, second] }
theorem label_1 : labelT T2 first = (T3, 0) := by
  unfold labelT
  rw [if_neg (by decide), if_neg (by decide), if_neg (by decide)]
  rfl
theorem label_2 : labelT T3 second = (T4, 0) := by
  unfold labelT
  rw [if_neg (by decide), if_neg (by decide), if_neg (by decide)]
  rfl
/-- The first two labels stay. -/
def Stay (T : Tab) : Prop := ∃ more, T.labels = first :: second :: more
theorem stay_do {T : Tab} (h : Stay T) (k : Int) (s : ByteArray) : Stay (doT T k s) := by
  by_cases hk : k = 10
  · subst hk
    obtain ⟨more, h⟩ := h
    show Stay (labelT T s).1
    unfold labelT
    split
    · exact ⟨more, h⟩
    · split
      · exact ⟨more, h⟩
      · split
        · exact ⟨more, h⟩
        · exact ⟨more ++ [s], by show T.labels ++ [s] = _; rw [h]; rfl⟩
  · obtain ⟨more, h⟩ := h
    exact ⟨more, by rw [SymLabelsPure.do_labels T k s hk]; exact h⟩

theorem old_cells {w : World} {v : Value} {m : ByteArray} {n : Nat} {f : Nat → Prop} (h : Marked w v m n f) : ∃ A c, v = .slice A n c ∧ n ≤ maxLen ∧ ∀ j, j < n → ∃ b, A = some ⟨b, 0, none⟩ ∧ w.cell? ⟨b, j, none⟩ = some (.string m) := by
  rcases h.1.2 with ⟨rfl, h0⟩ | ⟨g, cap, cur, rfl, _, _, hn, hc, _⟩
  · subst h0
    exact ⟨none, 0, rfl, Nat.zero_le _, fun j hj => by omega⟩
  · refine ⟨_, cap, rfl, by omega, fun j hj => ⟨g, rfl, ?_⟩⟩
    obtain ⟨b', cap', eb, _, hcell, _⟩ := row_some h.1 (by omega)
    simp only [Value.slice.injEq, Option.some.injEq, Addr.mk.injEq, and_true, true_and] at eb
    obtain ⟨rfl, rfl⟩ := eb
    exact hcell j _ (by simp [hj])
theorem old_at {W w : World} {rs : List Res} {vs gs : List Value} (h : Sep W w (oldR vs gs :: rs)) {k : Nat} {v : Value} (hv : vs[k]? = some v ∨ gs[k]? = some v) :
    ∃ A n c, v = .slice A n c ∧ n ≤ maxLen ∧ ∀ j, j < n → ∃ b, A = some ⟨b, 0, none⟩ ∧ w.cell? ⟨b, j, none⟩ = some (.string (numOf k)) := by
  obtain ⟨f, hf, _⟩ := h.head
  rcases hv with hv | hv
  · obtain ⟨n, hn⟩ := (hf k v).1 hv
    obtain ⟨A, c, e, h1, h2⟩ := old_cells hn
    exact ⟨A, n, c, e, h1, h2⟩
  · obtain ⟨n, hn⟩ := (hf k v).2 hv
    obtain ⟨A, c, e, h1, h2⟩ := old_cells hn
    exact ⟨A, n, c, e, h1, h2⟩
theorem cell_on {w w' : World} {a : Addr} {v : Value} (hb : Below w.heap.size w w') (h : w.cell? a = some v) : w'.cell? a = some v := (hb.cell (World.block_lt_of_cell? w _ h)).trans h
theorem info38 : (Tryd.prog.info? 38).map (fun i => (i.zero, i.size, i.bytes)) = some (some (.slice none 0 0), 1, 24) := by kernel_rfl
theorem own_less {w : World} {b n m c : Nat} {u : Value} (h : w.ownsRow 0 9 1 (.slice (some ⟨b, 0, none⟩) (n + m) c) (n + m) (List.replicate (n + m) u)) : w.ownsRow 0 9 1 (.slice (some ⟨b, 0, none⟩) n c) n (List.replicate n u) := by
  refine ⟨by simp, .inr ?_⟩
  rcases h.2 with ⟨e1, _⟩ | ⟨g', cap', cur, e1, hb, hgg, hn, hc, hsz, htk⟩
  · cases e1
  · simp only [Value.slice.injEq, Option.some.injEq, Addr.mk.injEq, and_true, true_and] at e1
    obtain ⟨rfl, rfl⟩ := e1
    refine ⟨b, c, cur, rfl, hb, hgg, by omega, hc, hsz, ?_⟩
    have h2 := congrArg (List.take (n * 1)) htk
    rw [List.take_take, List.take_replicate] at h2
    rw [show min (n * 1) ((n + m) * 1) = n * 1 by omega] at h2
    rw [h2]
    congr 1
    omega
theorem wp_both {ops : Array Oper} {rest : List Oper} {o : Oper} {a : Act} {Q : Exit → Act → World → Prop} {w : World} (hgd : o.guard = none) (sl x : Operand)
    (hop : o.op = .call { callee := .builtin .append, args := #[sl, x], argTypes := #[38, 38] }) {b c n : Nat} {m : ByteArray} (hs : a.eval sl = .slice (some ⟨b, 0, none⟩) n c)
    (hown : w.ownsRow 0 9 1 (.slice (some ⟨b, 0, none⟩) n c) n (List.replicate n (.string m))) (ad : Addr) (c2 : Nat) (hx : a.eval x = .slice (some ad) 2 c2) (hnews : ∀ j u, [Value.string m, .string m][j]? = some u → w.cell? (ad.add j) = some u) (hn : n ≤ 1048576)
    (h : ∀ A' c' w', (w'.ownsRow 0 9 1 (.slice (some ⟨b, 0, none⟩) n c) n (List.replicate n (.string m)) ∧ w'.ownsRow 0 9 1 (.slice A' (n + 2) c') (n + 2) (List.replicate (n + 2) (.string m)) ∧ w.grownBy w' (some b) ∧
      (∀ k, (Value.slice A' (n + 2) c').ownBlock = some k → k = b ∨ w.heap.size ≤ k)) → wpList Tryd.prog ops Q rest (a.put o.dst (.slice A' (n + 2) c')) w') : wpList Tryd.prog ops Q (o :: rest) a w := by
  obtain ⟨i0, hi, hz0, hz1, hz2⟩ := info_parts SymNew.info9
  have hr : List.replicate n (Value.string m) ++ [.string m, .string m] = List.replicate (n + 2) (.string m) := by
    rw [show n + 2 = n + 1 + 1 from rfl, List.replicate_succ', List.replicate_succ', List.append_assoc]
    rfl
  by_cases hfit : n + 2 ≤ c
  · refine wpList_append_fits w hgd sl x 38 hop 0 9 i0 1 Tryd.underlying38 hi hz1 b n c _ hs hown ad 2 c2 [.string m, .string m] hx rfl hnews (by intro u hu; simp at hu; subst hu; rfl) hfit ?_
    intro w' hown' hgrow
    rw [hr] at hown'
    exact h _ _ w' ⟨own_less hown', hown', hgrow, fun k hk => .inl (by simp [Value.ownBlock] at hk; omega)⟩
  · refine wpList_append_grows w hgd sl x 38 hop 9 i0 (.string .empty) 1 16 Tryd.underlying38 hi hz0 hz1 hz2 rfl (by decide) (some ⟨b, 0, none⟩) n c (List.replicate n (.string m)) hs (fun e => by cases e) (by simp) (fun b' hb' j u hj => by cases hb'; exact hown.cells rfl j u hj) ad 2 c2 [.string m, .string m] hx rfl hnews (by intro u hu; simp at hu; subst hu; rfl) (by omega) (by unfold maxLen; omega) (by omega) ?_
    intro v' w' hown' hgrow
    rw [hr] at hown'
    obtain ⟨A', c', e', _⟩ := row_slice hown'
    subst e'
    refine h A' c' w' ⟨own_move hown (fun k hk => hgrow.block k (hown.lt k hk).2 (by simp)), owns_zero hown', ⟨hgrow.os, hgrow.tape, hgrow.output, hgrow.size, fun k hk _ => hgrow.block k hk (by simp)⟩, fun k hk => .inr (hown'.lt k hk).1⟩
theorem cells_pair (w : World) (x y : Value) (t : TypeId) : ∀ j u, [x, y][j]? = some u → (w.alloc (.cells #[x, y] t)).cell? ((⟨w.heap.size, 0, none⟩ : Addr).add j) = some u := cells_two_new w x y t
theorem re_a {W w : World} {a b c d e f : Res} (h : Sep W w [a, b, c, d, e, f]) : Sep W w [b, f, d, e, c, a] := by
  have h1 : Sep W w [c, a, b, d, e, f] := Sep.pull h 2 (by simp)
  have h2 : Sep W w [e, c, a, b, d, f] := Sep.pull h1 4 (by simp)
  have h3 : Sep W w [d, e, c, a, b, f] := Sep.pull h2 4 (by simp)
  have h4 : Sep W w [f, d, e, c, a, b] := Sep.pull h3 5 (by simp)
  exact Sep.pull h4 5 (by simp)
theorem re_b {W w : World} {a b c d e : Res} (h : Sep W w [a, b, c, d, e]) : Sep W w [b, c, d, e, a] := by
  have h1 : Sep W w [e, a, b, c, d] := Sep.pull h 4 (by simp)
  have h2 : Sep W w [d, e, a, b, c] := Sep.pull h1 4 (by simp)
  have h3 : Sep W w [c, d, e, a, b] := Sep.pull h2 4 (by simp)
  exact Sep.pull h3 4 (by simp)
/-- Behind it. -/
theorem both_of {W w w' : World} {rs : List Res} {b c n : Nat} {m : ByteArray} {A' : Option Addr} {c' : Nat} (h : Sep W w (rowR 9 1 (.slice (some ⟨b, 0, none⟩) n c) n (List.replicate n (.string m)) :: rs))
    (hx : w'.ownsRow 0 9 1 (.slice (some ⟨b, 0, none⟩) n c) n (List.replicate n (.string m)) ∧ w'.ownsRow 0 9 1 (.slice A' (n + 2) c') (n + 2) (List.replicate (n + 2) (.string m)) ∧ w.grownBy w' (some b) ∧
      (∀ k, (Value.slice A' (n + 2) c').ownBlock = some k → k = b ∨ w.heap.size ≤ k)) : Sep W w' (bothR (.slice (some ⟨b, 0, none⟩) n c) (.slice A' (n + 2) c') m n :: rs) := by
  obtain ⟨x1, x2, x3, x4⟩ := hx
  refine h.turn fun f ⟨h1, h2⟩ => ⟨⟨⟨x1, fun k hk => .inl (h2 k hk)⟩, ⟨x2, fun k hk => ?_⟩⟩, Turns.of_grown x3 (fun k hk => h2 k hk)⟩
  rcases x4 k hk with e | e
  · subst e
    exact .inl (h2 _ rfl)
  · exact .inr e

set_option maxHeartbeats 8000000 in
set_option maxRecDepth 100000 in
theorem walk {w : World} (hb : Blanks w) (A : Option Addr) (c : Nat) (l : List OpRec) (hl : l.length ≤ 4398046511104) (hs : Script w A l) :
    Calls Tryd.prog 6 #[.slice A l.length c] w fun e w' => e = .returned (.bool true) ∧ Below w.heap.size w w' := by
  have Hb := Lib.hid hb
  have HS := Lib.hid hs
  clear hb hs
  go_enter Tryd.func6, Tryd.ntmps6
  go_wp2_with fail
  refine (begun_calls Hb.out).mono ?_
  rintro e w1 ⟨p, rfl, h1, t1⟩
  have M := Aside0.mk ((Sep.start w).fresh (r := tabR p 4 T2) (f := fun k => w.heap.size ≤ k) t1 h1 (fun k hk => hk))
  clear h1 t1
  go_wp2_with fail
  refine (s_label M.out (s := first) (by decide) (by unfold maxLen; omega) label_1).mono ?_
  rintro e w2 ⟨rfl, hm⟩
  replace M := Aside0.mk hm
  clear hm
  go_wp2_with fail
  refine (s_label M.out (s := second) (by decide) (by unfold maxLen; omega) label_2).mono ?_
  rintro e w3 ⟨rfl, hm⟩
  replace M := Aside0.mk hm
  clear hm
  go_wp2_with fail
  go_loopw [5, 6, 7] (fun v5 v6 v7 wr => ∃ (i : Nat) (T : Tab) (vs gs : List Value), i ≤ l.length ∧ v7 = .int .i64 i ∧ vs.length = min i 30 ∧ gs.length = min i 30 ∧ Aside0 (Stay T) ∧ Aside0 (Sep w wr [tabR p (8 + 2 * i) T, rowR 38 1 v5 (min i 30) vs, rowR 38 1 v6 (min i 30) gs, oldR vs gs])) (fun _ _ v7 _ => l.length - (intOf v7).toNat)
  case atStart =>
    refine ⟨0, T4, [], [], by omega, rfl, rfl, rfl, ⟨⟨[], rfl⟩⟩, ⟨?_⟩⟩
    have m1 := M.out.fresh (w' := w3) (r := rowR 38 1 (.slice none 0 0) 0 []) (f := fun _ => False) (Turns.refl _ _) ⟨World.ownsRow_nil _ _ _ _, fun k hk => by simp [Value.ownBlock] at hk⟩ (fun _ h => h.elim)
    have m2 := m1.fresh (w' := w3) (r := rowR 38 1 (.slice none 0 0) 0 []) (f := fun _ => False) (Turns.refl _ _) ⟨World.ownsRow_nil _ _ _ _, fun k hk => by simp [Value.ownBlock] at hk⟩ (fun _ h => h.elim)
    have m3 := m2.fresh (w' := w3) (r := oldR [] []) (f := fun _ => False) (Turns.refl _ _) (fun k v => ⟨fun h => by simp at h, fun h => by simp at h⟩) (fun _ h => h.elim)
    exact m3.perm ((pull_perm _ 3 (by simp)).trans (List.Perm.cons _ ((pull_perm _ 1 (by simp)).trans (List.Perm.cons _ (List.Perm.swap _ _ _)))))
  case round =>
    clear M
    obtain ⟨i, T, vs, gs, hi, rfl, hvs, hgs, HT, M⟩ := hrel
    by_cases hlt : i < l.length
    · go_wp2_with fail
      refine (s_labels M.out).mono ?_
      rintro e w4 ⟨A4, c4, rfl, hc4, hm⟩
      replace M := Aside0.mk hm
      clear hm
      have hpos : 2 ≤ T.labels.length := by obtain ⟨more, hmore⟩ := HT.out; rw [hmore]; simp
      have hmax := (s_wf M.out.tail).labels
      obtain ⟨b, cap, eb, hcap, hcell, hfz, _⟩ := row_some M.out.row (by omega)
      simp only [Value.slice.injEq, true_and] at eb
      obtain ⟨rfl, rfl⟩ := eb
      have Hc := Aside0.mk (show ∀ j u, (T.labels.map Value.string)[j]? = some u → w4.cell? ((⟨b, 0, none⟩ : Addr).add j) = some u from fun j u hu => M.out.row.cells rfl j u hu)
      have Hn := Aside0.mk (World.ownsRow_nil w4 w4.heap.size 9 1)
      obtain ⟨i9, hi9, hz0, hz1, hz2⟩ := info_parts SymNew.info9
      have Hi9 := Aside0.mk hi9
      have Hz09 := Aside0.mk hz0
      have Hz19 := Aside0.mk hz1
      have Hz29 := Aside0.mk hz2
      clear hi9 hz0 hz1 hz2 hcell hfz
      go_wp2_with (at_builtin; refine wpList_append_own_at _ rfl (.tmp 39) (.tmp 40) 38 rfl w4.heap.size 9 i9 (.string .empty) 1 16 Tryd.underlying38 Hi9.out Hz09.out Hz19.out Hz29.out rfl (by decide) _ 0 [] rfl Hn.out ⟨b, 0, none⟩ T.labels.length c4 (T.labels.map Value.string) rfl (by simp) Hc.out ?c2 (by unfold maxLen; omega) (by omega) (Nat.le_refl _) ?_)
      case c2 =>
        intro u hu
        obtain ⟨s, _, rfl⟩ := List.mem_map.1 hu
        rfl
      intro v5 w5 hown5 hgrow5 hnil5 hat5
      have hm : Sep w w5 (rowR 9 1 v5 T.labels.length (T.labels.map Value.string) :: _) := M.out.fresh (f := fun k => w4.heap.size ≤ k) (Turns.of_grown hgrow5 (fun k hk => by simp [Value.ownBlock] at hk)) ⟨owns_zero (by simpa using hown5), fun k hk => (hown5.lt k hk).1⟩ (fun _ hk => hk)
      replace M := Aside0.mk hm.swap
      obtain ⟨A5, c5, e5, hc5⟩ := row_slice hm.row
      subst e5
      clear hm hown5 hgrow5 hnil5 hat5 Hc Hn
      go_wp2_with fail
      refine (num_any (n := i) (by omega)).mono ?_
      rintro e w6 ⟨rfl, hbel⟩
      replace M := Aside0.mk (M.out.below hbel)
      clear hbel
      generalize hs : numOf i = s
      have Hs := Lib.hid hs
      clear hs
      go_wp2_with fail
      go_loopw [11] (fun v11 wq => ∃ k : Nat, k ≤ T.labels.length ∧ v11 = .int .i64 k ∧ Aside0 (Sep w wq (rowR 9 1 (.slice (some ⟨b, 0, none⟩) T.labels.length c4) T.labels.length (List.replicate k (.string s) ++ (T.labels.map Value.string).drop k) :: [rowR 9 1 (.slice A5 T.labels.length c5) T.labels.length (T.labels.map Value.string), tabR p (8 + 2 * i) T, rowR 38 1 u5 (min i 30) vs, rowR 38 1 u6 (min i 30) gs, oldR vs gs]))) (fun v11 _ => T.labels.length - (intOf v11).toNat)
      case atStart => exact ⟨0, by omega, rfl, by simpa using M⟩
      case round =>
        clear M
        obtain ⟨k, hk, rfl, M⟩ := hrel
        obtain ⟨b', cap', eb, _, hcell, hfz, _⟩ := row_some M.out.row (by omega)
        simp only [Value.slice.injEq, Option.some.injEq, Addr.mk.injEq, and_true, true_and] at eb
        obtain ⟨rfl, rfl⟩ := eb
        by_cases hkn : k < T.labels.length
        · have ck := hcell k (.string T.labels[k]) (by rw [List.getElem?_append_right (by simp)]; simp [hkn])
          have fk := hfz k
          have Hset := Lib.hid (show (List.replicate k (Value.string s) ++ (T.labels.map Value.string).drop k).set k (.string s) = List.replicate (k + 1) (.string s) ++ (T.labels.map Value.string).drop (k + 1) from by
            have hkm : k < (T.labels.map Value.string).length := by simpa using hkn
            rw [List.drop_eq_getElem_cons hkm, List.replicate_succ']
            rw [List.set_append_right _ _ (by simp)]
            simp)
          generalize T.labels[k] = old at ck
          clear hcell hfz
          have M2 := Aside0.mk (M.out.stored (j := k) (u := .string s) hkn rfl)
          go_wp2_with fail
          go_roundw
          case rel => exact ⟨k + 1, by omega, by go_num, by rw [← Hset.out]; exact M2⟩
          case measure => simp [intOf]; omega
        · have hk' : k = T.labels.length := by omega
          subst hk'
          have hrep : List.replicate T.labels.length (Value.string s) ++ (T.labels.map Value.string).drop T.labels.length = List.replicate T.labels.length (Value.string s) := by
            rw [List.drop_of_length_le (by simp), List.append_nil]
          have hm := M.out
          rw [hrep] at hm
          replace M := Aside0.mk hm
          clear hm hrep hcell hfz
          by_cases h30 : i < 30
          · have hmin : min i 30 = i := by omega
            have hm := M.out
            rw [hmin] at hm hvs hgs
            replace M := Aside0.mk (hm.pull 3 (by simp))
            clear hm hmin
            obtain ⟨AL, cL, e, _⟩ := row_slice M.out.row
            subst e
            obtain ⟨AG, cG, e, _⟩ := row_slice (Sep.row (M.out.pull 4 (by simp)))
            subst e
            have HR := Aside0.mk M.out.row
            obtain ⟨i38, hi38, hz0, hz1, hz2⟩ := info_parts info38
            have Hi38 := Aside0.mk hi38
            have Hz038 := Aside0.mk hz0
            have Hz138 := Aside0.mk hz1
            have Hz238 := Aside0.mk hz2
            clear hi38 hz0 hz1 hz2
            go_wp2_with (at_builtin; refine wpList_append_own_at _ rfl (.tmp 56) (.tmp 58) 46 rfl 0 38 i38 (.slice none 0 0) 1 24 Tryd.underlying46 Hi38.out Hz038.out Hz138.out Hz238.out rfl (by decide) _ i vs rfl (HR.out.alloc _) ⟨wr.heap.size, 0, none⟩ 1 1 [.slice (some ⟨b, 0, none⟩) T.labels.length c4] rfl rfl (cell_one_new _ _ _) ?c2 (by unfold maxLen; omega) (by omega) (Nat.zero_le _) ?_)
            case c2 => intro u hu; simp at hu; subst hu; rfl
            intro v7 w7 hown7 hgrow7 hnil7 hat7
            have hm := (M.out.alloc (Obj.cells #[Value.slice (some { block := b, off := 0 }) T.labels.length c4] 38)).appended (m := i + 1) (ys := vs ++ [.slice (some ⟨b, 0, none⟩) T.labels.length c4]) hown7 hgrow7 (by simpa using hat7)
            obtain ⟨AL7, cL7, e, _⟩ := row_slice hown7
            subst e
            have M7 := Aside0.mk (hm.pull 1 (by simp))
            clear hm hown7 hgrow7 hnil7 hat7 M HR
            have HR := Aside0.mk M7.out.row
            go_wp2_with (at_builtin; refine wp_both (m := s) rfl (.tmp 61) (.tmp 64) rfl rfl (HR.out.alloc _) ⟨w7.heap.size, 0, none⟩ 2 rfl (cells_pair _ _ _ _) (by omega) ?_)
            intro A8 c8 w8 xa xb xc xd
            have hm := both_of (M7.out.alloc (Obj.cells #[Value.string s, Value.string s] 9)) ⟨xa, xb, xc, by simpa using xd⟩
            rw [Hs.out.symm] at hm
            have M8 := Aside0.mk (hm.pull 4 (by simp))
            clear hm xa xb xc xd M7 HR
            have HR := Aside0.mk M8.out.row
            go_wp2_with (at_builtin; refine wpList_append_own_at _ rfl (.tmp 60) (.tmp 66) 46 rfl 0 38 i38 (.slice none 0 0) 1 24 Tryd.underlying46 Hi38.out Hz038.out Hz138.out Hz238.out rfl (by decide) _ i gs rfl (HR.out.alloc _) ⟨w8.heap.size, 0, none⟩ 1 1 [.slice A8 (T.labels.length + 2) c8] rfl rfl (cell_one_new _ _ _) ?c2 (by unfold maxLen; omega) (by omega) (Nat.zero_le _) ?_)
            case c2 => intro u hu; simp at hu; subst hu; rfl
            intro v9 w9 hown9 hgrow9 hnil9 hat9
            have hm := (M8.out.alloc (Obj.cells #[Value.slice A8 (T.labels.length + 2) c8] 38)).appended (m := i + 1) (ys := gs ++ [.slice A8 (T.labels.length + 2) c8]) hown9 hgrow9 (by simpa using hat9)
            obtain ⟨AG9, cG9, e, _⟩ := row_slice hown9
            subst e
            have M9 := Aside0.mk hm
            clear hm hown9 hgrow9 hnil9 hat9 M8 HR
            clear Hi38 Hz038 Hz138 Hz238
            go_wp2_with fail
            have N2 := re_a M9.out
            have N3 := old_more (vs := vs) (gs := gs) (by omega) (by rw [hvs]; exact N2)
            have N4 := re_b N3
            obtain ⟨m, us, hs, AL, cL, AG, cG, hm1, hus, hhs, hv5, hv6, hM⟩ : ∃ (m : Nat) (us hs : List Value) (AL : Option Addr) (cL : Nat) (AG : Option Addr) (cG : Nat), m = min (i + 1) 30 ∧ us.length = m ∧ hs.length = m ∧ Value.slice AL7 (i + 1) cL7 = .slice AL m cL ∧ Value.slice AG9 (i + 1) cG9 = .slice AG m cG ∧
                Sep w w9 [rowR 9 1 (.slice A5 T.labels.length c5) T.labels.length (T.labels.map Value.string), tabR p (8 + 2 * i) T, rowR 38 1 (.slice AL m cL) m us, rowR 38 1 (.slice AG m cG) m hs, oldR us hs] :=
              ⟨i + 1, vs ++ [.slice (some ⟨b, 0, none⟩) T.labels.length c4], gs ++ [.slice A8 (T.labels.length + 2) c8], AL7, cL7, AG9, cG9, by omega, by simp [hvs], by simp [hgs], rfl, rfl, N4⟩
            rw [hv5, hv6]
            have M := Aside0.mk hM
            clear N2 N3 N4 M9 hv5 hv6 hM hvs hgs
            go_wp2_with fail
            refine (s_labels (M.out.pull 1 (by simp))).mono ?_
            rintro e wt ⟨A11, c11, rfl, hc11, hm⟩
            obtain ⟨_, _, eq, hcx, hCx⟩ := s_row_C hm
            cases eq
            obtain ⟨_, _, eq, hcy, hCy⟩ := s_row_C (Sep.pull hm 2 (by simp))
            cases eq
            have HCx := Aside0.mk hCx
            have HCy := Aside0.mk hCy
            replace M := Aside0.mk (show Sep w wt [rowR 9 1 (.slice A5 T.labels.length c5) T.labels.length (T.labels.map Value.string), tabR p (8 + 2 * i) T, rowR 38 1 (.slice AL m cL) m us, rowR 38 1 (.slice AG m cG) m hs, oldR us hs] from hm.tail.pull 1 (by simp))
            clear hm hCx hCy
            go_wp2_with fail
            refine (SymLabelsPure.same_calls A11 c11 A5 c5 T.labels (by omega) HCx.out hcx HCy.out hcy).mono ?_
            rintro e wu ⟨rfl, hd⟩
            replace M := Aside0.mk (M.out.drawn hd)
            clear hd HCx HCy
            obtain ⟨bk, ck, ek, _, hcell, _⟩ := row_some M.out.row (by omega)
            simp only [Value.slice.injEq, true_and] at ek
            obtain ⟨rfl, rfl⟩ := ek
            have ck0 : wu.cell? ⟨bk, 0, none⟩ = some (.string ⟨#[102, 105, 114, 115, 116]⟩) := hcell 0 (.string first) (by obtain ⟨more, hmore⟩ := HT.out; rw [hmore]; rfl)
            have h2le : decide ((T.labels.length : Int) < 2) = false := decide_eq_false (by omega)
            clear hcell
            obtain ⟨sa, rfl⟩ := HS.out.some_ (by omega)
            obtain ⟨x1, x2, x3, hx⟩ := (HS.out.below M.out.1).at_ sa i l[i] rfl (List.getElem?_eq_getElem hlt)
            generalize l[i] = x at x1 x2 x3 hx
            have Hx := Lib.hid hx
            clear hx
            go_wp2_with fail
            refine (s_does Hb.out (M.out.tail) x Hx.out (by unfold maxLen; omega)).mono ?_
            rintro e wv ⟨rfl, hm⟩
            have HT' := Aside0.mk (stay_do HT.out x.k x.s)
            obtain ⟨T', hT'⟩ : ∃ T', T' = doT T x.k x.s := ⟨_, rfl⟩
            rw [← hT'] at hm HT'
            replace M := Aside0.mk hm
            clear hm hT' x1 x2 x3 ck0
            go_wp2_with fail
            go_loopw [12] (fun v12 wq => ∃ k : Nat, k ≤ m ∧ v12 = .int .i64 k ∧ Aside0 (Sep w wq [tabR p (8 + 2 * i + 2) T', rowR 38 1 (.slice AL m cL) m us, rowR 38 1 (.slice AG m cG) m hs, oldR us hs])) (fun v12 _ => m - (intOf v12).toNat)
            case atStart => exact ⟨0, by omega, rfl, M⟩
            case round =>
              clear M
              obtain ⟨k, hk, rfl, M⟩ := hrel
              by_cases hkm : k < m
              · skip
                obtain ⟨bG, capG, eb, _, hcG, _⟩ := row_some (Sep.row (M.out.pull 2 (by simp))) (by omega)
                simp only [Value.slice.injEq, true_and] at eb
                obtain ⟨rfl, rfl⟩ := eb
                obtain ⟨bL, capL, eb, _, hcL, _⟩ := row_some (Sep.row (M.out.pull 1 (by simp))) (by omega)
                simp only [Value.slice.injEq, true_and] at eb
                obtain ⟨rfl, rfl⟩ := eb
                obtain ⟨vx, hvx⟩ : ∃ vx, hs[k]? = some vx := ⟨_, List.getElem?_eq_getElem (by omega)⟩
                obtain ⟨vy, hvy⟩ : ∃ vy, us[k]? = some vy := ⟨_, List.getElem?_eq_getElem (by omega)⟩
                obtain ⟨Ax, nx, cx, rfl, hnx, _⟩ := old_at (M.out.pull 3 (by simp)) (.inr hvx)
                obtain ⟨Ay, ny, cy, rfl, hny, _⟩ := old_at (M.out.pull 3 (by simp)) (.inl hvy)
                have hkm' : (k : Int) < (m : Int) := by omega
                unfold maxLen at hnx hny
                clear hcG hcL
                go_wp2_with fail
                go_loopw [13] (fun v13 wi => ∃ j : Nat, j ≤ nx ∧ v13 = .int .i64 j ∧ Aside0 (Sep w wi [tabR p (8 + 2 * i + 2) T', rowR 38 1 (.slice (some ⟨bL, 0, none⟩) m cL) m us, rowR 38 1 (.slice (some ⟨bG, 0, none⟩) m cG) m hs, oldR us hs])) (fun v13 _ => nx - (intOf v13).toNat)
                case atStart => exact ⟨0, by omega, rfl, M⟩
                case round =>
                  clear M
                  obtain ⟨j, hj, rfl, M⟩ := hrel
                  obtain ⟨_, _, eb, _, hcG, _⟩ := row_some (Sep.row (M.out.pull 2 (by simp))) (by omega)
                  simp only [Value.slice.injEq, Option.some.injEq, Addr.mk.injEq, and_true, true_and] at eb
                  obtain ⟨rfl, rfl⟩ := eb
                  obtain ⟨_, _, eb, _, hcL, _⟩ := row_some (Sep.row (M.out.pull 1 (by simp))) (by omega)
                  simp only [Value.slice.injEq, Option.some.injEq, Addr.mk.injEq, and_true, true_and] at eb
                  obtain ⟨rfl, rfl⟩ := eb
                  have cG := hcG k _ hvx
                  have cL' := hcL k _ hvy
                  clear hcG hcL
                  by_cases hjx : j < nx
                  · obtain ⟨_, _, _, e, _, hmx⟩ := old_at (M.out.pull 3 (by simp)) (.inr hvx)
                    cases e
                    obtain ⟨bx, rfl, cX⟩ := hmx j hjx
                    obtain ⟨_, _, _, e, _, hmy⟩ := old_at (M.out.pull 3 (by simp)) (.inl hvy)
                    cases e
                    generalize hmk : numOf k = mk at cX hmy
                    have Hmk := Lib.hid hmk
                    have hjx' : (j : Int) < (nx : Int) := by omega
                    clear hmk
                    by_cases hjy : j < ny
                    · obtain ⟨by_, rfl, cY⟩ := hmy j hjy
                      have hjy' : (j : Int) < (ny : Int) := by omega
                      clear hmx hmy
                      go_wp2_with fail
                      refine start_ (n := 31) (S := fun w' => w'.cell? ⟨bG, k, none⟩ = some (.slice (some ⟨bx, 0, none⟩) nx cx) ∧ w'.cell? ⟨bx, j, none⟩ = some (.string mk) ∧ w'.cell? ⟨bL, k, none⟩ = some (.slice (some ⟨by_, 0, none⟩) ny cy) ∧ w'.cell? ⟨by_, j, none⟩ = some (.string mk)) (ds := []) #[false, false, false, false, false, false, false, false, false, false, false, false, false, false, false, false, false, false, false, false, false, false, false, false, false, false, false, false, false, false, false] (by kernel_rfl) rfl rfl ⟨cG, cX, cL', cY⟩ (fun hHeld => ?_)
                      refine pure_ (i := 0) (N := some 105) (v := ?_) (a' := ?_) #[true, false, false, false, false, false, false, false, false, false, false, false, false, false, false, false, false, false, false, false, false, false, false, false, false, false, false, false, false, false, false] rfl rfl (by kernel_rfl) (fun _ _ _ h => h) (Or.inl ⟨by rfl, ?_⟩) ?_ ?_
                      rotate_left
                      · intro w'
                        go_simp
                        with_reducible rfl
                      rotate_left
                      · simp only [Act.put, List.setIfInBounds_toArray, List.set_cons_zero, List.set_cons_succ, i64_w, i32_w]
                        rfl
                      refine pure_ (i := 1) (N := some 106) (v := ?_) (a' := ?_) #[true, true, false, false, false, false, false, false, false, false, false, false, false, false, false, false, false, false, false, false, false, false, false, false, false, false, false, false, false, false, false] rfl rfl (by kernel_rfl) (fun _ _ _ h => h) (Or.inl ⟨by rfl, ?_⟩) ?_ ?_
                      rotate_left
                      · intro w'
                        go_simp
                        with_reducible rfl
                      rotate_left
                      · simp only [Act.put, List.setIfInBounds_toArray, List.set_cons_zero, List.set_cons_succ, i64_w, i32_w]
                        rfl
                      refine pure_ (i := 2) (N := some 107) (v := ?_) (a' := ?_) #[true, true, true, false, false, false, false, false, false, false, false, false, false, false, false, false, false, false, false, false, false, false, false, false, false, false, false, false, false, false, false] rfl rfl (by kernel_rfl) (fun _ _ _ h => h) (Or.inl ⟨by rfl, ?_⟩) ?_ ?_
                      rotate_left
                      · intro w'
                        go_simp
                        with_reducible rfl
                      rotate_left
                      · simp only [Act.put, List.setIfInBounds_toArray, List.set_cons_zero, List.set_cons_succ, i64_w, i32_w]
                        rfl
                      refine take_ (i := 3) (N := some 108) (v := ?_) (a' := ?_) #[true, true, true, true, false, false, false, false, false, false, false, false, false, false, false, false, false, false, false, false, false, false, false, false, false, false, false, false, false, false, false] rfl rfl (by kernel_rfl) (fun _ _ _ h => h) (Or.inl ⟨by rfl, ?_⟩) hHeld ?_ ?_
                      rotate_left
                      · rintro w' ⟨s0, s1, s2, s3⟩
                        go_simp
                        with_reducible rfl
                      rotate_left
                      · simp only [Act.put, List.setIfInBounds_toArray, List.set_cons_zero, List.set_cons_succ, i64_w, i32_w]
                        rfl
                      refine pure_ (i := 4) (N := some 109) (v := ?_) (a' := ?_) #[true, true, true, true, true, false, false, false, false, false, false, false, false, false, false, false, false, false, false, false, false, false, false, false, false, false, false, false, false, false, false] rfl rfl (by kernel_rfl) (fun _ _ _ h => h) (Or.inl ⟨by rfl, ?_⟩) ?_ ?_
                      rotate_left
                      · intro w'
                        go_simp
                        with_reducible rfl
                      rotate_left
                      · simp only [Act.put, List.setIfInBounds_toArray, List.set_cons_zero, List.set_cons_succ, i64_w, i32_w]
                        rfl
                      refine pure_ (i := 5) (N := some 110) (v := ?_) (a' := ?_) #[true, true, true, true, true, true, false, false, false, false, false, false, false, false, false, false, false, false, false, false, false, false, false, false, false, false, false, false, false, false, false] rfl rfl (by kernel_rfl) (fun _ _ _ h => h) (Or.inl ⟨by rfl, ?_⟩) ?_ ?_
                      rotate_left
                      · intro w'
                        go_simp
                        with_reducible rfl
                      rotate_left
                      · simp only [Act.put, List.setIfInBounds_toArray, List.set_cons_zero, List.set_cons_succ, i64_w, i32_w]
                        rfl
                      refine take_ (i := 6) (N := some 111) (v := ?_) (a' := ?_) #[true, true, true, true, true, true, true, false, false, false, false, false, false, false, false, false, false, false, false, false, false, false, false, false, false, false, false, false, false, false, false] rfl rfl (by kernel_rfl) (fun _ _ _ h => h) (Or.inl ⟨by rfl, ?_⟩) hHeld ?_ ?_
                      rotate_left
                      · rintro w' ⟨s0, s1, s2, s3⟩
                        go_simp
                        with_reducible rfl
                      rotate_left
                      · simp only [Act.put, List.setIfInBounds_toArray, List.set_cons_zero, List.set_cons_succ, i64_w, i32_w]
                        rfl
                      refine pure_ (i := 7) (N := some 112) (v := ?_) (a' := ?_) #[true, true, true, true, true, true, true, true, false, false, false, false, false, false, false, false, false, false, false, false, false, false, false, false, false, false, false, false, false, false, false] rfl rfl (by kernel_rfl) (fun _ _ _ h => h) (Or.inl ⟨by rfl, ?_⟩) ?_ ?_
                      rotate_left
                      · intro w'
                        go_simp
                        with_reducible rfl
                      rotate_left
                      · simp only [Act.put, List.setIfInBounds_toArray, List.set_cons_zero, List.set_cons_succ, i64_w, i32_w]
                        rfl
                      refine one_ (i := 8) (N := some 113) #[true, true, true, true, true, true, true, true, true, false, false, false, false, false, false, false, false, false, false, false, false, false, false, false, false, false, false, false, false, false, false] rfl rfl (by kernel_rfl) (by decide) (fun K hK => ?_)
                      refine goes_ Tryd.func30 (by kernel_rfl) rfl #[.int .i64 (k : Int)] (by rfl) rfl rfl (by simp [Act.eval, Act.put]) ?_
                      refine (num_any (n := k) (by omega)).mono ?_
                      rintro e wc ⟨rfl, hbc⟩
                      rw [Hmk.out]
                      obtain ⟨s0, s1, s2, s3⟩ := hHeld
                      refine ⟨_, rfl, hK.out _ _ ⟨cell_on hbc s0, cell_on hbc s1, cell_on hbc s2, cell_on hbc s3⟩ (fun hHeld => ?_)⟩
                      clear hK K
                      refine pure_ (i := 9) (N := some 114) (v := ?_) (a' := ?_) #[true, true, true, true, true, true, true, true, true, true, false, false, false, false, false, false, false, false, false, false, false, false, false, false, false, false, false, false, false, false, false] rfl rfl (by kernel_rfl) (fun _ _ _ h => h) (Or.inl ⟨by rfl, ?_⟩) ?_ ?_
                      rotate_left
                      · intro w'
                        go_simp
                        with_reducible rfl
                      rotate_left
                      · simp only [Act.put, List.setIfInBounds_toArray, List.set_cons_zero, List.set_cons_succ, i64_w, i32_w]
                        rfl
                      refine pure_ (i := 10) (N := some 115) (v := ?_) (a' := ?_) #[true, true, true, true, true, true, true, true, true, true, true, false, false, false, false, false, false, false, false, false, false, false, false, false, false, false, false, false, false, false, false] rfl rfl (by kernel_rfl) (fun _ _ _ h => h) (Or.inl ⟨by rfl, ?_⟩) ?_ ?_
                      rotate_left
                      · intro w'
                        go_simp
                        with_reducible rfl
                      rotate_left
                      · simp only [Act.put, List.setIfInBounds_toArray, List.set_cons_zero, List.set_cons_succ, i64_w, i32_w]
                        rfl
                      refine pure_ (i := 11) (N := some 116) (v := ?_) (a' := ?_) #[true, true, true, true, true, true, true, true, true, true, true, true, false, false, false, false, false, false, false, false, false, false, false, false, false, false, false, false, false, false, false] rfl rfl (by kernel_rfl) (fun _ _ _ h => h) (Or.inl ⟨by rfl, ?_⟩) ?_ ?_
                      rotate_left
                      · intro w'
                        go_simp
                        with_reducible rfl
                      rotate_left
                      · simp only [Act.put, List.setIfInBounds_toArray, List.set_cons_zero, List.set_cons_succ, i64_w, i32_w]
                        rfl
                      refine pure_ (i := 12) (N := some 117) (v := ?_) (a' := ?_) #[true, true, true, true, true, true, true, true, true, true, true, true, true, false, false, false, false, false, false, false, false, false, false, false, false, false, false, false, false, false, false] rfl rfl (by kernel_rfl) (fun _ _ _ h => h) (Or.inl ⟨by rfl, ?_⟩) ?_ ?_
                      rotate_left
                      · intro w'
                        go_simp
                        with_reducible rfl
                      rotate_left
                      · simp only [Act.put, List.setIfInBounds_toArray, List.set_cons_zero, List.set_cons_succ, i64_w, i32_w]
                        rfl
                      refine pure_ (i := 13) (N := some 118) (v := ?_) (a' := ?_) #[true, true, true, true, true, true, true, true, true, true, true, true, true, true, false, false, false, false, false, false, false, false, false, false, false, false, false, false, false, false, false] rfl rfl (by kernel_rfl) (fun _ _ _ h => h) (Or.inl ⟨by rfl, ?_⟩) ?_ ?_
                      rotate_left
                      · intro w'
                        go_simp
                        with_reducible rfl
                      rotate_left
                      · simp only [Act.put, List.setIfInBounds_toArray, List.set_cons_zero, List.set_cons_succ, i64_w, i32_w]
                        rfl
                      refine pure_ (i := 14) (N := some 119) (v := ?_) (a' := ?_) #[true, true, true, true, true, true, true, true, true, true, true, true, true, true, true, false, false, false, false, false, false, false, false, false, false, false, false, false, false, false, false] rfl rfl (by kernel_rfl) (fun _ _ _ h => h) (Or.inl ⟨by rfl, ?_⟩) ?_ ?_
                      rotate_left
                      · intro w'
                        go_simp
                        with_reducible rfl
                      rotate_left
                      · simp only [Act.put, List.setIfInBounds_toArray, List.set_cons_zero, List.set_cons_succ, i64_w, i32_w]
                        rfl
                      refine take_ (i := 15) (N := some 120) (v := ?_) (a' := ?_) #[true, true, true, true, true, true, true, true, true, true, true, true, true, true, true, true, false, false, false, false, false, false, false, false, false, false, false, false, false, false, false] rfl rfl (by kernel_rfl) (fun _ _ _ h => h) (Or.inl ⟨by rfl, ?_⟩) hHeld ?_ ?_
                      rotate_left
                      · rintro w' ⟨s0, s1, s2, s3⟩
                        go_simp
                        with_reducible rfl
                      rotate_left
                      · simp only [Act.put, List.setIfInBounds_toArray, List.set_cons_zero, List.set_cons_succ, i64_w, i32_w]
                        rfl
                      refine pure_ (i := 16) (N := some 121) (v := ?_) (a' := ?_) #[true, true, true, true, true, true, true, true, true, true, true, true, true, true, true, true, true, false, false, false, false, false, false, false, false, false, false, false, false, false, false] rfl rfl (by kernel_rfl) (fun _ _ _ h => h) (Or.inl ⟨by rfl, ?_⟩) ?_ ?_
                      rotate_left
                      · intro w'
                        go_simp
                        with_reducible rfl
                      rotate_left
                      · simp only [Act.put, List.setIfInBounds_toArray, List.set_cons_zero, List.set_cons_succ, i64_w, i32_w]
                        rfl
                      refine pure_ (i := 17) (N := some 122) (v := ?_) (a' := ?_) #[true, true, true, true, true, true, true, true, true, true, true, true, true, true, true, true, true, true, false, false, false, false, false, false, false, false, false, false, false, false, false] rfl rfl (by kernel_rfl) (fun _ _ _ h => h) (Or.inl ⟨by rfl, ?_⟩) ?_ ?_
                      rotate_left
                      · intro w'
                        go_simp
                        with_reducible rfl
                      rotate_left
                      · simp only [Act.put, List.setIfInBounds_toArray, List.set_cons_zero, List.set_cons_succ, i64_w, i32_w]
                        rfl
                      refine pure_ (i := 18) (N := some 123) (v := ?_) (a' := ?_) #[true, true, true, true, true, true, true, true, true, true, true, true, true, true, true, true, true, true, true, false, false, false, false, false, false, false, false, false, false, false, false] rfl rfl (by kernel_rfl) (fun _ _ _ h => h) (Or.inl ⟨by rfl, ?_⟩) ?_ ?_
                      rotate_left
                      · intro w'
                        go_simp
                        with_reducible rfl
                      rotate_left
                      · simp only [Act.put, List.setIfInBounds_toArray, List.set_cons_zero, List.set_cons_succ, i64_w, i32_w]
                        rfl
                      refine pure_ (i := 19) (N := some 124) (v := ?_) (a' := ?_) #[true, true, true, true, true, true, true, true, true, true, true, true, true, true, true, true, true, true, true, true, false, false, false, false, false, false, false, false, false, false, false] rfl rfl (by kernel_rfl) (fun _ _ _ h => h) (Or.inl ⟨by rfl, ?_⟩) ?_ ?_
                      rotate_left
                      · intro w'
                        go_simp
                        with_reducible rfl
                      rotate_left
                      · simp only [Act.put, List.setIfInBounds_toArray, List.set_cons_zero, List.set_cons_succ, i64_w, i32_w]
                        rfl
                      refine pure_ (i := 20) (N := some 125) (v := ?_) (a' := ?_) #[true, true, true, true, true, true, true, true, true, true, true, true, true, true, true, true, true, true, true, true, true, false, false, false, false, false, false, false, false, false, false] rfl rfl (by kernel_rfl) (fun _ _ _ h => h) (Or.inl ⟨by rfl, ?_⟩) ?_ ?_
                      rotate_left
                      · intro w'
                        go_simp
                        with_reducible rfl
                      rotate_left
                      · simp only [Act.put, List.setIfInBounds_toArray, List.set_cons_zero, List.set_cons_succ, i64_w, i32_w]
                        rfl
                      refine pure_ (i := 21) (N := some 126) (v := ?_) (a' := ?_) #[true, true, true, true, true, true, true, true, true, true, true, true, true, true, true, true, true, true, true, true, true, true, false, false, false, false, false, false, false, false, false] rfl rfl (by kernel_rfl) (fun _ _ _ h => h) (Or.inl ⟨by rfl, ?_⟩) ?_ ?_
                      rotate_left
                      · intro w'
                        go_simp
                        with_reducible rfl
                      rotate_left
                      · simp only [Act.put, List.setIfInBounds_toArray, List.set_cons_zero, List.set_cons_succ, i64_w, i32_w]
                        rfl
                      refine take_ (i := 22) (N := some 127) (v := ?_) (a' := ?_) #[true, true, true, true, true, true, true, true, true, true, true, true, true, true, true, true, true, true, true, true, true, true, true, false, false, false, false, false, false, false, false] rfl rfl (by kernel_rfl) (fun _ _ _ h => h) (Or.inl ⟨by rfl, ?_⟩) hHeld ?_ ?_
                      rotate_left
                      · rintro w' ⟨s0, s1, s2, s3⟩
                        go_simp
                        with_reducible rfl
                      rotate_left
                      · simp only [Act.put, List.setIfInBounds_toArray, List.set_cons_zero, List.set_cons_succ, i64_w, i32_w]
                        rfl
                      refine pure_ (i := 23) (N := some 128) (v := ?_) (a' := ?_) #[true, true, true, true, true, true, true, true, true, true, true, true, true, true, true, true, true, true, true, true, true, true, true, true, false, false, false, false, false, false, false] rfl rfl (by kernel_rfl) (fun _ _ _ h => h) (Or.inl ⟨by rfl, ?_⟩) ?_ ?_
                      rotate_left
                      · intro w'
                        go_simp
                        with_reducible rfl
                      rotate_left
                      · simp only [Act.put, List.setIfInBounds_toArray, List.set_cons_zero, List.set_cons_succ, i64_w, i32_w]
                        rfl
                      refine pure_ (i := 24) (N := some 129) (v := ?_) (a' := ?_) #[true, true, true, true, true, true, true, true, true, true, true, true, true, true, true, true, true, true, true, true, true, true, true, true, true, false, false, false, false, false, false] rfl rfl (by kernel_rfl) (fun _ _ _ h => h) (Or.inl ⟨by rfl, ?_⟩) ?_ ?_
                      rotate_left
                      · intro w'
                        go_simp
                        with_reducible rfl
                      rotate_left
                      · simp only [Act.put, List.setIfInBounds_toArray, List.set_cons_zero, List.set_cons_succ, i64_w, i32_w]
                        rfl
                      refine take_ (i := 25) (N := some 130) (v := ?_) (a' := ?_) #[true, true, true, true, true, true, true, true, true, true, true, true, true, true, true, true, true, true, true, true, true, true, true, true, true, true, false, false, false, false, false] rfl rfl (by kernel_rfl) (fun _ _ _ h => h) (Or.inl ⟨by rfl, ?_⟩) hHeld ?_ ?_
                      rotate_left
                      · rintro w' ⟨s0, s1, s2, s3⟩
                        go_simp
                        with_reducible rfl
                      rotate_left
                      · simp only [Act.put, List.setIfInBounds_toArray, List.set_cons_zero, List.set_cons_succ, i64_w, i32_w]
                        rfl
                      refine pure_ (i := 26) (N := some 131) (v := ?_) (a' := ?_) #[true, true, true, true, true, true, true, true, true, true, true, true, true, true, true, true, true, true, true, true, true, true, true, true, true, true, true, false, false, false, false] rfl rfl (by kernel_rfl) (fun _ _ _ h => h) (Or.inl ⟨by rfl, ?_⟩) ?_ ?_
                      rotate_left
                      · intro w'
                        go_simp
                        with_reducible rfl
                      rotate_left
                      · simp only [Act.put, List.setIfInBounds_toArray, List.set_cons_zero, List.set_cons_succ, i64_w, i32_w]
                        rfl
                      refine one_ (i := 27) (N := some 132) #[true, true, true, true, true, true, true, true, true, true, true, true, true, true, true, true, true, true, true, true, true, true, true, true, true, true, true, true, false, false, false] rfl rfl (by kernel_rfl) (by decide) (fun K hK => ?_)
                      refine goes_ Tryd.func30 (by kernel_rfl) rfl #[.int .i64 (k : Int)] (by rfl) rfl rfl (by simp [Act.eval, Act.put]) ?_
                      refine (num_any (n := k) (by omega)).mono ?_
                      rintro e wd ⟨rfl, hbd⟩
                      rw [Hmk.out]
                      obtain ⟨s0, s1, s2, s3⟩ := hHeld
                      refine ⟨_, rfl, hK.out _ _ ⟨cell_on hbd s0, cell_on hbd s1, cell_on hbd s2, cell_on hbd s3⟩ (fun hHeld => ?_)⟩
                      clear hK K
                      refine pure_ (i := 28) (N := some 133) (v := ?_) (a' := ?_) #[true, true, true, true, true, true, true, true, true, true, true, true, true, true, true, true, true, true, true, true, true, true, true, true, true, true, true, true, true, false, false] rfl rfl (by kernel_rfl) (fun _ _ _ h => h) (Or.inl ⟨by rfl, ?_⟩) ?_ ?_
                      rotate_left
                      · intro w'
                        go_simp
                        with_reducible rfl
                      rotate_left
                      · simp only [Act.put, List.setIfInBounds_toArray, List.set_cons_zero, List.set_cons_succ, i64_w, i32_w]
                        rfl
                      refine pure_ (i := 29) (N := some 134) (v := ?_) (a' := ?_) #[true, true, true, true, true, true, true, true, true, true, true, true, true, true, true, true, true, true, true, true, true, true, true, true, true, true, true, true, true, true, false] rfl rfl (by kernel_rfl) (fun _ _ _ h => h) (Or.inl ⟨by rfl, ?_⟩) ?_ ?_
                      rotate_left
                      · intro w'
                        go_simp
                        with_reducible rfl
                      rotate_left
                      · simp only [Act.put, List.setIfInBounds_toArray, List.set_cons_zero, List.set_cons_succ, i64_w, i32_w]
                        rfl
                      refine pure_ (i := 30) (N := some 135) (v := ?_) (a' := ?_) #[true, true, true, true, true, true, true, true, true, true, true, true, true, true, true, true, true, true, true, true, true, true, true, true, true, true, true, true, true, true, true] rfl rfl (by kernel_rfl) (fun _ _ _ h => h) (Or.inl ⟨by rfl, ?_⟩) ?_ ?_
                      rotate_left
                      · intro w'
                        go_simp
                        with_reducible rfl
                      rotate_left
                      · simp only [Act.put, List.setIfInBounds_toArray, List.set_cons_zero, List.set_cons_succ, i64_w, i32_w]
                        rfl
                      refine done_ (by kernel_rfl) ?_
                      go_wp2_with fail
                      go_roundw
                      case rel => exact ⟨j + 1, by omega, by go_num, ⟨((M.out.drawn ⟨1, rfl⟩).below hbc).below hbd⟩⟩
                      case measure => simp [intOf]; omega
                    · have hjy' : ¬ (j : Int) < (ny : Int) := by omega
                      clear hmx hmy
                      go_wp2_with fail
                      refine start_ (n := 31) (S := fun w' => w'.cell? ⟨bG, k, none⟩ = some (.slice (some ⟨bx, 0, none⟩) nx cx) ∧ w'.cell? ⟨bx, j, none⟩ = some (.string mk) ∧ w'.cell? ⟨bL, k, none⟩ = some (.slice Ay ny cy)) (ds := []) #[false, false, false, false, false, false, false, false, false, false, false, false, false, false, false, false, false, false, false, false, false, false, false, false, false, false, false, false, false, false, false] (by kernel_rfl) rfl rfl ⟨cG, cX, cL'⟩ (fun hHeld => ?_)
                      refine pure_ (i := 0) (N := some 105) (v := ?_) (a' := ?_) #[true, false, false, false, false, false, false, false, false, false, false, false, false, false, false, false, false, false, false, false, false, false, false, false, false, false, false, false, false, false, false] rfl rfl (by kernel_rfl) (fun _ _ _ h => h) (Or.inl ⟨by rfl, ?_⟩) ?_ ?_
                      rotate_left
                      · intro w'
                        go_simp
                        with_reducible rfl
                      rotate_left
                      · simp only [Act.put, List.setIfInBounds_toArray, List.set_cons_zero, List.set_cons_succ, i64_w, i32_w]
                        rfl
                      refine pure_ (i := 1) (N := some 106) (v := ?_) (a' := ?_) #[true, true, false, false, false, false, false, false, false, false, false, false, false, false, false, false, false, false, false, false, false, false, false, false, false, false, false, false, false, false, false] rfl rfl (by kernel_rfl) (fun _ _ _ h => h) (Or.inl ⟨by rfl, ?_⟩) ?_ ?_
                      rotate_left
                      · intro w'
                        go_simp
                        with_reducible rfl
                      rotate_left
                      · simp only [Act.put, List.setIfInBounds_toArray, List.set_cons_zero, List.set_cons_succ, i64_w, i32_w]
                        rfl
                      refine pure_ (i := 2) (N := some 107) (v := ?_) (a' := ?_) #[true, true, true, false, false, false, false, false, false, false, false, false, false, false, false, false, false, false, false, false, false, false, false, false, false, false, false, false, false, false, false] rfl rfl (by kernel_rfl) (fun _ _ _ h => h) (Or.inl ⟨by rfl, ?_⟩) ?_ ?_
                      rotate_left
                      · intro w'
                        go_simp
                        with_reducible rfl
                      rotate_left
                      · simp only [Act.put, List.setIfInBounds_toArray, List.set_cons_zero, List.set_cons_succ, i64_w, i32_w]
                        rfl
                      refine take_ (i := 3) (N := some 108) (v := ?_) (a' := ?_) #[true, true, true, true, false, false, false, false, false, false, false, false, false, false, false, false, false, false, false, false, false, false, false, false, false, false, false, false, false, false, false] rfl rfl (by kernel_rfl) (fun _ _ _ h => h) (Or.inl ⟨by rfl, ?_⟩) hHeld ?_ ?_
                      rotate_left
                      · rintro w' ⟨s0, s1, s2⟩
                        go_simp
                        with_reducible rfl
                      rotate_left
                      · simp only [Act.put, List.setIfInBounds_toArray, List.set_cons_zero, List.set_cons_succ, i64_w, i32_w]
                        rfl
                      refine pure_ (i := 4) (N := some 109) (v := ?_) (a' := ?_) #[true, true, true, true, true, false, false, false, false, false, false, false, false, false, false, false, false, false, false, false, false, false, false, false, false, false, false, false, false, false, false] rfl rfl (by kernel_rfl) (fun _ _ _ h => h) (Or.inl ⟨by rfl, ?_⟩) ?_ ?_
                      rotate_left
                      · intro w'
                        go_simp
                        with_reducible rfl
                      rotate_left
                      · simp only [Act.put, List.setIfInBounds_toArray, List.set_cons_zero, List.set_cons_succ, i64_w, i32_w]
                        rfl
                      refine pure_ (i := 5) (N := some 110) (v := ?_) (a' := ?_) #[true, true, true, true, true, true, false, false, false, false, false, false, false, false, false, false, false, false, false, false, false, false, false, false, false, false, false, false, false, false, false] rfl rfl (by kernel_rfl) (fun _ _ _ h => h) (Or.inl ⟨by rfl, ?_⟩) ?_ ?_
                      rotate_left
                      · intro w'
                        go_simp
                        with_reducible rfl
                      rotate_left
                      · simp only [Act.put, List.setIfInBounds_toArray, List.set_cons_zero, List.set_cons_succ, i64_w, i32_w]
                        rfl
                      refine take_ (i := 6) (N := some 111) (v := ?_) (a' := ?_) #[true, true, true, true, true, true, true, false, false, false, false, false, false, false, false, false, false, false, false, false, false, false, false, false, false, false, false, false, false, false, false] rfl rfl (by kernel_rfl) (fun _ _ _ h => h) (Or.inl ⟨by rfl, ?_⟩) hHeld ?_ ?_
                      rotate_left
                      · rintro w' ⟨s0, s1, s2⟩
                        go_simp
                        with_reducible rfl
                      rotate_left
                      · simp only [Act.put, List.setIfInBounds_toArray, List.set_cons_zero, List.set_cons_succ, i64_w, i32_w]
                        rfl
                      refine pure_ (i := 7) (N := some 112) (v := ?_) (a' := ?_) #[true, true, true, true, true, true, true, true, false, false, false, false, false, false, false, false, false, false, false, false, false, false, false, false, false, false, false, false, false, false, false] rfl rfl (by kernel_rfl) (fun _ _ _ h => h) (Or.inl ⟨by rfl, ?_⟩) ?_ ?_
                      rotate_left
                      · intro w'
                        go_simp
                        with_reducible rfl
                      rotate_left
                      · simp only [Act.put, List.setIfInBounds_toArray, List.set_cons_zero, List.set_cons_succ, i64_w, i32_w]
                        rfl
                      refine one_ (i := 8) (N := some 113) #[true, true, true, true, true, true, true, true, true, false, false, false, false, false, false, false, false, false, false, false, false, false, false, false, false, false, false, false, false, false, false] rfl rfl (by kernel_rfl) (by decide) (fun K hK => ?_)
                      refine goes_ Tryd.func30 (by kernel_rfl) rfl #[.int .i64 (k : Int)] (by rfl) rfl rfl (by simp [Act.eval, Act.put]) ?_
                      refine (num_any (n := k) (by omega)).mono ?_
                      rintro e wc ⟨rfl, hbc⟩
                      rw [Hmk.out]
                      obtain ⟨s0, s1, s2⟩ := hHeld
                      refine ⟨_, rfl, hK.out _ _ ⟨cell_on hbc s0, cell_on hbc s1, cell_on hbc s2⟩ (fun hHeld => ?_)⟩
                      clear hK K
                      refine pure_ (i := 9) (N := some 114) (v := ?_) (a' := ?_) #[true, true, true, true, true, true, true, true, true, true, false, false, false, false, false, false, false, false, false, false, false, false, false, false, false, false, false, false, false, false, false] rfl rfl (by kernel_rfl) (fun _ _ _ h => h) (Or.inl ⟨by rfl, ?_⟩) ?_ ?_
                      rotate_left
                      · intro w'
                        go_simp
                        with_reducible rfl
                      rotate_left
                      · simp only [Act.put, List.setIfInBounds_toArray, List.set_cons_zero, List.set_cons_succ, i64_w, i32_w]
                        rfl
                      refine pure_ (i := 10) (N := some 115) (v := ?_) (a' := ?_) #[true, true, true, true, true, true, true, true, true, true, true, false, false, false, false, false, false, false, false, false, false, false, false, false, false, false, false, false, false, false, false] rfl rfl (by kernel_rfl) (fun _ _ _ h => h) (Or.inl ⟨by rfl, ?_⟩) ?_ ?_
                      rotate_left
                      · intro w'
                        go_simp
                        with_reducible rfl
                      rotate_left
                      · simp only [Act.put, List.setIfInBounds_toArray, List.set_cons_zero, List.set_cons_succ, i64_w, i32_w]
                        rfl
                      refine pure_ (i := 11) (N := some 116) (v := ?_) (a' := ?_) #[true, true, true, true, true, true, true, true, true, true, true, true, false, false, false, false, false, false, false, false, false, false, false, false, false, false, false, false, false, false, false] rfl rfl (by kernel_rfl) (fun _ _ _ h => h) (Or.inl ⟨by rfl, ?_⟩) ?_ ?_
                      rotate_left
                      · intro w'
                        go_simp
                        with_reducible rfl
                      rotate_left
                      · simp only [Act.put, List.setIfInBounds_toArray, List.set_cons_zero, List.set_cons_succ, i64_w, i32_w]
                        rfl
                      refine pure_ (i := 12) (N := some 117) (v := ?_) (a' := ?_) #[true, true, true, true, true, true, true, true, true, true, true, true, true, false, false, false, false, false, false, false, false, false, false, false, false, false, false, false, false, false, false] rfl rfl (by kernel_rfl) (fun _ _ _ h => h) (Or.inl ⟨by rfl, ?_⟩) ?_ ?_
                      rotate_left
                      · intro w'
                        go_simp
                        with_reducible rfl
                      rotate_left
                      · simp only [Act.put, List.setIfInBounds_toArray, List.set_cons_zero, List.set_cons_succ, i64_w, i32_w]
                        rfl
                      refine pure_ (i := 13) (N := some 118) (v := ?_) (a' := ?_) #[true, true, true, true, true, true, true, true, true, true, true, true, true, true, false, false, false, false, false, false, false, false, false, false, false, false, false, false, false, false, false] rfl rfl (by kernel_rfl) (fun _ _ _ h => h) (Or.inl ⟨by rfl, ?_⟩) ?_ ?_
                      rotate_left
                      · intro w'
                        go_simp
                        with_reducible rfl
                      rotate_left
                      · simp only [Act.put, List.setIfInBounds_toArray, List.set_cons_zero, List.set_cons_succ, i64_w, i32_w]
                        rfl
                      refine pure_ (i := 14) (N := some 119) (v := ?_) (a' := ?_) #[true, true, true, true, true, true, true, true, true, true, true, true, true, true, true, false, false, false, false, false, false, false, false, false, false, false, false, false, false, false, false] rfl rfl (by kernel_rfl) (fun _ _ _ h => h) (Or.inl ⟨by rfl, ?_⟩) ?_ ?_
                      rotate_left
                      · intro w'
                        go_simp
                        with_reducible rfl
                      rotate_left
                      · simp only [Act.put, List.setIfInBounds_toArray, List.set_cons_zero, List.set_cons_succ, i64_w, i32_w]
                        rfl
                      refine take_ (i := 15) (N := some 120) (v := ?_) (a' := ?_) #[true, true, true, true, true, true, true, true, true, true, true, true, true, true, true, true, false, false, false, false, false, false, false, false, false, false, false, false, false, false, false] rfl rfl (by kernel_rfl) (fun _ _ _ h => h) (Or.inl ⟨by rfl, ?_⟩) hHeld ?_ ?_
                      rotate_left
                      · rintro w' ⟨s0, s1, s2⟩
                        go_simp
                        with_reducible rfl
                      rotate_left
                      · simp only [Act.put, List.setIfInBounds_toArray, List.set_cons_zero, List.set_cons_succ, i64_w, i32_w]
                        rfl
                      refine pure_ (i := 16) (N := some 121) (v := ?_) (a' := ?_) #[true, true, true, true, true, true, true, true, true, true, true, true, true, true, true, true, true, false, false, false, false, false, false, false, false, false, false, false, false, false, false] rfl rfl (by kernel_rfl) (fun _ _ _ h => h) (Or.inl ⟨by rfl, ?_⟩) ?_ ?_
                      rotate_left
                      · intro w'
                        go_simp
                        with_reducible rfl
                      rotate_left
                      · simp only [Act.put, List.setIfInBounds_toArray, List.set_cons_zero, List.set_cons_succ, i64_w, i32_w]
                        rfl
                      refine pure_ (i := 17) (N := some 122) (v := ?_) (a' := ?_) #[true, true, true, true, true, true, true, true, true, true, true, true, true, true, true, true, true, true, false, false, false, false, false, false, false, false, false, false, false, false, false] rfl rfl (by kernel_rfl) (fun _ _ _ h => h) (Or.inl ⟨by rfl, ?_⟩) ?_ ?_
                      rotate_left
                      · intro w'
                        go_simp
                        with_reducible rfl
                      rotate_left
                      · simp only [Act.put, List.setIfInBounds_toArray, List.set_cons_zero, List.set_cons_succ, i64_w, i32_w]
                        rfl
                      refine pure_ (i := 18) (N := some 123) (v := ?_) (a' := ?_) #[true, true, true, true, true, true, true, true, true, true, true, true, true, true, true, true, true, true, true, false, false, false, false, false, false, false, false, false, false, false, false] rfl rfl (by kernel_rfl) (fun _ _ _ h => h) (Or.inl ⟨by rfl, ?_⟩) ?_ ?_
                      rotate_left
                      · intro w'
                        go_simp
                        with_reducible rfl
                      rotate_left
                      · simp only [Act.put, List.setIfInBounds_toArray, List.set_cons_zero, List.set_cons_succ, i64_w, i32_w]
                        rfl
                      refine pure_ (i := 19) (N := some 124) (v := undef) (a' := ?_) #[true, true, true, true, true, true, true, true, true, true, true, true, true, true, true, true, true, true, true, true, false, false, false, false, false, false, false, false, false, false, false] rfl rfl (by kernel_rfl) (fun _ _ _ h => h) (Or.inr ⟨by rfl, rfl⟩) ?_ ?_
                      rotate_left
                      · simp only [Act.put, List.setIfInBounds_toArray, List.set_cons_zero, List.set_cons_succ, i64_w, i32_w]
                        rfl
                      refine pure_ (i := 20) (N := some 125) (v := undef) (a' := ?_) #[true, true, true, true, true, true, true, true, true, true, true, true, true, true, true, true, true, true, true, true, true, false, false, false, false, false, false, false, false, false, false] rfl rfl (by kernel_rfl) (fun _ _ _ h => h) (Or.inr ⟨by rfl, rfl⟩) ?_ ?_
                      rotate_left
                      · simp only [Act.put, List.setIfInBounds_toArray, List.set_cons_zero, List.set_cons_succ, i64_w, i32_w]
                        rfl
                      refine pure_ (i := 21) (N := some 126) (v := undef) (a' := ?_) #[true, true, true, true, true, true, true, true, true, true, true, true, true, true, true, true, true, true, true, true, true, true, false, false, false, false, false, false, false, false, false] rfl rfl (by kernel_rfl) (fun _ _ _ h => h) (Or.inr ⟨by rfl, rfl⟩) ?_ ?_
                      rotate_left
                      · simp only [Act.put, List.setIfInBounds_toArray, List.set_cons_zero, List.set_cons_succ, i64_w, i32_w]
                        rfl
                      refine pure_ (i := 22) (N := some 127) (v := undef) (a' := ?_) #[true, true, true, true, true, true, true, true, true, true, true, true, true, true, true, true, true, true, true, true, true, true, true, false, false, false, false, false, false, false, false] rfl rfl (by kernel_rfl) (fun _ _ _ h => h) (Or.inr ⟨by rfl, rfl⟩) ?_ ?_
                      rotate_left
                      · simp only [Act.put, List.setIfInBounds_toArray, List.set_cons_zero, List.set_cons_succ, i64_w, i32_w]
                        rfl
                      refine pure_ (i := 23) (N := some 128) (v := undef) (a' := ?_) #[true, true, true, true, true, true, true, true, true, true, true, true, true, true, true, true, true, true, true, true, true, true, true, true, false, false, false, false, false, false, false] rfl rfl (by kernel_rfl) (fun _ _ _ h => h) (Or.inr ⟨by rfl, rfl⟩) ?_ ?_
                      rotate_left
                      · simp only [Act.put, List.setIfInBounds_toArray, List.set_cons_zero, List.set_cons_succ, i64_w, i32_w]
                        rfl
                      refine pure_ (i := 24) (N := some 129) (v := undef) (a' := ?_) #[true, true, true, true, true, true, true, true, true, true, true, true, true, true, true, true, true, true, true, true, true, true, true, true, true, false, false, false, false, false, false] rfl rfl (by kernel_rfl) (fun _ _ _ h => h) (Or.inr ⟨by rfl, rfl⟩) ?_ ?_
                      rotate_left
                      · simp only [Act.put, List.setIfInBounds_toArray, List.set_cons_zero, List.set_cons_succ, i64_w, i32_w]
                        rfl
                      refine pure_ (i := 25) (N := some 130) (v := undef) (a' := ?_) #[true, true, true, true, true, true, true, true, true, true, true, true, true, true, true, true, true, true, true, true, true, true, true, true, true, true, false, false, false, false, false] rfl rfl (by kernel_rfl) (fun _ _ _ h => h) (Or.inr ⟨by rfl, rfl⟩) ?_ ?_
                      rotate_left
                      · simp only [Act.put, List.setIfInBounds_toArray, List.set_cons_zero, List.set_cons_succ, i64_w, i32_w]
                        rfl
                      refine pure_ (i := 26) (N := some 131) (v := undef) (a' := ?_) #[true, true, true, true, true, true, true, true, true, true, true, true, true, true, true, true, true, true, true, true, true, true, true, true, true, true, true, false, false, false, false] rfl rfl (by kernel_rfl) (fun _ _ _ h => h) (Or.inr ⟨by rfl, rfl⟩) ?_ ?_
                      rotate_left
                      · simp only [Act.put, List.setIfInBounds_toArray, List.set_cons_zero, List.set_cons_succ, i64_w, i32_w]
                        rfl
                      refine pure_ (i := 27) (N := some 132) (v := undef) (a' := ?_) #[true, true, true, true, true, true, true, true, true, true, true, true, true, true, true, true, true, true, true, true, true, true, true, true, true, true, true, true, false, false, false] rfl rfl (by kernel_rfl) (fun _ _ _ h => h) (Or.inr ⟨by rfl, rfl⟩) ?_ ?_
                      rotate_left
                      · simp only [Act.put, List.setIfInBounds_toArray, List.set_cons_zero, List.set_cons_succ, i64_w, i32_w]
                        rfl
                      refine pure_ (i := 28) (N := some 133) (v := undef) (a' := ?_) #[true, true, true, true, true, true, true, true, true, true, true, true, true, true, true, true, true, true, true, true, true, true, true, true, true, true, true, true, true, false, false] rfl rfl (by kernel_rfl) (fun _ _ _ h => h) (Or.inr ⟨by rfl, rfl⟩) ?_ ?_
                      rotate_left
                      · simp only [Act.put, List.setIfInBounds_toArray, List.set_cons_zero, List.set_cons_succ, i64_w, i32_w]
                        rfl
                      refine pure_ (i := 29) (N := some 134) (v := ?_) (a' := ?_) #[true, true, true, true, true, true, true, true, true, true, true, true, true, true, true, true, true, true, true, true, true, true, true, true, true, true, true, true, true, true, false] rfl rfl (by kernel_rfl) (fun _ _ _ h => h) (Or.inl ⟨by rfl, ?_⟩) ?_ ?_
                      rotate_left
                      · intro w'
                        go_simp
                        with_reducible rfl
                      rotate_left
                      · simp only [Act.put, List.setIfInBounds_toArray, List.set_cons_zero, List.set_cons_succ, i64_w, i32_w]
                        rfl
                      refine pure_ (i := 30) (N := some 135) (v := ?_) (a' := ?_) #[true, true, true, true, true, true, true, true, true, true, true, true, true, true, true, true, true, true, true, true, true, true, true, true, true, true, true, true, true, true, true] rfl rfl (by kernel_rfl) (fun _ _ _ h => h) (Or.inl ⟨by rfl, ?_⟩) ?_ ?_
                      rotate_left
                      · intro w'
                        go_simp
                        with_reducible rfl
                      rotate_left
                      · simp only [Act.put, List.setIfInBounds_toArray, List.set_cons_zero, List.set_cons_succ, i64_w, i32_w]
                        rfl
                      refine done_ (by kernel_rfl) ?_
                      go_wp2_with fail
                      go_roundw
                      case rel =>
                        have hdk : decide (k < min (i + 1) 30) = true := decide_eq_true (by omega)
                        simp only [hdk]
                        exact ⟨_, .int .i64 ((j : Int) + 1), _, _, _, _, _, _, _, _, _, _, _, _, _, _, _, _, _, _, _, _, _, _, _, _, _, _, _, _, _, _, _, _, _, _, _, _, _, _, _, _, ⟨j + 1, by omega, by go_num, ⟨(M.out.drawn ⟨1, rfl⟩).below hbc⟩⟩, rfl⟩
                      case measure => simp [intOf]; omega
                  · have hj' : j = nx := by omega
                    subst hj'
                    go_wp2_with fail
                    go_roundw
                    case rel => exact ⟨k + 1, by omega, by go_num, M⟩
                    case measure => simp [intOf]; omega
              · go_wp2_with fail
                go_roundw
                case rel => exact ⟨i + 1, T', us, hs, by omega, by go_num, by omega, by omega, HT', by rw [← hm1, show 8 + 2 * (i + 1) = 8 + 2 * i + 2 by omega]; exact M⟩
                case measure => simp [intOf]; omega
          · skip
            obtain ⟨AL, cL, e, _⟩ := row_slice (Sep.row (M.out.pull 3 (by simp)))
            subst e
            obtain ⟨AG, cG, e, _⟩ := row_slice (Sep.row (M.out.pull 4 (by simp)))
            subst e
            obtain ⟨m, hm1⟩ : ∃ m, m = min (i + 1) 30 := ⟨_, rfl⟩
            have hmin : min i 30 = m := by omega
            have hm := M.out.tail
            rw [hmin] at hm hvs hgs ⊢
            replace M := Aside0.mk hm
            obtain ⟨us, hus0⟩ : ∃ us, us = vs := ⟨_, rfl⟩
            obtain ⟨hs, hhs0⟩ : ∃ hs, hs = gs := ⟨_, rfl⟩
            rw [← hus0] at hvs M
            rw [← hhs0] at hgs M
            have hus := hvs
            have hhs := hgs
            clear hm hmin hus0 hhs0 hvs hgs
            go_wp2_with fail
            refine (s_labels (M.out.pull 1 (by simp))).mono ?_
            rintro e wt ⟨A11, c11, rfl, hc11, hm⟩
            obtain ⟨_, _, eq, hcx, hCx⟩ := s_row_C hm
            cases eq
            obtain ⟨_, _, eq, hcy, hCy⟩ := s_row_C (Sep.pull hm 2 (by simp))
            cases eq
            have HCx := Aside0.mk hCx
            have HCy := Aside0.mk hCy
            replace M := Aside0.mk (show Sep w wt [rowR 9 1 (.slice A5 T.labels.length c5) T.labels.length (T.labels.map Value.string), tabR p (8 + 2 * i) T, rowR 38 1 (.slice AL m cL) m us, rowR 38 1 (.slice AG m cG) m hs, oldR us hs] from hm.tail.pull 1 (by simp))
            clear hm hCx hCy
            go_wp2_with fail
            refine (SymLabelsPure.same_calls A11 c11 A5 c5 T.labels (by omega) HCx.out hcx HCy.out hcy).mono ?_
            rintro e wu ⟨rfl, hd⟩
            replace M := Aside0.mk (M.out.drawn hd)
            clear hd HCx HCy
            obtain ⟨bk, ck, ek, _, hcell, _⟩ := row_some M.out.row (by omega)
            simp only [Value.slice.injEq, true_and] at ek
            obtain ⟨rfl, rfl⟩ := ek
            have ck0 : wu.cell? ⟨bk, 0, none⟩ = some (.string ⟨#[102, 105, 114, 115, 116]⟩) := hcell 0 (.string first) (by obtain ⟨more, hmore⟩ := HT.out; rw [hmore]; rfl)
            have h2le : decide ((T.labels.length : Int) < 2) = false := decide_eq_false (by omega)
            clear hcell
            obtain ⟨sa, rfl⟩ := HS.out.some_ (by omega)
            obtain ⟨x1, x2, x3, hx⟩ := (HS.out.below M.out.1).at_ sa i l[i] rfl (List.getElem?_eq_getElem hlt)
            generalize l[i] = x at x1 x2 x3 hx
            have Hx := Lib.hid hx
            clear hx
            go_wp2_with fail
            refine (s_does Hb.out (M.out.tail) x Hx.out (by unfold maxLen; omega)).mono ?_
            rintro e wv ⟨rfl, hm⟩
            have HT' := Aside0.mk (stay_do HT.out x.k x.s)
            obtain ⟨T', hT'⟩ : ∃ T', T' = doT T x.k x.s := ⟨_, rfl⟩
            rw [← hT'] at hm HT'
            replace M := Aside0.mk hm
            clear hm hT' x1 x2 x3 ck0
            go_wp2_with fail
            go_loopw [12] (fun v12 wq => ∃ k : Nat, k ≤ m ∧ v12 = .int .i64 k ∧ Aside0 (Sep w wq [tabR p (8 + 2 * i + 2) T', rowR 38 1 (.slice AL m cL) m us, rowR 38 1 (.slice AG m cG) m hs, oldR us hs])) (fun v12 _ => m - (intOf v12).toNat)
            case atStart => exact ⟨0, by omega, rfl, M⟩
            case round =>
              clear M
              obtain ⟨k, hk, rfl, M⟩ := hrel
              by_cases hkm : k < m
              · skip
                obtain ⟨bG, capG, eb, _, hcG, _⟩ := row_some (Sep.row (M.out.pull 2 (by simp))) (by omega)
                simp only [Value.slice.injEq, true_and] at eb
                obtain ⟨rfl, rfl⟩ := eb
                obtain ⟨bL, capL, eb, _, hcL, _⟩ := row_some (Sep.row (M.out.pull 1 (by simp))) (by omega)
                simp only [Value.slice.injEq, true_and] at eb
                obtain ⟨rfl, rfl⟩ := eb
                obtain ⟨vx, hvx⟩ : ∃ vx, hs[k]? = some vx := ⟨_, List.getElem?_eq_getElem (by omega)⟩
                obtain ⟨vy, hvy⟩ : ∃ vy, us[k]? = some vy := ⟨_, List.getElem?_eq_getElem (by omega)⟩
                obtain ⟨Ax, nx, cx, rfl, hnx, _⟩ := old_at (M.out.pull 3 (by simp)) (.inr hvx)
                obtain ⟨Ay, ny, cy, rfl, hny, _⟩ := old_at (M.out.pull 3 (by simp)) (.inl hvy)
                have hkm' : (k : Int) < (m : Int) := by omega
                unfold maxLen at hnx hny
                clear hcG hcL
                go_wp2_with fail
                go_loopw [13] (fun v13 wi => ∃ j : Nat, j ≤ nx ∧ v13 = .int .i64 j ∧ Aside0 (Sep w wi [tabR p (8 + 2 * i + 2) T', rowR 38 1 (.slice (some ⟨bL, 0, none⟩) m cL) m us, rowR 38 1 (.slice (some ⟨bG, 0, none⟩) m cG) m hs, oldR us hs])) (fun v13 _ => nx - (intOf v13).toNat)
                case atStart => exact ⟨0, by omega, rfl, M⟩
                case round =>
                  clear M
                  obtain ⟨j, hj, rfl, M⟩ := hrel
                  obtain ⟨_, _, eb, _, hcG, _⟩ := row_some (Sep.row (M.out.pull 2 (by simp))) (by omega)
                  simp only [Value.slice.injEq, Option.some.injEq, Addr.mk.injEq, and_true, true_and] at eb
                  obtain ⟨rfl, rfl⟩ := eb
                  obtain ⟨_, _, eb, _, hcL, _⟩ := row_some (Sep.row (M.out.pull 1 (by simp))) (by omega)
                  simp only [Value.slice.injEq, Option.some.injEq, Addr.mk.injEq, and_true, true_and] at eb
                  obtain ⟨rfl, rfl⟩ := eb
                  have cG := hcG k _ hvx
                  have cL' := hcL k _ hvy
                  clear hcG hcL
                  by_cases hjx : j < nx
                  · obtain ⟨_, _, _, e, _, hmx⟩ := old_at (M.out.pull 3 (by simp)) (.inr hvx)
                    cases e
                    obtain ⟨bx, rfl, cX⟩ := hmx j hjx
                    obtain ⟨_, _, _, e, _, hmy⟩ := old_at (M.out.pull 3 (by simp)) (.inl hvy)
                    cases e
                    generalize hmk : numOf k = mk at cX hmy
                    have Hmk := Lib.hid hmk
                    have hjx' : (j : Int) < (nx : Int) := by omega
                    clear hmk
                    by_cases hjy : j < ny
                    · obtain ⟨by_, rfl, cY⟩ := hmy j hjy
                      have hjy' : (j : Int) < (ny : Int) := by omega
                      clear hmx hmy
                      go_wp2_with fail
                      refine start_ (n := 31) (S := fun w' => w'.cell? ⟨bG, k, none⟩ = some (.slice (some ⟨bx, 0, none⟩) nx cx) ∧ w'.cell? ⟨bx, j, none⟩ = some (.string mk) ∧ w'.cell? ⟨bL, k, none⟩ = some (.slice (some ⟨by_, 0, none⟩) ny cy) ∧ w'.cell? ⟨by_, j, none⟩ = some (.string mk)) (ds := []) #[false, false, false, false, false, false, false, false, false, false, false, false, false, false, false, false, false, false, false, false, false, false, false, false, false, false, false, false, false, false, false] (by kernel_rfl) rfl rfl ⟨cG, cX, cL', cY⟩ (fun hHeld => ?_)
                      refine pure_ (i := 0) (N := some 105) (v := ?_) (a' := ?_) #[true, false, false, false, false, false, false, false, false, false, false, false, false, false, false, false, false, false, false, false, false, false, false, false, false, false, false, false, false, false, false] rfl rfl (by kernel_rfl) (fun _ _ _ h => h) (Or.inl ⟨by rfl, ?_⟩) ?_ ?_
                      rotate_left
                      · intro w'
                        go_simp
                        with_reducible rfl
                      rotate_left
                      · simp only [Act.put, List.setIfInBounds_toArray, List.set_cons_zero, List.set_cons_succ, i64_w, i32_w]
                        rfl
                      refine pure_ (i := 1) (N := some 106) (v := ?_) (a' := ?_) #[true, true, false, false, false, false, false, false, false, false, false, false, false, false, false, false, false, false, false, false, false, false, false, false, false, false, false, false, false, false, false] rfl rfl (by kernel_rfl) (fun _ _ _ h => h) (Or.inl ⟨by rfl, ?_⟩) ?_ ?_
                      rotate_left
                      · intro w'
                        go_simp
                        with_reducible rfl
                      rotate_left
                      · simp only [Act.put, List.setIfInBounds_toArray, List.set_cons_zero, List.set_cons_succ, i64_w, i32_w]
                        rfl
                      refine pure_ (i := 2) (N := some 107) (v := ?_) (a' := ?_) #[true, true, true, false, false, false, false, false, false, false, false, false, false, false, false, false, false, false, false, false, false, false, false, false, false, false, false, false, false, false, false] rfl rfl (by kernel_rfl) (fun _ _ _ h => h) (Or.inl ⟨by rfl, ?_⟩) ?_ ?_
                      rotate_left
                      · intro w'
                        go_simp
                        with_reducible rfl
                      rotate_left
                      · simp only [Act.put, List.setIfInBounds_toArray, List.set_cons_zero, List.set_cons_succ, i64_w, i32_w]
                        rfl
                      refine take_ (i := 3) (N := some 108) (v := ?_) (a' := ?_) #[true, true, true, true, false, false, false, false, false, false, false, false, false, false, false, false, false, false, false, false, false, false, false, false, false, false, false, false, false, false, false] rfl rfl (by kernel_rfl) (fun _ _ _ h => h) (Or.inl ⟨by rfl, ?_⟩) hHeld ?_ ?_
                      rotate_left
                      · rintro w' ⟨s0, s1, s2, s3⟩
                        go_simp
                        with_reducible rfl
                      rotate_left
                      · simp only [Act.put, List.setIfInBounds_toArray, List.set_cons_zero, List.set_cons_succ, i64_w, i32_w]
                        rfl
                      refine pure_ (i := 4) (N := some 109) (v := ?_) (a' := ?_) #[true, true, true, true, true, false, false, false, false, false, false, false, false, false, false, false, false, false, false, false, false, false, false, false, false, false, false, false, false, false, false] rfl rfl (by kernel_rfl) (fun _ _ _ h => h) (Or.inl ⟨by rfl, ?_⟩) ?_ ?_
                      rotate_left
                      · intro w'
                        go_simp
                        with_reducible rfl
                      rotate_left
                      · simp only [Act.put, List.setIfInBounds_toArray, List.set_cons_zero, List.set_cons_succ, i64_w, i32_w]
                        rfl
                      refine pure_ (i := 5) (N := some 110) (v := ?_) (a' := ?_) #[true, true, true, true, true, true, false, false, false, false, false, false, false, false, false, false, false, false, false, false, false, false, false, false, false, false, false, false, false, false, false] rfl rfl (by kernel_rfl) (fun _ _ _ h => h) (Or.inl ⟨by rfl, ?_⟩) ?_ ?_
                      rotate_left
                      · intro w'
                        go_simp
                        with_reducible rfl
                      rotate_left
                      · simp only [Act.put, List.setIfInBounds_toArray, List.set_cons_zero, List.set_cons_succ, i64_w, i32_w]
                        rfl
                      refine take_ (i := 6) (N := some 111) (v := ?_) (a' := ?_) #[true, true, true, true, true, true, true, false, false, false, false, false, false, false, false, false, false, false, false, false, false, false, false, false, false, false, false, false, false, false, false] rfl rfl (by kernel_rfl) (fun _ _ _ h => h) (Or.inl ⟨by rfl, ?_⟩) hHeld ?_ ?_
                      rotate_left
                      · rintro w' ⟨s0, s1, s2, s3⟩
                        go_simp
                        with_reducible rfl
                      rotate_left
                      · simp only [Act.put, List.setIfInBounds_toArray, List.set_cons_zero, List.set_cons_succ, i64_w, i32_w]
                        rfl
                      refine pure_ (i := 7) (N := some 112) (v := ?_) (a' := ?_) #[true, true, true, true, true, true, true, true, false, false, false, false, false, false, false, false, false, false, false, false, false, false, false, false, false, false, false, false, false, false, false] rfl rfl (by kernel_rfl) (fun _ _ _ h => h) (Or.inl ⟨by rfl, ?_⟩) ?_ ?_
                      rotate_left
                      · intro w'
                        go_simp
                        with_reducible rfl
                      rotate_left
                      · simp only [Act.put, List.setIfInBounds_toArray, List.set_cons_zero, List.set_cons_succ, i64_w, i32_w]
                        rfl
                      refine one_ (i := 8) (N := some 113) #[true, true, true, true, true, true, true, true, true, false, false, false, false, false, false, false, false, false, false, false, false, false, false, false, false, false, false, false, false, false, false] rfl rfl (by kernel_rfl) (by decide) (fun K hK => ?_)
                      refine goes_ Tryd.func30 (by kernel_rfl) rfl #[.int .i64 (k : Int)] (by rfl) rfl rfl (by simp [Act.eval, Act.put]) ?_
                      refine (num_any (n := k) (by omega)).mono ?_
                      rintro e wc ⟨rfl, hbc⟩
                      rw [Hmk.out]
                      obtain ⟨s0, s1, s2, s3⟩ := hHeld
                      refine ⟨_, rfl, hK.out _ _ ⟨cell_on hbc s0, cell_on hbc s1, cell_on hbc s2, cell_on hbc s3⟩ (fun hHeld => ?_)⟩
                      clear hK K
                      refine pure_ (i := 9) (N := some 114) (v := ?_) (a' := ?_) #[true, true, true, true, true, true, true, true, true, true, false, false, false, false, false, false, false, false, false, false, false, false, false, false, false, false, false, false, false, false, false] rfl rfl (by kernel_rfl) (fun _ _ _ h => h) (Or.inl ⟨by rfl, ?_⟩) ?_ ?_
                      rotate_left
                      · intro w'
                        go_simp
                        with_reducible rfl
                      rotate_left
                      · simp only [Act.put, List.setIfInBounds_toArray, List.set_cons_zero, List.set_cons_succ, i64_w, i32_w]
                        rfl
                      refine pure_ (i := 10) (N := some 115) (v := ?_) (a' := ?_) #[true, true, true, true, true, true, true, true, true, true, true, false, false, false, false, false, false, false, false, false, false, false, false, false, false, false, false, false, false, false, false] rfl rfl (by kernel_rfl) (fun _ _ _ h => h) (Or.inl ⟨by rfl, ?_⟩) ?_ ?_
                      rotate_left
                      · intro w'
                        go_simp
                        with_reducible rfl
                      rotate_left
                      · simp only [Act.put, List.setIfInBounds_toArray, List.set_cons_zero, List.set_cons_succ, i64_w, i32_w]
                        rfl
                      refine pure_ (i := 11) (N := some 116) (v := ?_) (a' := ?_) #[true, true, true, true, true, true, true, true, true, true, true, true, false, false, false, false, false, false, false, false, false, false, false, false, false, false, false, false, false, false, false] rfl rfl (by kernel_rfl) (fun _ _ _ h => h) (Or.inl ⟨by rfl, ?_⟩) ?_ ?_
                      rotate_left
                      · intro w'
                        go_simp
                        with_reducible rfl
                      rotate_left
                      · simp only [Act.put, List.setIfInBounds_toArray, List.set_cons_zero, List.set_cons_succ, i64_w, i32_w]
                        rfl
                      refine pure_ (i := 12) (N := some 117) (v := ?_) (a' := ?_) #[true, true, true, true, true, true, true, true, true, true, true, true, true, false, false, false, false, false, false, false, false, false, false, false, false, false, false, false, false, false, false] rfl rfl (by kernel_rfl) (fun _ _ _ h => h) (Or.inl ⟨by rfl, ?_⟩) ?_ ?_
                      rotate_left
                      · intro w'
                        go_simp
                        with_reducible rfl
                      rotate_left
                      · simp only [Act.put, List.setIfInBounds_toArray, List.set_cons_zero, List.set_cons_succ, i64_w, i32_w]
                        rfl
                      refine pure_ (i := 13) (N := some 118) (v := ?_) (a' := ?_) #[true, true, true, true, true, true, true, true, true, true, true, true, true, true, false, false, false, false, false, false, false, false, false, false, false, false, false, false, false, false, false] rfl rfl (by kernel_rfl) (fun _ _ _ h => h) (Or.inl ⟨by rfl, ?_⟩) ?_ ?_
                      rotate_left
                      · intro w'
                        go_simp
                        with_reducible rfl
                      rotate_left
                      · simp only [Act.put, List.setIfInBounds_toArray, List.set_cons_zero, List.set_cons_succ, i64_w, i32_w]
                        rfl
                      refine pure_ (i := 14) (N := some 119) (v := ?_) (a' := ?_) #[true, true, true, true, true, true, true, true, true, true, true, true, true, true, true, false, false, false, false, false, false, false, false, false, false, false, false, false, false, false, false] rfl rfl (by kernel_rfl) (fun _ _ _ h => h) (Or.inl ⟨by rfl, ?_⟩) ?_ ?_
                      rotate_left
                      · intro w'
                        go_simp
                        with_reducible rfl
                      rotate_left
                      · simp only [Act.put, List.setIfInBounds_toArray, List.set_cons_zero, List.set_cons_succ, i64_w, i32_w]
                        rfl
                      refine take_ (i := 15) (N := some 120) (v := ?_) (a' := ?_) #[true, true, true, true, true, true, true, true, true, true, true, true, true, true, true, true, false, false, false, false, false, false, false, false, false, false, false, false, false, false, false] rfl rfl (by kernel_rfl) (fun _ _ _ h => h) (Or.inl ⟨by rfl, ?_⟩) hHeld ?_ ?_
                      rotate_left
                      · rintro w' ⟨s0, s1, s2, s3⟩
                        go_simp
                        with_reducible rfl
                      rotate_left
                      · simp only [Act.put, List.setIfInBounds_toArray, List.set_cons_zero, List.set_cons_succ, i64_w, i32_w]
                        rfl
                      refine pure_ (i := 16) (N := some 121) (v := ?_) (a' := ?_) #[true, true, true, true, true, true, true, true, true, true, true, true, true, true, true, true, true, false, false, false, false, false, false, false, false, false, false, false, false, false, false] rfl rfl (by kernel_rfl) (fun _ _ _ h => h) (Or.inl ⟨by rfl, ?_⟩) ?_ ?_
                      rotate_left
                      · intro w'
                        go_simp
                        with_reducible rfl
                      rotate_left
                      · simp only [Act.put, List.setIfInBounds_toArray, List.set_cons_zero, List.set_cons_succ, i64_w, i32_w]
                        rfl
                      refine pure_ (i := 17) (N := some 122) (v := ?_) (a' := ?_) #[true, true, true, true, true, true, true, true, true, true, true, true, true, true, true, true, true, true, false, false, false, false, false, false, false, false, false, false, false, false, false] rfl rfl (by kernel_rfl) (fun _ _ _ h => h) (Or.inl ⟨by rfl, ?_⟩) ?_ ?_
                      rotate_left
                      · intro w'
                        go_simp
                        with_reducible rfl
                      rotate_left
                      · simp only [Act.put, List.setIfInBounds_toArray, List.set_cons_zero, List.set_cons_succ, i64_w, i32_w]
                        rfl
                      refine pure_ (i := 18) (N := some 123) (v := ?_) (a' := ?_) #[true, true, true, true, true, true, true, true, true, true, true, true, true, true, true, true, true, true, true, false, false, false, false, false, false, false, false, false, false, false, false] rfl rfl (by kernel_rfl) (fun _ _ _ h => h) (Or.inl ⟨by rfl, ?_⟩) ?_ ?_
                      rotate_left
                      · intro w'
                        go_simp
                        with_reducible rfl
                      rotate_left
                      · simp only [Act.put, List.setIfInBounds_toArray, List.set_cons_zero, List.set_cons_succ, i64_w, i32_w]
                        rfl
                      refine pure_ (i := 19) (N := some 124) (v := ?_) (a' := ?_) #[true, true, true, true, true, true, true, true, true, true, true, true, true, true, true, true, true, true, true, true, false, false, false, false, false, false, false, false, false, false, false] rfl rfl (by kernel_rfl) (fun _ _ _ h => h) (Or.inl ⟨by rfl, ?_⟩) ?_ ?_
                      rotate_left
                      · intro w'
                        go_simp
                        with_reducible rfl
                      rotate_left
                      · simp only [Act.put, List.setIfInBounds_toArray, List.set_cons_zero, List.set_cons_succ, i64_w, i32_w]
                        rfl
                      refine pure_ (i := 20) (N := some 125) (v := ?_) (a' := ?_) #[true, true, true, true, true, true, true, true, true, true, true, true, true, true, true, true, true, true, true, true, true, false, false, false, false, false, false, false, false, false, false] rfl rfl (by kernel_rfl) (fun _ _ _ h => h) (Or.inl ⟨by rfl, ?_⟩) ?_ ?_
                      rotate_left
                      · intro w'
                        go_simp
                        with_reducible rfl
                      rotate_left
                      · simp only [Act.put, List.setIfInBounds_toArray, List.set_cons_zero, List.set_cons_succ, i64_w, i32_w]
                        rfl
                      refine pure_ (i := 21) (N := some 126) (v := ?_) (a' := ?_) #[true, true, true, true, true, true, true, true, true, true, true, true, true, true, true, true, true, true, true, true, true, true, false, false, false, false, false, false, false, false, false] rfl rfl (by kernel_rfl) (fun _ _ _ h => h) (Or.inl ⟨by rfl, ?_⟩) ?_ ?_
                      rotate_left
                      · intro w'
                        go_simp
                        with_reducible rfl
                      rotate_left
                      · simp only [Act.put, List.setIfInBounds_toArray, List.set_cons_zero, List.set_cons_succ, i64_w, i32_w]
                        rfl
                      refine take_ (i := 22) (N := some 127) (v := ?_) (a' := ?_) #[true, true, true, true, true, true, true, true, true, true, true, true, true, true, true, true, true, true, true, true, true, true, true, false, false, false, false, false, false, false, false] rfl rfl (by kernel_rfl) (fun _ _ _ h => h) (Or.inl ⟨by rfl, ?_⟩) hHeld ?_ ?_
                      rotate_left
                      · rintro w' ⟨s0, s1, s2, s3⟩
                        go_simp
                        with_reducible rfl
                      rotate_left
                      · simp only [Act.put, List.setIfInBounds_toArray, List.set_cons_zero, List.set_cons_succ, i64_w, i32_w]
                        rfl
                      refine pure_ (i := 23) (N := some 128) (v := ?_) (a' := ?_) #[true, true, true, true, true, true, true, true, true, true, true, true, true, true, true, true, true, true, true, true, true, true, true, true, false, false, false, false, false, false, false] rfl rfl (by kernel_rfl) (fun _ _ _ h => h) (Or.inl ⟨by rfl, ?_⟩) ?_ ?_
                      rotate_left
                      · intro w'
                        go_simp
                        with_reducible rfl
                      rotate_left
                      · simp only [Act.put, List.setIfInBounds_toArray, List.set_cons_zero, List.set_cons_succ, i64_w, i32_w]
                        rfl
                      refine pure_ (i := 24) (N := some 129) (v := ?_) (a' := ?_) #[true, true, true, true, true, true, true, true, true, true, true, true, true, true, true, true, true, true, true, true, true, true, true, true, true, false, false, false, false, false, false] rfl rfl (by kernel_rfl) (fun _ _ _ h => h) (Or.inl ⟨by rfl, ?_⟩) ?_ ?_
                      rotate_left
                      · intro w'
                        go_simp
                        with_reducible rfl
                      rotate_left
                      · simp only [Act.put, List.setIfInBounds_toArray, List.set_cons_zero, List.set_cons_succ, i64_w, i32_w]
                        rfl
                      refine take_ (i := 25) (N := some 130) (v := ?_) (a' := ?_) #[true, true, true, true, true, true, true, true, true, true, true, true, true, true, true, true, true, true, true, true, true, true, true, true, true, true, false, false, false, false, false] rfl rfl (by kernel_rfl) (fun _ _ _ h => h) (Or.inl ⟨by rfl, ?_⟩) hHeld ?_ ?_
                      rotate_left
                      · rintro w' ⟨s0, s1, s2, s3⟩
                        go_simp
                        with_reducible rfl
                      rotate_left
                      · simp only [Act.put, List.setIfInBounds_toArray, List.set_cons_zero, List.set_cons_succ, i64_w, i32_w]
                        rfl
                      refine pure_ (i := 26) (N := some 131) (v := ?_) (a' := ?_) #[true, true, true, true, true, true, true, true, true, true, true, true, true, true, true, true, true, true, true, true, true, true, true, true, true, true, true, false, false, false, false] rfl rfl (by kernel_rfl) (fun _ _ _ h => h) (Or.inl ⟨by rfl, ?_⟩) ?_ ?_
                      rotate_left
                      · intro w'
                        go_simp
                        with_reducible rfl
                      rotate_left
                      · simp only [Act.put, List.setIfInBounds_toArray, List.set_cons_zero, List.set_cons_succ, i64_w, i32_w]
                        rfl
                      refine one_ (i := 27) (N := some 132) #[true, true, true, true, true, true, true, true, true, true, true, true, true, true, true, true, true, true, true, true, true, true, true, true, true, true, true, true, false, false, false] rfl rfl (by kernel_rfl) (by decide) (fun K hK => ?_)
                      refine goes_ Tryd.func30 (by kernel_rfl) rfl #[.int .i64 (k : Int)] (by rfl) rfl rfl (by simp [Act.eval, Act.put]) ?_
                      refine (num_any (n := k) (by omega)).mono ?_
                      rintro e wd ⟨rfl, hbd⟩
                      rw [Hmk.out]
                      obtain ⟨s0, s1, s2, s3⟩ := hHeld
                      refine ⟨_, rfl, hK.out _ _ ⟨cell_on hbd s0, cell_on hbd s1, cell_on hbd s2, cell_on hbd s3⟩ (fun hHeld => ?_)⟩
                      clear hK K
                      refine pure_ (i := 28) (N := some 133) (v := ?_) (a' := ?_) #[true, true, true, true, true, true, true, true, true, true, true, true, true, true, true, true, true, true, true, true, true, true, true, true, true, true, true, true, true, false, false] rfl rfl (by kernel_rfl) (fun _ _ _ h => h) (Or.inl ⟨by rfl, ?_⟩) ?_ ?_
                      rotate_left
                      · intro w'
                        go_simp
                        with_reducible rfl
                      rotate_left
                      · simp only [Act.put, List.setIfInBounds_toArray, List.set_cons_zero, List.set_cons_succ, i64_w, i32_w]
                        rfl
                      refine pure_ (i := 29) (N := some 134) (v := ?_) (a' := ?_) #[true, true, true, true, true, true, true, true, true, true, true, true, true, true, true, true, true, true, true, true, true, true, true, true, true, true, true, true, true, true, false] rfl rfl (by kernel_rfl) (fun _ _ _ h => h) (Or.inl ⟨by rfl, ?_⟩) ?_ ?_
                      rotate_left
                      · intro w'
                        go_simp
                        with_reducible rfl
                      rotate_left
                      · simp only [Act.put, List.setIfInBounds_toArray, List.set_cons_zero, List.set_cons_succ, i64_w, i32_w]
                        rfl
                      refine pure_ (i := 30) (N := some 135) (v := ?_) (a' := ?_) #[true, true, true, true, true, true, true, true, true, true, true, true, true, true, true, true, true, true, true, true, true, true, true, true, true, true, true, true, true, true, true] rfl rfl (by kernel_rfl) (fun _ _ _ h => h) (Or.inl ⟨by rfl, ?_⟩) ?_ ?_
                      rotate_left
                      · intro w'
                        go_simp
                        with_reducible rfl
                      rotate_left
                      · simp only [Act.put, List.setIfInBounds_toArray, List.set_cons_zero, List.set_cons_succ, i64_w, i32_w]
                        rfl
                      refine done_ (by kernel_rfl) ?_
                      go_wp2_with fail
                      go_roundw
                      case rel => exact ⟨j + 1, by omega, by go_num, ⟨((M.out.drawn ⟨1, rfl⟩).below hbc).below hbd⟩⟩
                      case measure => simp [intOf]; omega
                    · have hjy' : ¬ (j : Int) < (ny : Int) := by omega
                      clear hmx hmy
                      go_wp2_with fail
                      refine start_ (n := 31) (S := fun w' => w'.cell? ⟨bG, k, none⟩ = some (.slice (some ⟨bx, 0, none⟩) nx cx) ∧ w'.cell? ⟨bx, j, none⟩ = some (.string mk) ∧ w'.cell? ⟨bL, k, none⟩ = some (.slice Ay ny cy)) (ds := []) #[false, false, false, false, false, false, false, false, false, false, false, false, false, false, false, false, false, false, false, false, false, false, false, false, false, false, false, false, false, false, false] (by kernel_rfl) rfl rfl ⟨cG, cX, cL'⟩ (fun hHeld => ?_)
                      refine pure_ (i := 0) (N := some 105) (v := ?_) (a' := ?_) #[true, false, false, false, false, false, false, false, false, false, false, false, false, false, false, false, false, false, false, false, false, false, false, false, false, false, false, false, false, false, false] rfl rfl (by kernel_rfl) (fun _ _ _ h => h) (Or.inl ⟨by rfl, ?_⟩) ?_ ?_
                      rotate_left
                      · intro w'
                        go_simp
                        with_reducible rfl
                      rotate_left
                      · simp only [Act.put, List.setIfInBounds_toArray, List.set_cons_zero, List.set_cons_succ, i64_w, i32_w]
                        rfl
                      refine pure_ (i := 1) (N := some 106) (v := ?_) (a' := ?_) #[true, true, false, false, false, false, false, false, false, false, false, false, false, false, false, false, false, false, false, false, false, false, false, false, false, false, false, false, false, false, false] rfl rfl (by kernel_rfl) (fun _ _ _ h => h) (Or.inl ⟨by rfl, ?_⟩) ?_ ?_
                      rotate_left
                      · intro w'
                        go_simp
                        with_reducible rfl
                      rotate_left
                      · simp only [Act.put, List.setIfInBounds_toArray, List.set_cons_zero, List.set_cons_succ, i64_w, i32_w]
                        rfl
                      refine pure_ (i := 2) (N := some 107) (v := ?_) (a' := ?_) #[true, true, true, false, false, false, false, false, false, false, false, false, false, false, false, false, false, false, false, false, false, false, false, false, false, false, false, false, false, false, false] rfl rfl (by kernel_rfl) (fun _ _ _ h => h) (Or.inl ⟨by rfl, ?_⟩) ?_ ?_
                      rotate_left
                      · intro w'
                        go_simp
                        with_reducible rfl
                      rotate_left
                      · simp only [Act.put, List.setIfInBounds_toArray, List.set_cons_zero, List.set_cons_succ, i64_w, i32_w]
                        rfl
                      refine take_ (i := 3) (N := some 108) (v := ?_) (a' := ?_) #[true, true, true, true, false, false, false, false, false, false, false, false, false, false, false, false, false, false, false, false, false, false, false, false, false, false, false, false, false, false, false] rfl rfl (by kernel_rfl) (fun _ _ _ h => h) (Or.inl ⟨by rfl, ?_⟩) hHeld ?_ ?_
                      rotate_left
                      · rintro w' ⟨s0, s1, s2⟩
                        go_simp
                        with_reducible rfl
                      rotate_left
                      · simp only [Act.put, List.setIfInBounds_toArray, List.set_cons_zero, List.set_cons_succ, i64_w, i32_w]
                        rfl
                      refine pure_ (i := 4) (N := some 109) (v := ?_) (a' := ?_) #[true, true, true, true, true, false, false, false, false, false, false, false, false, false, false, false, false, false, false, false, false, false, false, false, false, false, false, false, false, false, false] rfl rfl (by kernel_rfl) (fun _ _ _ h => h) (Or.inl ⟨by rfl, ?_⟩) ?_ ?_
                      rotate_left
                      · intro w'
                        go_simp
                        with_reducible rfl
                      rotate_left
                      · simp only [Act.put, List.setIfInBounds_toArray, List.set_cons_zero, List.set_cons_succ, i64_w, i32_w]
                        rfl
                      refine pure_ (i := 5) (N := some 110) (v := ?_) (a' := ?_) #[true, true, true, true, true, true, false, false, false, false, false, false, false, false, false, false, false, false, false, false, false, false, false, false, false, false, false, false, false, false, false] rfl rfl (by kernel_rfl) (fun _ _ _ h => h) (Or.inl ⟨by rfl, ?_⟩) ?_ ?_
                      rotate_left
                      · intro w'
                        go_simp
                        with_reducible rfl
                      rotate_left
                      · simp only [Act.put, List.setIfInBounds_toArray, List.set_cons_zero, List.set_cons_succ, i64_w, i32_w]
                        rfl
                      refine take_ (i := 6) (N := some 111) (v := ?_) (a' := ?_) #[true, true, true, true, true, true, true, false, false, false, false, false, false, false, false, false, false, false, false, false, false, false, false, false, false, false, false, false, false, false, false] rfl rfl (by kernel_rfl) (fun _ _ _ h => h) (Or.inl ⟨by rfl, ?_⟩) hHeld ?_ ?_
                      rotate_left
                      · rintro w' ⟨s0, s1, s2⟩
                        go_simp
                        with_reducible rfl
                      rotate_left
                      · simp only [Act.put, List.setIfInBounds_toArray, List.set_cons_zero, List.set_cons_succ, i64_w, i32_w]
                        rfl
                      refine pure_ (i := 7) (N := some 112) (v := ?_) (a' := ?_) #[true, true, true, true, true, true, true, true, false, false, false, false, false, false, false, false, false, false, false, false, false, false, false, false, false, false, false, false, false, false, false] rfl rfl (by kernel_rfl) (fun _ _ _ h => h) (Or.inl ⟨by rfl, ?_⟩) ?_ ?_
                      rotate_left
                      · intro w'
                        go_simp
                        with_reducible rfl
                      rotate_left
                      · simp only [Act.put, List.setIfInBounds_toArray, List.set_cons_zero, List.set_cons_succ, i64_w, i32_w]
                        rfl
                      refine one_ (i := 8) (N := some 113) #[true, true, true, true, true, true, true, true, true, false, false, false, false, false, false, false, false, false, false, false, false, false, false, false, false, false, false, false, false, false, false] rfl rfl (by kernel_rfl) (by decide) (fun K hK => ?_)
                      refine goes_ Tryd.func30 (by kernel_rfl) rfl #[.int .i64 (k : Int)] (by rfl) rfl rfl (by simp [Act.eval, Act.put]) ?_
                      refine (num_any (n := k) (by omega)).mono ?_
                      rintro e wc ⟨rfl, hbc⟩
                      rw [Hmk.out]
                      obtain ⟨s0, s1, s2⟩ := hHeld
                      refine ⟨_, rfl, hK.out _ _ ⟨cell_on hbc s0, cell_on hbc s1, cell_on hbc s2⟩ (fun hHeld => ?_)⟩
                      clear hK K
                      refine pure_ (i := 9) (N := some 114) (v := ?_) (a' := ?_) #[true, true, true, true, true, true, true, true, true, true, false, false, false, false, false, false, false, false, false, false, false, false, false, false, false, false, false, false, false, false, false] rfl rfl (by kernel_rfl) (fun _ _ _ h => h) (Or.inl ⟨by rfl, ?_⟩) ?_ ?_
                      rotate_left
                      · intro w'
                        go_simp
                        with_reducible rfl
                      rotate_left
                      · simp only [Act.put, List.setIfInBounds_toArray, List.set_cons_zero, List.set_cons_succ, i64_w, i32_w]
                        rfl
                      refine pure_ (i := 10) (N := some 115) (v := ?_) (a' := ?_) #[true, true, true, true, true, true, true, true, true, true, true, false, false, false, false, false, false, false, false, false, false, false, false, false, false, false, false, false, false, false, false] rfl rfl (by kernel_rfl) (fun _ _ _ h => h) (Or.inl ⟨by rfl, ?_⟩) ?_ ?_
                      rotate_left
                      · intro w'
                        go_simp
                        with_reducible rfl
                      rotate_left
                      · simp only [Act.put, List.setIfInBounds_toArray, List.set_cons_zero, List.set_cons_succ, i64_w, i32_w]
                        rfl
                      refine pure_ (i := 11) (N := some 116) (v := ?_) (a' := ?_) #[true, true, true, true, true, true, true, true, true, true, true, true, false, false, false, false, false, false, false, false, false, false, false, false, false, false, false, false, false, false, false] rfl rfl (by kernel_rfl) (fun _ _ _ h => h) (Or.inl ⟨by rfl, ?_⟩) ?_ ?_
                      rotate_left
                      · intro w'
                        go_simp
                        with_reducible rfl
                      rotate_left
                      · simp only [Act.put, List.setIfInBounds_toArray, List.set_cons_zero, List.set_cons_succ, i64_w, i32_w]
                        rfl
                      refine pure_ (i := 12) (N := some 117) (v := ?_) (a' := ?_) #[true, true, true, true, true, true, true, true, true, true, true, true, true, false, false, false, false, false, false, false, false, false, false, false, false, false, false, false, false, false, false] rfl rfl (by kernel_rfl) (fun _ _ _ h => h) (Or.inl ⟨by rfl, ?_⟩) ?_ ?_
                      rotate_left
                      · intro w'
                        go_simp
                        with_reducible rfl
                      rotate_left
                      · simp only [Act.put, List.setIfInBounds_toArray, List.set_cons_zero, List.set_cons_succ, i64_w, i32_w]
                        rfl
                      refine pure_ (i := 13) (N := some 118) (v := ?_) (a' := ?_) #[true, true, true, true, true, true, true, true, true, true, true, true, true, true, false, false, false, false, false, false, false, false, false, false, false, false, false, false, false, false, false] rfl rfl (by kernel_rfl) (fun _ _ _ h => h) (Or.inl ⟨by rfl, ?_⟩) ?_ ?_
                      rotate_left
                      · intro w'
                        go_simp
                        with_reducible rfl
                      rotate_left
                      · simp only [Act.put, List.setIfInBounds_toArray, List.set_cons_zero, List.set_cons_succ, i64_w, i32_w]
                        rfl
                      refine pure_ (i := 14) (N := some 119) (v := ?_) (a' := ?_) #[true, true, true, true, true, true, true, true, true, true, true, true, true, true, true, false, false, false, false, false, false, false, false, false, false, false, false, false, false, false, false] rfl rfl (by kernel_rfl) (fun _ _ _ h => h) (Or.inl ⟨by rfl, ?_⟩) ?_ ?_
                      rotate_left
                      · intro w'
                        go_simp
                        with_reducible rfl
                      rotate_left
                      · simp only [Act.put, List.setIfInBounds_toArray, List.set_cons_zero, List.set_cons_succ, i64_w, i32_w]
                        rfl
                      refine take_ (i := 15) (N := some 120) (v := ?_) (a' := ?_) #[true, true, true, true, true, true, true, true, true, true, true, true, true, true, true, true, false, false, false, false, false, false, false, false, false, false, false, false, false, false, false] rfl rfl (by kernel_rfl) (fun _ _ _ h => h) (Or.inl ⟨by rfl, ?_⟩) hHeld ?_ ?_
                      rotate_left
                      · rintro w' ⟨s0, s1, s2⟩
                        go_simp
                        with_reducible rfl
                      rotate_left
                      · simp only [Act.put, List.setIfInBounds_toArray, List.set_cons_zero, List.set_cons_succ, i64_w, i32_w]
                        rfl
                      refine pure_ (i := 16) (N := some 121) (v := ?_) (a' := ?_) #[true, true, true, true, true, true, true, true, true, true, true, true, true, true, true, true, true, false, false, false, false, false, false, false, false, false, false, false, false, false, false] rfl rfl (by kernel_rfl) (fun _ _ _ h => h) (Or.inl ⟨by rfl, ?_⟩) ?_ ?_
                      rotate_left
                      · intro w'
                        go_simp
                        with_reducible rfl
                      rotate_left
                      · simp only [Act.put, List.setIfInBounds_toArray, List.set_cons_zero, List.set_cons_succ, i64_w, i32_w]
                        rfl
                      refine pure_ (i := 17) (N := some 122) (v := ?_) (a' := ?_) #[true, true, true, true, true, true, true, true, true, true, true, true, true, true, true, true, true, true, false, false, false, false, false, false, false, false, false, false, false, false, false] rfl rfl (by kernel_rfl) (fun _ _ _ h => h) (Or.inl ⟨by rfl, ?_⟩) ?_ ?_
                      rotate_left
                      · intro w'
                        go_simp
                        with_reducible rfl
                      rotate_left
                      · simp only [Act.put, List.setIfInBounds_toArray, List.set_cons_zero, List.set_cons_succ, i64_w, i32_w]
                        rfl
                      refine pure_ (i := 18) (N := some 123) (v := ?_) (a' := ?_) #[true, true, true, true, true, true, true, true, true, true, true, true, true, true, true, true, true, true, true, false, false, false, false, false, false, false, false, false, false, false, false] rfl rfl (by kernel_rfl) (fun _ _ _ h => h) (Or.inl ⟨by rfl, ?_⟩) ?_ ?_
                      rotate_left
                      · intro w'
                        go_simp
                        with_reducible rfl
                      rotate_left
                      · simp only [Act.put, List.setIfInBounds_toArray, List.set_cons_zero, List.set_cons_succ, i64_w, i32_w]
                        rfl
                      refine pure_ (i := 19) (N := some 124) (v := undef) (a' := ?_) #[true, true, true, true, true, true, true, true, true, true, true, true, true, true, true, true, true, true, true, true, false, false, false, false, false, false, false, false, false, false, false] rfl rfl (by kernel_rfl) (fun _ _ _ h => h) (Or.inr ⟨by rfl, rfl⟩) ?_ ?_
                      rotate_left
                      · simp only [Act.put, List.setIfInBounds_toArray, List.set_cons_zero, List.set_cons_succ, i64_w, i32_w]
                        rfl
                      refine pure_ (i := 20) (N := some 125) (v := undef) (a' := ?_) #[true, true, true, true, true, true, true, true, true, true, true, true, true, true, true, true, true, true, true, true, true, false, false, false, false, false, false, false, false, false, false] rfl rfl (by kernel_rfl) (fun _ _ _ h => h) (Or.inr ⟨by rfl, rfl⟩) ?_ ?_
                      rotate_left
                      · simp only [Act.put, List.setIfInBounds_toArray, List.set_cons_zero, List.set_cons_succ, i64_w, i32_w]
                        rfl
                      refine pure_ (i := 21) (N := some 126) (v := undef) (a' := ?_) #[true, true, true, true, true, true, true, true, true, true, true, true, true, true, true, true, true, true, true, true, true, true, false, false, false, false, false, false, false, false, false] rfl rfl (by kernel_rfl) (fun _ _ _ h => h) (Or.inr ⟨by rfl, rfl⟩) ?_ ?_
                      rotate_left
                      · simp only [Act.put, List.setIfInBounds_toArray, List.set_cons_zero, List.set_cons_succ, i64_w, i32_w]
                        rfl
                      refine pure_ (i := 22) (N := some 127) (v := undef) (a' := ?_) #[true, true, true, true, true, true, true, true, true, true, true, true, true, true, true, true, true, true, true, true, true, true, true, false, false, false, false, false, false, false, false] rfl rfl (by kernel_rfl) (fun _ _ _ h => h) (Or.inr ⟨by rfl, rfl⟩) ?_ ?_
                      rotate_left
                      · simp only [Act.put, List.setIfInBounds_toArray, List.set_cons_zero, List.set_cons_succ, i64_w, i32_w]
                        rfl
                      refine pure_ (i := 23) (N := some 128) (v := undef) (a' := ?_) #[true, true, true, true, true, true, true, true, true, true, true, true, true, true, true, true, true, true, true, true, true, true, true, true, false, false, false, false, false, false, false] rfl rfl (by kernel_rfl) (fun _ _ _ h => h) (Or.inr ⟨by rfl, rfl⟩) ?_ ?_
                      rotate_left
                      · simp only [Act.put, List.setIfInBounds_toArray, List.set_cons_zero, List.set_cons_succ, i64_w, i32_w]
                        rfl
                      refine pure_ (i := 24) (N := some 129) (v := undef) (a' := ?_) #[true, true, true, true, true, true, true, true, true, true, true, true, true, true, true, true, true, true, true, true, true, true, true, true, true, false, false, false, false, false, false] rfl rfl (by kernel_rfl) (fun _ _ _ h => h) (Or.inr ⟨by rfl, rfl⟩) ?_ ?_
                      rotate_left
                      · simp only [Act.put, List.setIfInBounds_toArray, List.set_cons_zero, List.set_cons_succ, i64_w, i32_w]
                        rfl
                      refine pure_ (i := 25) (N := some 130) (v := undef) (a' := ?_) #[true, true, true, true, true, true, true, true, true, true, true, true, true, true, true, true, true, true, true, true, true, true, true, true, true, true, false, false, false, false, false] rfl rfl (by kernel_rfl) (fun _ _ _ h => h) (Or.inr ⟨by rfl, rfl⟩) ?_ ?_
                      rotate_left
                      · simp only [Act.put, List.setIfInBounds_toArray, List.set_cons_zero, List.set_cons_succ, i64_w, i32_w]
                        rfl
                      refine pure_ (i := 26) (N := some 131) (v := undef) (a' := ?_) #[true, true, true, true, true, true, true, true, true, true, true, true, true, true, true, true, true, true, true, true, true, true, true, true, true, true, true, false, false, false, false] rfl rfl (by kernel_rfl) (fun _ _ _ h => h) (Or.inr ⟨by rfl, rfl⟩) ?_ ?_
                      rotate_left
                      · simp only [Act.put, List.setIfInBounds_toArray, List.set_cons_zero, List.set_cons_succ, i64_w, i32_w]
                        rfl
                      refine pure_ (i := 27) (N := some 132) (v := undef) (a' := ?_) #[true, true, true, true, true, true, true, true, true, true, true, true, true, true, true, true, true, true, true, true, true, true, true, true, true, true, true, true, false, false, false] rfl rfl (by kernel_rfl) (fun _ _ _ h => h) (Or.inr ⟨by rfl, rfl⟩) ?_ ?_
                      rotate_left
                      · simp only [Act.put, List.setIfInBounds_toArray, List.set_cons_zero, List.set_cons_succ, i64_w, i32_w]
                        rfl
                      refine pure_ (i := 28) (N := some 133) (v := undef) (a' := ?_) #[true, true, true, true, true, true, true, true, true, true, true, true, true, true, true, true, true, true, true, true, true, true, true, true, true, true, true, true, true, false, false] rfl rfl (by kernel_rfl) (fun _ _ _ h => h) (Or.inr ⟨by rfl, rfl⟩) ?_ ?_
                      rotate_left
                      · simp only [Act.put, List.setIfInBounds_toArray, List.set_cons_zero, List.set_cons_succ, i64_w, i32_w]
                        rfl
                      refine pure_ (i := 29) (N := some 134) (v := ?_) (a' := ?_) #[true, true, true, true, true, true, true, true, true, true, true, true, true, true, true, true, true, true, true, true, true, true, true, true, true, true, true, true, true, true, false] rfl rfl (by kernel_rfl) (fun _ _ _ h => h) (Or.inl ⟨by rfl, ?_⟩) ?_ ?_
                      rotate_left
                      · intro w'
                        go_simp
                        with_reducible rfl
                      rotate_left
                      · simp only [Act.put, List.setIfInBounds_toArray, List.set_cons_zero, List.set_cons_succ, i64_w, i32_w]
                        rfl
                      refine pure_ (i := 30) (N := some 135) (v := ?_) (a' := ?_) #[true, true, true, true, true, true, true, true, true, true, true, true, true, true, true, true, true, true, true, true, true, true, true, true, true, true, true, true, true, true, true] rfl rfl (by kernel_rfl) (fun _ _ _ h => h) (Or.inl ⟨by rfl, ?_⟩) ?_ ?_
                      rotate_left
                      · intro w'
                        go_simp
                        with_reducible rfl
                      rotate_left
                      · simp only [Act.put, List.setIfInBounds_toArray, List.set_cons_zero, List.set_cons_succ, i64_w, i32_w]
                        rfl
                      refine done_ (by kernel_rfl) ?_
                      go_wp2_with fail
                      go_roundw
                      case rel =>
                        have hdk : decide (k < min (i + 1) 30) = true := decide_eq_true (by omega)
                        simp only [hdk]
                        exact ⟨_, .int .i64 ((j : Int) + 1), _, _, _, _, _, _, _, _, _, _, _, _, _, _, _, _, _, _, _, _, _, _, _, _, _, _, _, _, _, _, _, _, _, _, _, _, _, _, _, _, ⟨j + 1, by omega, by go_num, ⟨(M.out.drawn ⟨1, rfl⟩).below hbc⟩⟩, rfl⟩
                      case measure => simp [intOf]; omega
                  · have hj' : j = nx := by omega
                    subst hj'
                    go_wp2_with fail
                    go_roundw
                    case rel => exact ⟨k + 1, by omega, by go_num, M⟩
                    case measure => simp [intOf]; omega
              · go_wp2_with fail
                go_roundw
                case rel => exact ⟨i + 1, T', us, hs, by omega, by go_num, by omega, by omega, HT', by rw [← hm1, show 8 + 2 * (i + 1) = 8 + 2 * i + 2 by omega]; exact M⟩
                case measure => simp [intOf]; omega
    · go_wp2_with fail
      refine (s_labels M.out).mono ?_
      rintro e w4 ⟨A4, c4, rfl, hc4, hm⟩
      replace M := Aside0.mk hm
      clear hm
      have hpos : 2 ≤ T.labels.length := by obtain ⟨more, hmore⟩ := HT.out; rw [hmore]; simp
      have hmax := (s_wf M.out.tail).labels
      obtain ⟨b, cap, eb, hcap, hcell, hfz, _⟩ := row_some M.out.row (by omega)
      simp only [Value.slice.injEq, true_and] at eb
      obtain ⟨rfl, rfl⟩ := eb
      have ck0 : w4.cell? ⟨b, 0, none⟩ = some (.string ⟨#[102, 105, 114, 115, 116]⟩) := hcell 0 (.string first) (by obtain ⟨more, hmore⟩ := HT.out; rw [hmore]; rfl)
      have ck1 : w4.cell? ⟨b, 1, none⟩ = some (.string ⟨#[115, 101, 99, 111, 110, 100]⟩) := hcell 1 (.string second) (by obtain ⟨more, hmore⟩ := HT.out; rw [hmore]; rfl)
      have hge : decide ((T.labels.length : Int) ≥ 2) = true := decide_eq_true (by omega)
      clear hcell hfz
      go_wp2_with fail
      go_ret
      exact ⟨by simp, M.out.1⟩
end Go.Proofs.YtpoojimmponklaaDoor.SymMemory
