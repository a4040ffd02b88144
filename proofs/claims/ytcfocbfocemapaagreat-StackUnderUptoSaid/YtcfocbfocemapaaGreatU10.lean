/- SubN, NewS. -/
import Derived.Test.YtcfocbfocemapaaGreatU9
import Derived.Deep.RegionHeld3
namespace Go.Proofs.YtcfocbfocemapaaGreat.SubN
open Go.RowKit Go.Maps Go.Lib Go.Sort Go.Proofs.YtcfocbfocemapaaGreat.Sep Go.Proofs.YtcfocbfocemapaaGreat.Mem Go.Proofs.YtcfocbfocemapaaGreat.Sets Go.Proofs.YtcfocbfocemapaaGreat.PlayP Go.Proofs.YtcfocbfocemapaaGreat.PStackPlays Go.Proofs.YtcfocbfocemapaaGreat.LibA Go.Proofs.YtcfocbfocemapaaGreat.SortA Go.Proofs.YtcfocbfocemapaaGreat.SortB Go.Proofs.YtcfocbfocemapaaGreat.LibC Go.Proofs.YtcfocbfocemapaaGreat.SubA Go.Proofs.YtcfocbfocemapaaGreat.SubB Go.Proofs.YtcfocbfocemapaaGreat.SubC
open Go.Proofs.YtcfocbfocemapaaGreatW.PrintWords
set_option linter.unusedVariables false
set_option linter.unusedSimpArgs false
set_option maxRecDepth 100000

/-- A bind in memory, its list of one's own. -/
structure BI where
  x : Int
  ex : Ex
  A : Option Addr
  c : Nat
def BI.bm (q : BI) : BM := ⟨q.x, q.A, q.ex.length, q.c⟩
def BI.pr (q : BI) : Int × Ex := (q.x, q.ex)
def cellsB (l : List BM) : List Value := l.flatMap encB
theorem cellsB_more (l : List BM) (q : BM) : cellsB (l ++ [q]) = cellsB l ++ encB q := by simp [cellsB]
theorem cellsB_at (l : List BM) : ∀ {k : Nat} (hk : k < l.length), (cellsB l)[k * 2]? = some (.int .i64 l[k].x) ∧ (cellsB l)[k * 2 + 1]? = some (.slice l[k].A l[k].n l[k].c) := by
  induction l with
  | nil => intro k hk; simp at hk
  | cons a l ih =>
    intro k hk
    have e : cellsB (a :: l) = .int .i64 a.x :: .slice a.A a.n a.c :: cellsB l := rfl
    rw [e]
    cases k with
    | zero => exact ⟨rfl, rfl⟩
    | succ k =>
      obtain ⟨h1, h2⟩ := ih (k := k) (by simpa using hk)
      rw [show (k + 1) * 2 = k * 2 + 1 + 1 by omega]
      exact ⟨by simpa using h1, by simpa [Nat.add_assoc] using h2⟩
/-- The lists of all binds lie in memory of their own. -/
def ExAt (w : World) (items : List BI) (f : Nat → Prop) : Prop := ∀ q ∈ items, RowAt w 3 1 (.slice q.A q.ex.length q.c) q.ex.length (q.ex.map num) f
def exR (items : List BI) : Res :=
  ⟨fun w f => ExAt w items f, fun h hm q hq => RowAt.move (h q hq) hm, fun h hm q hq => RowAt.mono (h q hq) hm, fun h q hq => RowAt.bound (h q hq)⟩
theorem ex_none {W w : World} {rs : List Res} (h : Sep W w rs) : Sep W w (exR [] :: rs) :=
  h.fresh (w' := w) (f := fun _ => False) (Turns.refl _ _) (fun q hq => by simp at hq) (fun _ h => h.elim)
theorem ex_more {W w : World} {rs : List Res} {items : List BI} {q : BI} (h : Sep W w (rowR 3 1 (.slice q.A q.ex.length q.c) q.ex.length (q.ex.map num) :: exR items :: rs)) : Sep W w (exR (items ++ [q]) :: rs) := by
  refine h.join fun f g hf hg x hx => ?_
  rcases List.mem_append.1 hx with hx | hx
  · exact RowAt.mono (hg x hx) (fun _ h => .inr h)
  · simp only [List.mem_singleton] at hx
    subst hx
    exact RowAt.mono hf (fun _ h => .inl h)
theorem ex_perm {W w : World} {rs : List Res} {items items' : List BI} (h : Sep W w (exR items :: rs)) (hp : items'.Perm items) : Sep W w (exR items' :: rs) := h.told fun f hf q hq => hf q (hp.mem_iff.1 hq)
theorem perm_lift {α β : Type} (f : α → β) {d d' : List β} (h : d'.Perm d) : ∀ (l : List α), l.map f = d → ∃ l' : List α, l'.Perm l ∧ l'.map f = d' := by
  induction h with
  | nil => intro l hl; exact ⟨l, List.Perm.refl _, hl⟩
  | cons x _ ih =>
    intro l hl
    cases l with
    | nil => cases hl
    | cons a l =>
      simp only [List.map_cons, List.cons.injEq] at hl
      obtain ⟨l', h1, h2⟩ := ih l hl.2
      exact ⟨a :: l', List.Perm.cons a h1, by rw [List.map_cons, h2, hl.1]⟩
  | swap x y l0 =>
    intro l hl
    match l, hl with
    | a :: b :: l, hl =>
      simp only [List.map_cons, List.cons.injEq] at hl
      exact ⟨b :: a :: l, List.Perm.swap _ _ _, by simp [hl.1, hl.2.1, hl.2.2]⟩
  | trans _ _ ih1 ih2 =>
    intro l hl
    obtain ⟨l1, h1, h2⟩ := ih2 l hl
    obtain ⟨l2, h3, h4⟩ := ih1 l1 h2
    exact ⟨l2, h3.trans h1, h4⟩
theorem ex_reads {w : World} {q : BI} {f : Nat → Prop} (h : RowAt w 3 1 (.slice q.A q.ex.length q.c) q.ex.length (q.ex.map num) f) (hl : q.ex.length ≤ 9223372036854775807) : q.ex.length ≤ q.c ∧ Kd.C kI w q.A q.ex.length q.ex := row_Ci h.1 hl
/-- Binds of one's own are binds that are read. -/
theorem binds_C {w : World} {A : Option Addr} {c : Nat} {items : List BI} {f : Nat → Prop} (h : w.ownsRow 0 101 2 (.slice A items.length c) items.length (cellsB (items.map BI.bm))) (hx : ExAt w items f) (hl : items.length ≤ 4194304) (hs : ∀ q ∈ items, q.ex.length ≤ 4194304) : Kd.C kB w A (items.map BI.pr).length (items.map BI.pr) := by
  rw [List.length_map]
  refine ⟨by simp, by omega, fun hn => ?_⟩
  obtain ⟨b, cap, e, _, hcell, _⟩ := row_some h hn
  simp only [Value.slice.injEq, true_and] at e
  refine ⟨⟨b, 0, none⟩, e.1, fun j p hp => ?_⟩
  rw [List.getElem?_map] at hp
  obtain ⟨q, hq, rfl⟩ := Option.map_eq_some_iff.1 hp
  have hj := (List.getElem?_eq_some_iff.1 hq).1
  have hq2 : items[j] = q := (List.getElem?_eq_some_iff.1 hq).2
  have hqm := List.mem_of_getElem? hq
  obtain ⟨h1, h2⟩ := ex_reads (hx q hqm) (by have := hs q hqm; omega)
  obtain ⟨n1, n2⟩ := cellsB_at (items.map BI.bm) (k := j) (by simpa using hj)
  simp only [List.getElem_map, hq2] at n1 n2
  refine ⟨[.int .i64 q.x, .slice q.A q.ex.length q.c], rfl, ⟨[.int .i64 q.x], [.slice q.A q.ex.length q.c], rfl, rfl, ⟨q.A, q.c, rfl, h1, h2⟩⟩, fun i u hu => ?_⟩
  have e3 : ∀ i, (⟨b, 0, none⟩ : Addr).add (j * kB.sz + i) = ⟨b, j * 2 + i, none⟩ := fun i => add0 b (j * 2 + i)
  rw [e3]
  match i, hu with
  | 0, hu => simp at hu; subst hu; exact hcell _ _ n1
  | 1, hu => simp at hu; subst hu; exact hcell _ _ n2
  | i + 2, hu => simp at hu
/-- slices.SortFunc of binds, a list of one's own. -/
theorem sortB_calls {w : World} {g cap : Nat} {cur : Array Value} {l : List BM} (hb : w.heap[g]? = some (.cells cur 101 (0, 0))) (h1 : l.length ≤ cap) (h2 : cap ≤ maxLen) (h3 : cur.size = cap * 2) (h4 : cur.toList.take (l.length * 2) = cellsB l) (hl : l.length < 4611686018427387904) :
    Calls Tryz.prog 78 #[.slice (some ⟨g, 0, none⟩) l.length cap, .func (.func 79) #[] #[]] w fun e w' => e = .returned (.tuple #[]) ∧ ∃ l' : List BM, l'.Perm l ∧ l'.Pairwise (fun a b => ltOf cmpB b a = false) ∧ w'.ownsRow 0 101 2 (.slice (some ⟨g, 0, none⟩) l.length cap) l.length (cellsB l') ∧ w.grownBy w' (some g) := by
  have eg : ∀ args w, (callFunc 79 args).run Tryz.prog w = .ok (.enter 79 args) w := enters_of Tryz.func79 (by kernel_rfl) rfl
  have hcon := AnyQ.slices_SortFunc sortB 2 isAgg101 sizeOf101 encB (fun _ => rfl) (fun x v hv => by simp [encB] at hv; rcases hv with rfl | rfl <;> rfl) cmpB swoB 79 #[] g 0 cap l.toArray w eg (cmpLays79 g 0 _ w) (holds_two (fun _ => rfl) hb h4) (Array.getElem?_eq_some_iff.1 hb).1 (by simpa using hl)
  refine Calls.mono hcon ?_
  rintro e w' ⟨rfl, d', n, os, hp, hs, rfl⟩
  obtain ⟨l', rfl⟩ : ∃ l', d' = List.toArray l' := ⟨d'.toList, by simp⟩
  have hp2 : l'.Perm l := by simpa using perm_list hp
  have hs2 := sorted_list (d := l'.toArray) (by simpa using hp2.length_eq) hs
  refine ⟨rfl, l', hp2, by simpa using hs2, ?_, grown_put _⟩
  have := row_sorted (enc := encB) (fun _ => rfl) (n := n) (os := os) (Nat.zero_le g) hb (l := l') (by rw [hp2.length_eq]; exact h1) h2 h3
  rw [hp2.length_eq] at this
  exact this
theorem info101 : (Tryz.prog.info? 101).map (fun i => (i.zero, i.size, i.bytes)) = some (some (.agg #[.int .i64 0, .slice none 0 0]), 2, 32) := by kernel_rfl
end Go.Proofs.YtcfocbfocemapaaGreat.SubN

namespace Go.Proofs.YtcfocbfocemapaaGreat.NewS
open Go.RowKit Go.Maps Go.Lib Go.Sort Go.Proofs.YtcfocbfocemapaaGreat.Sep Go.Proofs.YtcfocbfocemapaaGreat.Mem Go.Proofs.YtcfocbfocemapaaGreat.Sets Go.Proofs.YtcfocbfocemapaaGreat.PlayP Go.Proofs.YtcfocbfocemapaaGreat.PStackPlays Go.Proofs.YtcfocbfocemapaaGreat.LibA Go.Proofs.YtcfocbfocemapaaGreat.SortA Go.Proofs.YtcfocbfocemapaaGreat.SortB Go.Proofs.YtcfocbfocemapaaGreat.LibC Go.Proofs.YtcfocbfocemapaaGreat.SubA Go.Proofs.YtcfocbfocemapaaGreat.SubB Go.Proofs.YtcfocbfocemapaaGreat.SubC Go.Proofs.YtcfocbfocemapaaGreat.SubN
open Go.Proofs.YtcfocbfocemapaaGreatW.PrintWords
set_option linter.unusedVariables false
set_option linter.unusedSimpArgs false
set_option maxRecDepth 100000

/-- What New answers. -/
def NewOut (w : World) (bs : List (Int × Ex)) (e : Ending) (w' : World) : Prop :=
  ∃ (its : List BI) (A' : Option Addr) (c' : Nat), e = .returned (.tuple #[.agg #[.slice A' its.length c'], .int .i64 0]) ∧ (its.map BI.pr).Perm bs ∧ Rising (its.map BI.pr) ∧ Sep w w' [rowR 101 2 (.slice A' its.length c') its.length (cellsB (its.map BI.bm)), exR its]
/-- Binds of one's own, read. -/
theorem its_C {W w : World} {rs : List Res} {A : Option Addr} {c : Nat} {its : List BI} (h : Sep W w (rowR 101 2 (.slice A its.length c) its.length (cellsB (its.map BI.bm)) :: exR its :: rs)) (hl : its.length ≤ 4194304) (hs : ∀ q ∈ its, q.ex.length ≤ 4194304) : Kd.C kB w A (its.map BI.pr).length (its.map BI.pr) := by
  obtain ⟨f, hf, -⟩ := h.swap.head
  exact binds_C h.row hf hl hs
theorem its_short {its : List BI} {bs : List (Int × Ex)} {N : Nat} (hp : (its.map BI.pr).Perm bs) (hs : ∀ b ∈ bs, b.2.length ≤ N) : ∀ q ∈ its, q.ex.length ≤ N := fun q hq => hs (BI.pr q) (hp.mem_iff.1 (List.mem_map.2 ⟨q, hq, rfl⟩))
/-- The sort of binds of one's own. -/
theorem sort_own {W w : World} {rs : List Res} {A : Option Addr} {n c : Nat} {items : List BI} (M : Sep W w (rowR 101 2 (.slice A n c) n (cellsB (items.map BI.bm)) :: exR items :: rs)) (hn : n = items.length) (hl : n ≤ 4194304) :
    Calls Tryz.prog 78 #[.slice A n c, .func (.func 79) #[] #[]] w fun e w' => e = .returned (.tuple #[]) ∧ ∃ l' : List BI, l'.Perm items ∧ l'.Pairwise (fun a b => a.x ≤ b.x) ∧ Sep W w' (rowR 101 2 (.slice A n c) n (cellsB (l'.map BI.bm)) :: exR l' :: rs) := by
  rcases M.row.2 with ⟨h0, h1⟩ | ⟨g, cap, cur, e1, hbase, hgb, r1, r2, r3, r4⟩
  · simp only [Value.slice.injEq] at h0
    obtain ⟨rfl, rfl, rfl⟩ := h0
    obtain rfl : items = [] := List.eq_nil_of_length_eq_zero hn.symm
    refine (LibB.none78 none 0 _ w).mono ?_
    rintro e w2 ⟨rfl, rfl⟩
    exact ⟨rfl, [], List.Perm.refl _, List.Pairwise.nil, M⟩
  · simp only [Value.slice.injEq, true_and] at e1
    obtain ⟨rfl, rfl⟩ := e1
    have hlen : (items.map BI.bm).length = n := by rw [List.length_map, hn]
    have hs := sortB_calls (l := items.map BI.bm) hgb (by omega) r2 r3 (by rw [hlen]; exact r4) (by omega)
    rw [hlen] at hs
    refine hs.mono ?_
    rintro e w2 ⟨rfl, l', hp, hso, hrow, hgr⟩
    obtain ⟨l2, hp2, rfl⟩ := perm_lift BI.bm hp items rfl
    refine ⟨rfl, l2, hp2, ?_, ?_⟩
    · rw [List.pairwise_map] at hso
      refine hso.imp fun {a b} h => ?_
      rw [ltB] at h
      simp only [decide_eq_false_iff_not] at h
      have h2 : ¬ b.x < a.x := h
      omega
    · have h5 := M.appended hrow hgr (.inl rfl)
      exact (ex_perm h5.swap hp2).swap
theorem box2 {W w : World} {rs : List Res} {b : Nat} {t : TypeId} {x y : Value} (h : Sep W w (boxR b t #[x, y] :: rs)) : w.cell? ⟨b, 0, none⟩ = some x ∧ w.cell? ⟨b, 1, none⟩ = some y := ⟨(box_cell h (j := 0) rfl).1, (box_cell h (j := 1) rfl).1⟩
set_option maxHeartbeats 8000000 in
theorem new_calls {w : World} {A : Option Addr} {c : Nat} {bs : List (Int × Ex)} (hC : Kd.C kB w A bs.length bs) (hl : bs.length ≤ 4194304) (hsh : ∀ b ∈ bs, b.2.length ≤ 4194304) (hnd : (bs.map (·.1)).Nodup) :
    Calls Tryz.prog 56 #[.slice A bs.length c] w (NewOut w bs) := by
  have M0 := ex_none (box_fresh (Sep.start w) 103 #[.slice none 0 0])
  have HC := Aside0.mk hC
  have HSH := Aside0.mk hsh
  have HND := Aside0.mk hnd
  have M := Aside0.mk M0
  clear hC hsh hnd M0
  go_enter Tryz.func56, Tryz.ntmps56
  go_wp2_with (at_make; refine wp_make0 M.out rfl _ _ 99 101 rfl Tryz.underlying99 info101 rfl rfl (by omega) (by omega) ?_; intro w2 hb2 hm2; clear M hb2; have M := Aside0.mk hm2; clear hm2)
  simp only [World.size_alloc] at M ⊢
  go_loopw [4, 6, 13] (fun v4 v6 v13 wr => ∃ (i : Nat) (A4 : Option Addr) (c4 : Nat) (items : List BI), i ≤ bs.length ∧ v13 = .int .i64 i ∧ v4 = .slice A4 i c4 ∧ i ≤ c4 ∧ Aside0 (items.map BI.pr = bs.take i) ∧
    Aside0 (Sep w wr [rowR 101 2 (.slice A4 i c4) i (cellsB (items.map BI.bm)), exR items, boxR w.heap.size 103 #[.slice none 0 0]])) (fun _ _ v13 _ => bs.length - (intOf v13).toNat)
  case atStart => exact ⟨0, _, _, [], by omega, rfl, rfl, by omega, ⟨rfl⟩, M⟩
  case round =>
    clear M
    obtain ⟨i, A4, c4, items, hi, rfl, rfl, hc4, HI, M⟩ := hrel
    by_cases hlt : i < bs.length
    · obtain ⟨ad, A', c', rfl, x0, x1, hc', hK⟩ := bind_at (Kd.C_below HC.out M.out.1) hlt
      have hle := HSH.out _ (List.getElem_mem hlt)
      obtain ⟨q, hq⟩ : ∃ q, q = bs[i] := ⟨_, rfl⟩
      rw [← hq] at x0 x1 hc' hK hle
      have HQ := Aside0.mk hq
      clear hq
      obtain ⟨qx, qe⟩ := q
      simp only at x0 x1 hc' hK hle
      have M1 := Aside0.mk (box_fresh M.out 101 #[.int .i64 qx, .slice A' qe.length c'])
      have HK := Aside0.mk (Kd.C_below hK (below_drew ((Below.refl wr.heap.size wr).alloc (Nat.le_refl _) (.cells #[.int .i64 qx, .slice A' qe.length c'] 101))))
      clear hK M
      go_upto_region 5 with fail
      have MD := Aside0.mk (M1.out.drawn (w' := (wr.alloc (.cells #[.int .i64 qx, .slice A' qe.length c'] 101)).drew) ⟨1, rfl⟩)
      clear M1
      go_region_held3 (fun w' => w'.cell? ⟨wr.heap.size, 0, none⟩ = some (.int .i64 qx) ∧ w'.cell? ⟨wr.heap.size, 1, none⟩ = some (.slice A' qe.length c'))
        (first | exact box2 MD.out | exact box2 (M5.out.pull 1 (by simp)) | exact box2 ((M5.out.alloc _).pull 1 (by simp)) | exact box2 (M6.out.pull 2 (by simp)))
        (first
          | (go_at_call 40; refine (clone_calls MD.out HK.out (by omega)).mono ?_; rintro e w5 ⟨A2, c2, rfl, hc2, hm5⟩; have M5 := Aside0.mk hm5; clear hm5)
          | (obtain ⟨i101, hi101, hz101, hs101, hb101⟩ := info_parts info101
             refine step_append_lies _ rfl _ _ _ rfl 0 101 i101 _ 2 32 Tryz.underlying99 hi101 hz101 hs101 hb101 rfl (by omega) (.slice A4 i c4) i (cellsB (items.map BI.bm)) rfl ((M5.out.alloc _).pull 2 (by simp)).row
               ⟨w5.heap.size, 0, none⟩ 1 1 [.int .i64 qx, .slice A2 qe.length c2] rfl rfl (World.news_of_block (cs := #[.int .i64 qx, .slice A2 qe.length c2]) (t := 101) (fr := (0, 0)) (heap_alloc_new w5 _)) (by simp [Value.oneCell'])
               (by omega) (by unfold maxLen; omega) (by omega) (Nat.zero_le _) (w5.heap.size + 1) (by simp) ?_
             intro gg cap w10 hown hgrow hat hlt4
             have M6 := Aside0.mk (((M5.out.alloc (.cells #[.int .i64 qx, .slice A2 qe.length c2] 101)).pull 2 (by simp)).appended hown hgrow (by
               rcases hat with h | h
               · exact .inl h.symm
               · right; rw [h]; simp [Value.ownBlock]))
             clear hown hgrow hat hlt4)
          | fail)
      obtain ⟨A5, c5, hA5, hc5'⟩ := row_slice M6.out.row
      simp only [Value.slice.injEq, true_and] at hA5
      obtain ⟨-, hcc⟩ := hA5
      have hm7 : Sep w w10 (exR (items ++ [(⟨qx, qe, A2, c2⟩ : BI)]) :: rowR 101 2 (.slice (some ⟨gg, 0, none⟩) (i + 1) cap) (i + 1) (cellsB (items.map BI.bm) ++ [.int .i64 qx, .slice A2 qe.length c2]) :: [boxR w.heap.size 103 #[.slice none 0 0]]) :=
        ex_more (q := (⟨qx, qe, A2, c2⟩ : BI)) ((((M6.out.pull 2 (by simp)).tail.pull 2 (by simp)).pull 2 (by simp)))
      have hcl : cellsB (items.map BI.bm) ++ [.int .i64 qx, .slice A2 qe.length c2] = cellsB ((items ++ [(⟨qx, qe, A2, c2⟩ : BI)]).map BI.bm) := by
        rw [List.map_append, List.map_singleton, cellsB_more]
        rfl
      rw [hcl] at hm7
      have hpr : (items ++ [(⟨qx, qe, A2, c2⟩ : BI)]).map BI.pr = bs.take (i + 1) := by
        rw [List.map_append, HI.out, List.map_singleton, List.take_succ_eq_append_getElem hlt, ← HQ.out]
        rfl
      have M7 := Aside0.mk hm7.swap
      have HPR := Aside0.mk hpr
      clear M5 M6 MD hm7 hcl hpr HK HQ
      go_wp2_with fail
      go_roundw
      case rel => exact ⟨i + 1, _, _, _, by omega, by go_num, rfl, by omega, HPR, M7⟩
      case measure => simp [intOf]; omega
    · have hie : i = bs.length := by omega
      subst hie
      rw [List.take_length] at HI
      have hil : items.length = bs.length := by rw [← HI.out, List.length_map]
      have hso := sort_own M.out hil.symm hl
      go_wp2_with fail
      refine hso.mono ?_
      clear hso M
      rintro e w3 ⟨rfl, its, hp, hpw, hm3⟩
      have hperm : (its.map BI.pr).Perm bs := by rw [← HI.out]; exact hp.map _
      have hris : Rising (its.map BI.pr) := by
        have h1 : ((its.map BI.pr).map (·.1)).Nodup := (hperm.map _).nodup_iff.2 HND.out
        unfold Rising
        unfold List.Nodup at h1
        rw [List.pairwise_map, List.pairwise_map] at h1
        rw [List.pairwise_map]
        refine (hpw.and h1).imp fun {a b} h => ?_
        have h2 : a.x ≠ b.x := h.2
        have h3 := h.1
        show a.x < b.x
        omega
      have hitl : its.length = bs.length := by rw [hp.length_eq, hil]
      have HP := Aside0.mk hperm
      have HR := Aside0.mk hris
      have HL := Aside0.mk hitl
      have M := Aside0.mk hm3
      clear hp hpw hperm hris hitl hil hm3 HI items
      go_wp2_with fail
      go_loopw [7] (fun v7 wr => ∃ (j : Nat), 1 ≤ j ∧ (j ≤ 1 ∨ j ≤ bs.length) ∧ v7 = .int .i64 j ∧ Aside0 (Sep w wr [rowR 101 2 (.slice A4 bs.length c4) bs.length (cellsB (its.map BI.bm)), exR its, boxR w.heap.size 103 #[.slice none 0 0]])) (fun v7 _ => bs.length - (intOf v7).toNat)
      case atStart => exact ⟨1, by omega, .inl (by omega), rfl, M⟩
      case round =>
        clear M
        obtain ⟨j, hj1, hj2, rfl, M⟩ := hrel
        by_cases hlt : j < bs.length
        · obtain ⟨k, rfl⟩ : ∃ k, j = k + 1 := ⟨j - 1, by omega⟩
          have hk1 : k + 1 < (its.map BI.bm).length := by rw [List.length_map, HL.out]; exact hlt
          have hk0 : k < (its.map BI.bm).length := by omega
          obtain ⟨g, cap, e1, -, hcell, -⟩ := row_some M.out.row (by omega)
          simp only [Value.slice.injEq, true_and] at e1
          obtain ⟨rfl, rfl⟩ := e1
          have x1 := hcell _ _ (cellsB_at _ hk1).1
          have x0 := hcell _ _ (cellsB_at _ hk0).1
          have hstr : (its.map BI.bm)[k].x < (its.map BI.bm)[k + 1].x := by
            have := rising_at HR.out (i := k) (j := k + 1) (by simpa using hk0) (by simpa using hk1) (by omega)
            simpa [BI.bm, BI.pr] using this
          generalize (its.map BI.bm)[k + 1].x = y1 at x1 hstr
          generalize (its.map BI.bm)[k].x = y0 at x0 hstr
          have hne : ¬ y1 = y0 := by omega
          have hm0 : ((k : Int) + 1).toNat = k + 1 := by omega
          have hwr : IntKind.i64.wrap (k : Int) = (k : Int) := by rw [Go.Proofs.YtcfocbfocemapaaGreatW.PrintLast.i64_w]; unfold Go.RowKit.wrap64; omega
          have hi0 : (0 : Int) ≤ (k : Int) + 1 := by omega
          have hi1 : (k : Int) + 1 < (bs.length : Int) := by omega
          have hi3 : (k : Int) < (bs.length : Int) := by omega
          have hi4 : k < bs.length := by omega
          go_upto_region 11 with fail
          go_region_held3 (fun w' => w'.cell? ⟨g, (k + 1) * 2, none⟩ = some (.int .i64 y1) ∧ w'.cell? ⟨g, k * 2, none⟩ = some (.int .i64 y0)) (first | exact ⟨x1, x0⟩ | go_keep) (fail)
          go_wp2_with fail
          go_roundw
          case rel => exact ⟨k + 1 + 1, by omega, by omega, by go_num, ⟨M.out.drawn ⟨1, rfl⟩⟩⟩
          case measure => simp [intOf]; omega
        · obtain ⟨d0, e0⟩ := box_cell (M.out.pull 2 (by simp)) (j := 0) rfl
          have M2 := Aside0.mk (box_set (M.out.pull 2 (by simp)) 0 (.slice A4 bs.length c4))
          go_wp2_with fail
          refine bodyPost_ret (results_ct rfl _ _ w.heap.size 103 #[.slice A4 bs.length c4] (0, 0) _ rfl (box_at M2.out) Tryz.underlying103 rfl (by kernel_rfl)) rfl ?_
          have hbl := HP.out.length_eq
          have hil := HL.out
          refine ⟨its, A4, c4, by rw [hil]; rfl, HP.out, HR.out, ?_⟩
          rw [hil]
          exact M2.out.tail
end Go.Proofs.YtcfocbfocemapaaGreat.NewS
