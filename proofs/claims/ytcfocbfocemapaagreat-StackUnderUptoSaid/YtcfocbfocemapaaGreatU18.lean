/- FrsA, FrsB. -/
import Derived.Test.YtcfocbfocemapaaGreatU17
namespace Go.Proofs.YtcfocbfocemapaaGreat.FrsA
open Go.RowKit Go.Maps Go.Lib Go.Proofs.YtcfocbfocemapaaGreat.Sep Go.Proofs.YtcfocbfocemapaaGreat.Mem Go.Proofs.YtcfocbfocemapaaGreat.Sets Go.Proofs.YtcfocbfocemapaaGreat.PlayP Go.Proofs.YtcfocbfocemapaaGreat.BindP Go.Proofs.YtcfocbfocemapaaGreat.PStackPlays Go.Proofs.YtcfocbfocemapaaGreat.DistA Go.Proofs.YtcfocbfocemapaaGreat.IterA Go.Proofs.YtcfocbfocemapaaGreat.SortB Go.Proofs.YtcfocbfocemapaaGreat.DistB Go.Proofs.YtcfocbfocemapaaGreat.DistC Go.Proofs.YtcfocbfocemapaaGreat.SubA Go.Proofs.YtcfocbfocemapaaGreat.BindW Go.Proofs.YtcfocbfocemapaaGreat.StkA Go.Proofs.YtcfocbfocemapaaGreat.ApplyW Go.Proofs.YtcfocbfocemapaaGreat.FrmA Go.Proofs.YtcfocbfocemapaaGreat.FrmB Go.Proofs.YtcfocbfocemapaaGreat.Brk Go.Proofs.YtcfocbfocemapaaGreat.LibC Go.Proofs.YtcfocbfocemapaaGreat.FrmD Go.Proofs.YtcfocbfocemapaaGreat.FrmE Go.Proofs.YtcfocbfocemapaaGreat.FrmF Go.Proofs.YtcfocbfocemapaaGreat.FrmG Go.Proofs.YtcfocbfocemapaaGreat.FrmH Go.Proofs.YtcfocbfocemapaaGreat.FrmP Go.Proofs.YtcfocbfocemapaaGreat.CntM Go.Proofs.YtcfocbfocemapaaGreat.FrmJ Go.Proofs.YtcfocbfocemapaaGreat.FrmK Go.Proofs.YtcfocbfocemapaaGreat.FrmL Go.Proofs.YtcfocbfocemapaaGreat.FrmN Go.Proofs.YtcfocbfocemapaaGreat.FrmM
open Go.Proofs.YtcfocbfocemapaaGreatW.PrintWords Go.Proofs.YtcfocbfocemapaaGreatW.PrintLast Go.Proofs.YtcfocbfocemapaaGreatW.PrintMore
set_option linter.unusedVariables false
set_option linter.unusedSimpArgs false
set_option maxRecDepth 100000

/-- A thing of one's own, read from now on. -/
theorem read_of {W w : World} {r : Res} {rs : List Res} {P : World → Prop} (hP : ∀ V w, Sep V w [r] → P w) (h : Sep W w (r :: rs)) : Sep W w (readR W P :: rs) := by
  refine h.told fun f hf w' h1 h2 => ?_
  have hb := r.move (r.bound hf) (fun k hk => h2 k hk.1 hk.2)
  refine hP { w' with heap := #[] } w' ⟨⟨rfl, rfl, rfl, Nat.zero_le _, fun k hk => absurd hk (by simp)⟩, fun k => (f k ∧ k < w.heap.size) ∧ k < w'.heap.size, ⟨fun k => (f k ∧ k < w.heap.size) ∧ k < w'.heap.size, fun _ => False, r.bound hb, trivial, fun k _ h => h, fun k hk => ⟨hk, Nat.zero_le _, hk.2⟩, fun k hk => hk.elim⟩, fun k hk => ⟨Nat.zero_le _, hk.2⟩⟩
theorem read_bun {W w : World} {l rs : List Res} {P : World → Prop} (hP : ∀ V w, Sep V w l → P w) (h : Sep W w (l ++ rs)) : Sep W w (readR W P :: rs) :=
  read_of (fun V w h1 => hP V w (by have := bun_open l h1; rwa [List.append_nil] at this)) (bun_shut l h)
theorem read_and {W w : World} {C D : World → Prop} {rs : List Res} (h : Sep W w (readR W C :: readR W D :: rs)) : Sep W w (readR W (fun w' => C w' ∧ D w') :: rs) :=
  h.join fun f g hf hg w' h1 h2 => ⟨hf w' h1 (fun k hk => h2 k (.inl hk)), hg w' h1 (fun k hk => h2 k (.inr hk))⟩
def FrC (f : FI) (w : World) : Prop := Kd.C k93 w f.hA f.fr.hyps.length f.fr.hyps ∧ Kd.C k50 w f.pA f.fr.pairs.length f.fr.pairs ∧ Kd.C kI w f.gA f.fr.goal.length f.fr.goal
def AllC (fi : List FI) (w : World) : Prop := ∀ f ∈ fi, FrC f w
def cellsF (fi : List FI) : List Value := fi.flatMap FI.cells
theorem cellsF_more (l : List FI) (q : FI) : cellsF (l ++ [q]) = cellsF l ++ q.cells := by simp [cellsF]
theorem cellsF_at (l : List FI) : ∀ {k : Nat} (hk : k < l.length), (cellsF l)[k * 3]? = some (.slice l[k].hA l[k].hs.length l[k].hc) ∧ (cellsF l)[k * 3 + 1]? = some (.slice l[k].pA l[k].ps.length l[k].pc) ∧ (cellsF l)[k * 3 + 2]? = some (.slice l[k].gA l[k].goal.length l[k].gc) := by
  induction l with
  | nil => intro k hk; simp at hk
  | cons a l ih =>
    intro k hk
    have e : cellsF (a :: l) = .slice a.hA a.hs.length a.hc :: .slice a.pA a.ps.length a.pc :: .slice a.gA a.goal.length a.gc :: cellsF l := rfl
    rw [e]
    cases k with
    | zero => exact ⟨rfl, rfl, rfl⟩
    | succ k =>
      obtain ⟨h1, h2, h3⟩ := ih (k := k) (by simpa using hk)
      rw [show (k + 1) * 3 = k * 3 + 1 + 1 + 1 by omega]
      exact ⟨by simpa using h1, by simpa [Nat.add_assoc] using h2, by simpa [Nat.add_assoc] using h3⟩
theorem frame_C {V w : World} {f : FI} (hok : f.OK) (h : Sep V w f.rs) : FrC f w := by
  have h1 := hok.fr
  refine ⟨hyps_C h rfl (by have := h1.few; simp [FI.fr] at this; omega) (fun q hq => by have := h1.short _ (List.mem_map_of_mem hq); simp [HI.hy] at this; omega), ?_, ?_⟩
  · exact row_CP h.tail.tail.row (by have := h1.fewp; omega)
  · exact (row_Ci h.tail.tail.tail.row (by have := h1.fewg; show f.goal.length ≤ _; have e : f.fr.goal.length = f.goal.length := rfl; omega)).2
theorem all_more {W w : World} {rs : List Res} {fi : List FI} {f : FI} (hok : f.OK) (h : Sep W w (f.rs ++ (readR W (AllC fi) :: rs))) : Sep W w (readR W (AllC (fi ++ [f])) :: rs) := by
  have h1 := read_and (read_bun (P := FrC f) (fun V w hv => frame_C hok hv) h)
  refine read_weak h1 fun w' h2 q hq => ?_
  rcases List.mem_append.1 hq with hq | hq
  · exact h2.2 q hq
  · rw [List.mem_singleton] at hq
    subst hq
    exact h2.1
/-- Something that is said. -/
structure Sd where
  k : Int
  a : Int
  b : Int
  e : Ex
def SaidC (w : World) (A : Option Addr) (xs : List Sd) : Prop := ∀ i (h : i < xs.length), ∃ (ad : Addr) (EA : Option Addr) (ec : Nat), A = some ad ∧ w.cell? (ad.add (i * 4)) = some (.int .i64 xs[i].k) ∧ w.cell? ⟨(ad.add (i * 4)).block, (ad.add (i * 4)).off + 1, none⟩ = some (.int .i64 xs[i].a) ∧
  w.cell? ⟨(ad.add (i * 4)).block, (ad.add (i * 4)).off + 2, none⟩ = some (.int .i64 xs[i].b) ∧ w.cell? ⟨(ad.add (i * 4)).block, (ad.add (i * 4)).off + 3, none⟩ = some (.slice EA xs[i].e.length ec) ∧ xs[i].e.length ≤ ec ∧ Kd.C kI w EA xs[i].e.length xs[i].e
theorem SaidC.below {w w' : World} {A : Option Addr} {xs : List Sd} (h : SaidC w A xs) (hb : Below w.heap.size w w') : SaidC w' A xs := by
  intro i hi
  obtain ⟨ad, EA, ec, e, h0, h1, h2, h3, h4, h5⟩ := h i hi
  exact ⟨ad, EA, ec, e, VarW.cell_on hb h0, VarW.cell_on hb h1, VarW.cell_on hb h2, VarW.cell_on hb h3, h4, Kd.C_below h5 hb⟩
theorem intOK_few (x : Int) : IntOK (few1 x) := by
  have := few1_range x
  exact intOK_of (by omega) (by omega)
theorem few2 {w : World} {A : Option Addr} {c : Nat} {l : Ex} (h : Kd.C kI w A l.length l) (hc : l.length ≤ c) (hl : l.length ≤ 1048576) :
    Calls Tryz.prog 45 #[.slice A l.length c] w fun e w' => ∃ (x : Ex) (B : Option Addr) (d : Nat), e = .returned (.slice B x.length d) ∧ x.length ≤ 1048576 ∧ x.length ≤ d ∧ (∀ y ∈ x, IntOK y) ∧ Kd.C kI w' B x.length x ∧ Below w.heap.size w w' := by
  obtain ⟨k, hk⟩ := few_ok l (by omega)
  refine (lemmalaw11_few.calls k A c l (fewL l) w h hc hk).mono ?_
  rintro e w' ⟨v, rfl, hR, hb⟩
  have hlen := fewL_len l
  obtain ⟨_, inner, ho, hr⟩ := hR
  have hsz : (Kd.int .i64).sz = 1 := rfl
  rw [hsz] at ho hr
  have hi : inner = (fewL l).map num := by
    apply List.ext_getElem?
    intro j
    have hl1 := hr.1
    rw [Nat.mul_one] at hl1
    rw [List.getElem?_map]
    cases hx : (fewL l)[j]? with
    | none =>
      have := List.getElem?_eq_none_iff.1 hx
      exact List.getElem?_eq_none (by omega)
    | some n =>
      have h2 : ((inner.drop (j * 1)).take 1) = [num n] := hr.2 j n hx
      rw [Nat.mul_one] at h2
      have := congrArg (·[0]?) h2
      simpa [List.getElem?_take, List.getElem?_drop] using this
  subst hi
  obtain ⟨B, d, rfl, hd⟩ := row_slice ho
  refine ⟨fewL l, B, d, rfl, by omega, hd, fun y hy => ?_, (row_Ci (owns_zero ho) (by omega)).2, hb⟩
  obtain ⟨z, _, rfl⟩ := List.mem_map.1 hy
  exact intOK_few z
theorem rest2 (a : Int) (m : Int) (hm : 0 < m) (hm2 : m ≤ 4611686018427387904) : ∃ r : Int, 0 ≤ r ∧ r < m ∧ ∀ w, Calls Tryz.prog 33 #[.int .i64 a, .int .i64 m] w fun e w' => e = .returned (.int .i64 r) ∧ Drawn0 w w' := by
  have h1 := Int.lt_tmod_of_pos a hm
  have h2 := Int.tmod_lt_of_pos a hm
  by_cases h : Int.tmod a m < 0
  · refine ⟨Int.tmod a m + m, by omega, by omega, fun w => lemmalaw11_rest.calls a m _ w ?_⟩
    unfold lemmalaw11_rest.f
    rw [if_neg (by omega), if_pos h, wrap_id (by omega) (by omega)]
  · refine ⟨Int.tmod a m, by omega, by omega, fun w => lemmalaw11_rest.calls a m _ w ?_⟩
    unfold lemmalaw11_rest.f
    rw [if_neg (by omega), if_neg h]
theorem FInv.start (sb : Nat) : FInv 0 ⟨sb, none, 0, [], none, 0, []⟩ := ⟨⟨by simp, (fun q hq => by cases hq), (fun q hq => by cases hq), List.nodup_nil⟩, by simp, by simp, (fun p hp => by cases hp), (fun q hq => by cases hq), (fun q hq => by cases hq)⟩
theorem Sep.last {W w : World} {a : Res} {l : List Res} (h : Sep W w (a :: l)) : Sep W w (l ++ [a]) := h.perm (List.perm_append_comm (l₁ := [a]) (l₂ := l))
theorem info68 : (Tryz.prog.info? 68).map (fun i => (i.zero, i.size, i.bytes)) = some (some (.agg #[.slice none 0 0, .slice none 0 0, .slice none 0 0]), 3, 72) := by kernel_rfl
/-- 'append(l, u)' at the operation, u of so many cells. -/
theorem wp_struct {ops : Array Oper} {rest : List Oper} {o : Oper} {a : Act} {Q : Exit → Act → World → Prop} {W w : World} {rs : List Res} {v : Value} {n size : Nat} {xs : List Value} {e : TypeId} (M : Sep W w (rowR e size v n xs :: rs)) (hgd : o.guard = none) (sl x : Operand) (t : TypeId) {z : Value} {b : Nat}
    (hop : o.op = .call { callee := .builtin .append, args := #[sl, x], argTypes := #[t, t] }) (ht : Tryz.prog.underlying t = some (.slice e)) (hi : (Tryz.prog.info? e).map (fun i => (i.zero, i.size, i.bytes)) = some (some z, size, b)) (hz : z.cells.size = size) (hsp : 0 < size) (hs : a.eval sl = v)
    {ad : Addr} {c2 : Nat} {news : List Value} (hx : a.eval x = .slice (some ad) 1 c2) (hl : news.length = size) (hnew : ∀ j u, news[j]? = some u → w.cell? (ad.add j) = some u) (hu : ∀ u ∈ news, u.oneCell' = true) (hb : b ≤ 1024) (hn : n ≤ 4294967296)
    (h : ∀ A' c' w', n + 1 ≤ c' → Sep W w' (rowR e size (.slice A' (n + 1) c') (n + 1) (xs ++ news) :: rs) → wpList Tryz.prog ops Q rest (a.put o.dst (.slice A' (n + 1) c')) w') : wpList Tryz.prog ops Q (o :: rest) a w := by
  obtain ⟨i0, hi0, hz0, hz1, hz2⟩ := info_parts hi
  refine wpList_append_own_at w hgd sl x t hop 0 e i0 z size b ht hi0 hz0 hz1 hz2 hz hsp v n xs hs M.row ad 1 c2 news hx (by omega) hnew hu (by unfold maxLen; omega) ?_ (Nat.zero_le _) ?_
  · have : (n + 1) * b ≤ 4294967297 * 1024 := Nat.mul_le_mul (by omega) hb
    omega
  intro v' w' hown hgrow _ hat
  have M2 := M.appended hown hgrow hat
  obtain ⟨A', c', rfl, hc'⟩ := row_slice hown
  exact h A' c' w' hc' M2
end Go.Proofs.YtcfocbfocemapaaGreat.FrsA

namespace Go.Proofs.YtcfocbfocemapaaGreat.FrsB
open Go.RowKit Go.Maps Go.Lib Go.Proofs.YtcfocbfocemapaaGreat.Sep Go.Proofs.YtcfocbfocemapaaGreat.Mem Go.Proofs.YtcfocbfocemapaaGreat.Sets Go.Proofs.YtcfocbfocemapaaGreat.PlayP Go.Proofs.YtcfocbfocemapaaGreat.BindP Go.Proofs.YtcfocbfocemapaaGreat.PStackPlays Go.Proofs.YtcfocbfocemapaaGreat.DistA Go.Proofs.YtcfocbfocemapaaGreat.IterA Go.Proofs.YtcfocbfocemapaaGreat.SortB Go.Proofs.YtcfocbfocemapaaGreat.DistB Go.Proofs.YtcfocbfocemapaaGreat.DistC Go.Proofs.YtcfocbfocemapaaGreat.SubA Go.Proofs.YtcfocbfocemapaaGreat.BindW Go.Proofs.YtcfocbfocemapaaGreat.StkA Go.Proofs.YtcfocbfocemapaaGreat.ApplyW Go.Proofs.YtcfocbfocemapaaGreat.FrmA Go.Proofs.YtcfocbfocemapaaGreat.FrmB Go.Proofs.YtcfocbfocemapaaGreat.Brk Go.Proofs.YtcfocbfocemapaaGreat.LibC Go.Proofs.YtcfocbfocemapaaGreat.FrmD Go.Proofs.YtcfocbfocemapaaGreat.FrmE Go.Proofs.YtcfocbfocemapaaGreat.FrmF Go.Proofs.YtcfocbfocemapaaGreat.FrmG Go.Proofs.YtcfocbfocemapaaGreat.FrmH Go.Proofs.YtcfocbfocemapaaGreat.FrmP Go.Proofs.YtcfocbfocemapaaGreat.CntM Go.Proofs.YtcfocbfocemapaaGreat.FrmJ Go.Proofs.YtcfocbfocemapaaGreat.FrmK Go.Proofs.YtcfocbfocemapaaGreat.FrmL Go.Proofs.YtcfocbfocemapaaGreat.FrmN Go.Proofs.YtcfocbfocemapaaGreat.FrmM Go.Proofs.YtcfocbfocemapaaGreat.FrsA
open Go.Proofs.YtcfocbfocemapaaGreatW.PrintWords Go.Proofs.YtcfocbfocemapaaGreatW.PrintLast Go.Proofs.YtcfocbfocemapaaGreatW.PrintMore
set_option linter.unusedVariables false
set_option linter.unusedSimpArgs false
set_option maxRecDepth 100000

set_option maxHeartbeats 8000000 in
theorem frames_calls {V w : World} {rs0 : List Res} (hM : Sep V w rs0) {A : Option Addr} {c : Nat} {xs : List Sd} (hS : SaidC V A xs) (hl : xs.length ≤ 1048576) (hx : ∀ x ∈ xs, x.e.length ≤ 1048576) :
    Calls Tryz.prog 12 #[.slice A xs.length c] w fun e w' => ∃ (FA : Option Addr) (fc : Nat) (fi : List FI), e = .returned (.slice FA fi.length fc) ∧ fi.length ≤ xs.length ∧ fi.length ≤ fc ∧ (∀ f ∈ fi, f.OK) ∧ Sep V w' (readR V (AllC fi) :: rowR 68 3 (.slice FA fi.length fc) fi.length (cellsF fi) :: rs0) := by
  have HS := Aside0.mk hS
  have HX := Aside0.mk hx
  have M0 := read_old (row_nil hM 68 3) (C := AllC []) (fun w' _ f hf => by cases hf)
  have hfn := FrmC.fnew_calls M0
  clear hS hx M0 hM
  go_enter Tryz.func12, Tryz.ntmps12
  go_wp2_with (go_at_call 42; refine hfn.mono ?_; clear hfn; rintro e1 w1 ⟨s, sb, rfl, hm1⟩; have M1 := Aside0.mk hm1; clear hm1)
  go_loopw [4, 5, 6, 7, 8] (fun v4 v5 v6 v7 v8 wr => ∃ (i : Nat) (m : FS) (FA : Option Addr) (fc : Nat) (fi : List FI), i ≤ xs.length ∧ v5 = .int .i64 i ∧ v4 = .slice FA fi.length fc ∧ fi.length ≤ i ∧ fi.length ≤ fc ∧ Aside0 (∀ f ∈ fi, f.OK) ∧ Aside0 (FInv i m) ∧
    Aside0 (Sep V wr (m.rs s ++ (readR V (AllC fi) :: rowR 68 3 (.slice FA fi.length fc) fi.length (cellsF fi) :: rs0)))) (fun _ v5 _ _ _ _ => xs.length - (intOf v5).toNat)
  case atStart => exact ⟨0, _, none, 0, [], by omega, rfl, rfl, by simp, by simp, ⟨fun f hf => by cases hf⟩, ⟨FInv.start sb⟩, M1⟩
  case round =>
    clear M1
    obtain ⟨i, m, FA, fc, fi, hi, rfl, rfl, hfi, hfc, HOK, HF, M⟩ := hrel
    by_cases hlt : i < xs.length
    · obtain ⟨ad, EA, ec, rfl, y0, y1, y2, y3, hec, hE⟩ := HS.out.below M.out.1 i hlt
      have hxe := HX.out _ (List.getElem_mem hlt)
      obtain ⟨q, hq⟩ : ∃ q, q = xs[i] := ⟨_, rfl⟩
      rw [← hq] at y0 y1 y2 y3 hec hE hxe
      clear hq
      obtain ⟨qk, qa, qb, qe⟩ := q
      simp only at y0 y1 y2 y3 hec hE hxe
      go_upto_region 7 with fail
      have M1 := Aside0.mk (box_fresh M.out 83 #[.int .i64 qk, .int .i64 qa, .int .i64 qb, .slice EA qe.length ec])
      have hE1 := Aside0.mk (Kd.C_below hE ((Below.refl wr.heap.size wr).alloc (Nat.le_refl _) (.cells #[.int .i64 qk, .int .i64 qa, .int .i64 qb, .slice EA qe.length ec] 83)))
      clear M y0 y1 y2 y3 hE
      generalize hwa : wr.alloc (.cells #[.int .i64 qk, .int .i64 qa, .int .i64 qb, .slice EA qe.length ec] 83) = wa at M1 hE1 ⊢
      clear hwa
      generalize wr.heap.size = b6 at M1 ⊢
      obtain ⟨r, hr0, hr4, hrc⟩ := rest2 qk 4 (by omega) (by omega)
      have z0 := (box4 M1.out).1
      go_upto_region 8 with (go_at_call 33; refine (hrc wa).mono ?_; clear hrc; rintro e2 w2 ⟨rfl, hd2⟩; have M2 := Aside0.mk (M1.out.drawn hd2); have hE2 := Aside0.mk (Kd.C_below hE1.out hd2.below); clear hd2 M1 hE1 z0)
      obtain hr : r = 0 ∨ r = 1 ∨ r = 2 ∨ r = 3 := by omega
      clear hr0 hr4
      rcases hr with rfl | rfl | rfl | rfl
      · have M3 : Aside0 (Sep V w2 (m.rs s ++ (readR V (AllC fi) :: rowR 68 3 (.slice FA fi.length fc) fi.length (cellsF fi) :: boxR b6 83 #[.int .i64 qk, .int .i64 qa, .int .i64 qb, .slice EA qe.length ec] :: rs0))) := ⟨((((((Sep.pull M2.out 7 (by simp [FS.rs])).pull 7 (by simp [FS.rs])).pull 7 (by simp [FS.rs])).pull 7 (by simp [FS.rs])).pull 7 (by simp [FS.rs])).pull 7 (by simp [FS.rs])).pull 7 (by simp [FS.rs])⟩
        obtain ⟨-, z1, z2, -⟩ := box4 M2.out
        clear M2
        obtain ⟨rb, hb0, hb1, hrb⟩ := rest2 qb 3 (by omega) (by omega)
        obtain ⟨ra, ha0, ha1, hra⟩ := rest2 qa 6 (by omega) (by omega)
        have hw : IntKind.i64.wrap (100 + ra) = 100 + ra := by rw [i64_w]; unfold Go.RowKit.wrap64; omega
        have HB : ∀ {v : World} {m' : FS}, Sep V v (m'.rs s ++ (readR V (AllC fi) :: rowR 68 3 (.slice FA fi.length fc) fi.length (cellsF fi) :: boxR b6 83 #[.int .i64 qk, .int .i64 qa, .int .i64 qb, .slice EA qe.length ec] :: rs0)) → v.cell? ⟨b6, 2, none⟩ = some (.int .i64 qb) ∧ v.cell? ⟨b6, 1, none⟩ = some (.int .i64 qa) := fun hv => by
          obtain ⟨-, k1, k2, -⟩ := box4 (Sep.pull hv 7 (by simp [FS.rs]))
          exact ⟨k2, k1⟩
        have HBB := Aside0.mk @HB
        clear HB
        go_upto_region 9 with fail
        go_region_held3 (fun w' => w'.cell? ⟨b6, 2, none⟩ = some (.int .i64 qb) ∧ w'.cell? ⟨b6, 1, none⟩ = some (.int .i64 qa)) (first | exact ⟨z2, z1⟩ | exact HBB.out M6.out | exact HBB.out M5.out | exact HBB.out M4.out)
          (first
            | (go_at_call 33; refine (hrb _).mono ?_; clear hrb; rintro e4 w4 ⟨rfl, hd4⟩; have M4 := Aside0.mk ((M3.out.drawn ⟨1, rfl⟩).drawn hd4); clear hd4 M3)
            | (go_at_call 33; refine (hra _).mono ?_; clear hra; rintro e5 w5 ⟨rfl, hd5⟩; have M5 := Aside0.mk (M4.out.drawn hd5); have hfl := float_calls M5.out HF.out (by omega) ⟨#[102]⟩ rb (100 + ra) (intOK_of (by omega) (by omega)) (intOK_of (by omega) (by omega)); clear hd5 M4)
            | (go_at_call 43; refine hfl.mono ?_; clear hfl; rintro e6 w6 ⟨n6, rfl, m5, hF5, hm6⟩; have M6 := Aside0.mk hm6; have HF5 := Aside0.mk hF5; clear hm6 hF5 M5)
            | fail)
        have M5 : Aside0 (Sep V w6 (m5.rs s ++ (readR V (AllC fi) :: rowR 68 3 (.slice FA fi.length fc) fi.length (cellsF fi) :: rs0))) := ⟨(Sep.pull M6.out 7 (by simp [FS.rs])).tail⟩
        clear M6 z1 z2
        go_wp2_with fail
        go_roundw
        case rel => exact ⟨i + 1, m5, FA, fc, fi, by omega, by go_num, rfl, by omega, hfc, HOK, HF5, M5⟩
        case measure => simp [intOf]; omega
      · have z3 := (box4 M2.out).2.2.2
        go_wp2_with (first
          | (go_at_call 45; refine (few2 hE2.out hec hxe).mono ?_; rintro e4 w4 ⟨x, B, d, rfl, hxl, hxd, hxi, hxC, hb4⟩; have M4 := Aside0.mk (M2.out.tail.below hb4); have hes := ess_calls (c := d) M4.out HF.out (by omega) ⟨#[101]⟩ hxC (by omega) hxi; clear M2 hxi hxC hb4 z3)
          | (go_at_call 44; refine hes.mono ?_; clear hes; rintro e6 w6 ⟨n6, rfl, m5, hF5, hm6⟩; have M5 := Aside0.mk hm6; have HF5 := Aside0.mk hF5; clear hm6 hF5 M4)
          | fail)
        go_roundw
        case rel => exact ⟨i + 1, m5, FA, fc, fi, by omega, by go_num, rfl, by omega, hfc, HOK, HF5, M5⟩
        case measure => simp [intOf]; omega
      · have z3 := (box4 M2.out).2.2.2
        go_wp2_with (first
          | (go_at_call 45; refine (few2 hE2.out hec hxe).mono ?_; rintro e4 w4 ⟨x, B, d, rfl, hxl, hxd, hxi, hxC, hb4⟩; have M4 := Aside0.mk (M2.out.tail.below hb4); have hes := dist_calls (c := d) M4.out HF.out hxC (by omega) hxd hxi; clear M2 hxi hxC hb4 z3)
          | (go_at_call 46; refine hes.mono ?_; clear hes; rintro e6 w6 ⟨n6, rfl, m5, hF5, hm6⟩; have M5 := Aside0.mk hm6; have HF5 := Aside0.mk (hF5.more (k' := i + 1) (by omega)); clear hm6 hF5 M4)
          | fail)
        go_roundw
        case rel => exact ⟨i + 1, m5, FA, fc, fi, by omega, by go_num, rfl, by omega, hfc, HOK, HF5, M5⟩
        case measure => simp [intOf]; omega
      · have z3 := (box4 M2.out).2.2.2
        go_upto_region 16 with (first
          | (go_at_call 45; refine (few2 hE2.out hec hxe).mono ?_; rintro e4 w4 ⟨x, B, d, rfl, hxl, hxd, hxi, hxC, hb4⟩; have M4 := Aside0.mk (M2.out.tail.below hb4); have hes := frame_calls (c := d) M4.out HF.out (by omega) HF.out.sx hxC (by omega) hxi; clear M2 hxi hxC hb4 z3)
          | (go_at_call 47; refine hes.mono ?_; clear hes; rintro e6 w6 ⟨f, n6, rfl, hok, hm6⟩; have M6 := Aside0.mk (sep_over M4.out hm6); have HO6 := Aside0.mk hok; simp only [FI.val]; clear hm6 hok M4)
          | fail)
        have M7 := Aside0.mk (box_fresh M6.out 68 #[.slice f.hA f.hs.length f.hc, .slice f.pA f.ps.length f.pc, .slice f.gA f.goal.length f.gc])
        clear M6
        generalize hwb : w6.alloc (.cells #[.slice f.hA f.hs.length f.hc, .slice f.pA f.ps.length f.pc, .slice f.gA f.goal.length f.gc] 68) = wb at M7 ⊢
        clear hwb
        generalize w6.heap.size = b7 at M7 ⊢
        by_cases hn : n6 = 0
        · have HN := Aside0.mk hn
          have hnb : (n6 == 0) = true := by simpa using hn
          have hnd : decide (n6 = 0) = true := by simpa using hn
          clear hn
          go_upto_region 17 with (go_at_call 24; refine (lemmalaw11_num.calls n6 n6 _ rfl).mono ?_; rintro e8 w8 ⟨rfl, hd8⟩; have M8 := Aside0.mk (M7.out.drawn hd8); clear hd8 M7)
          obtain ⟨⟨x0, x1, x2⟩, -, -, -⟩ := box3 M8.out
          go_wp2_with (at_builtin; refine wp_struct ((M8.out.pull 11 (by simp [FI.rs, FS.rs])).alloc (.cells #[.slice f.hA f.hs.length f.hc, .slice f.pA f.ps.length f.pc, .slice f.gA f.goal.length f.gc] 68)) rfl _ _ 51 rfl Tryz.underlying51 info68 rfl (by omega) rfl (ad := ⟨w8.heap.size, 0, none⟩) (news := f.cells) rfl rfl (fun j u hu => ?qc) (fun u hu => ?qd) (by omega) (by omega) ?_; (case qc => exact (World.news_of_block (cs := #[.slice f.hA f.hs.length f.hc, .slice f.pA f.ps.length f.pc, .slice f.gA f.goal.length f.gc]) (t := 68) (fr := (0, 0)) (heap_alloc_new w8 _)) j u hu); (case qd => simp [FI.cells] at hu; rcases hu with rfl | rfl | rfl <;> rfl); intro A9 c9 w9 hc9 hm9; have M9 := Aside0.mk (Sep.pull hm9 11 (by simp [FI.rs, FS.rs])); clear hm9 M8 x0 x1 x2)
          go_roundw
          case rel =>
            have h10 : Sep V w9 (f.rs ++ (readR V (AllC fi) :: rowR 68 3 (.slice A9 (fi.length + 1) c9) (fi.length + 1) (cellsF fi ++ f.cells) :: boxR b7 68 #[.slice f.hA f.hs.length f.hc, .slice f.pA f.ps.length f.pc, .slice f.gA f.goal.length f.gc] :: (m.rs s ++ rs0))) :=
              (((M9.out.pull 6 (by simp [FI.rs, FS.rs])).pull 6 (by simp [FI.rs, FS.rs])).pull 6 (by simp [FI.rs, FS.rs])).pull 6 (by simp [FI.rs, FS.rs])
            have h11 := (Sep.pull (all_more HO6.out h10) 2 (by simp [FI.rs, FS.rs])).tail
            refine ⟨i + 1, m, A9, c9, fi ++ [f], by omega, by go_num, by rw [List.length_append, List.length_singleton], by rw [List.length_append, List.length_singleton]; omega, by rw [List.length_append, List.length_singleton]; omega, ⟨fun g hg => ?_⟩, ⟨HF.out.more (by omega)⟩, ⟨?_⟩⟩
            · rcases List.mem_append.1 hg with hg | hg
              · exact HOK.out g hg
              · rw [List.mem_singleton] at hg
                subst hg
                exact HO6.out
            · rw [List.length_append, List.length_singleton, cellsF_more]
              exact ((((h11.pull 6 (by simp [FS.rs])).pull 6 (by simp [FS.rs])).pull 6 (by simp [FS.rs])).pull 6 (by simp [FS.rs])).pull 6 (by simp [FS.rs])
          case measure => simp [intOf]; omega
        · have hnb : (n6 == 0) = false := by simpa using hn
          have hnd : decide (n6 = 0) = false := by simpa using hn
          go_wp2_with (go_at_call 24; refine (lemmalaw11_num.calls n6 n6 _ rfl).mono ?_; rintro e8 w8 ⟨rfl, hd8⟩; have M8 := Aside0.mk (M7.out.drawn hd8); clear hd8 M7)
          go_roundw
          case rel => exact ⟨i + 1, m, FA, fc, fi, by omega, by go_num, rfl, by omega, hfc, HOK, ⟨HF.out.more (by omega)⟩, ⟨M8.out.tail.tail.tail.tail.tail⟩⟩
          case measure => simp [intOf]; omega
    · have hie : i = xs.length := by omega
      subst hie
      go_wp2_with fail
      go_ret
      exact ⟨FA, fc, fi, rfl, hfi, hfc, HOK.out, M.out.tail.tail.tail.tail.tail⟩
end Go.Proofs.YtcfocbfocemapaaGreat.FrsB
