/- FrmN, FrmM. -/
import Derived.Test.YtcfocbfocemapaaGreatU16
namespace Go.Proofs.YtcfocbfocemapaaGreat.FrmN
open Go.RowKit Go.Maps Go.Lib Go.Proofs.YtcfocbfocemapaaGreat.Sep Go.Proofs.YtcfocbfocemapaaGreat.Mem Go.Proofs.YtcfocbfocemapaaGreat.Sets Go.Proofs.YtcfocbfocemapaaGreat.PlayP Go.Proofs.YtcfocbfocemapaaGreat.BindP Go.Proofs.YtcfocbfocemapaaGreat.PStackPlays Go.Proofs.YtcfocbfocemapaaGreat.DistA Go.Proofs.YtcfocbfocemapaaGreat.IterA Go.Proofs.YtcfocbfocemapaaGreat.SortB Go.Proofs.YtcfocbfocemapaaGreat.DistB Go.Proofs.YtcfocbfocemapaaGreat.DistC Go.Proofs.YtcfocbfocemapaaGreat.SubA Go.Proofs.YtcfocbfocemapaaGreat.BindW Go.Proofs.YtcfocbfocemapaaGreat.StkA Go.Proofs.YtcfocbfocemapaaGreat.ApplyW Go.Proofs.YtcfocbfocemapaaGreat.FrmA Go.Proofs.YtcfocbfocemapaaGreat.FrmB Go.Proofs.YtcfocbfocemapaaGreat.Brk Go.Proofs.YtcfocbfocemapaaGreat.LibC Go.Proofs.YtcfocbfocemapaaGreat.FrmD Go.Proofs.YtcfocbfocemapaaGreat.FrmE Go.Proofs.YtcfocbfocemapaaGreat.FrmF Go.Proofs.YtcfocbfocemapaaGreat.FrmG Go.Proofs.YtcfocbfocemapaaGreat.FrmH Go.Proofs.YtcfocbfocemapaaGreat.FrmP Go.Proofs.YtcfocbfocemapaaGreat.CntM Go.Proofs.YtcfocbfocemapaaGreat.FrmK Go.Proofs.YtcfocbfocemapaaGreat.FrmL
open Go.Proofs.YtcfocbfocemapaaGreatW.PrintWords Go.Proofs.YtcfocbfocemapaaGreatW.PrintLast Go.Proofs.YtcfocbfocemapaaGreatW.PrintMore
set_option linter.unusedVariables false
set_option linter.unusedSimpArgs false
set_option maxRecDepth 100000

/-- A frame in memory, its lists of its own. -/
structure FI where
  hA : Option Addr
  hc : Nat
  hs : List HI
  pA : Option Addr
  pc : Nat
  ps : List S50
  gA : Option Addr
  gc : Nat
  goal : Ex
def FI.cells (f : FI) : List Value := [.slice f.hA f.hs.length f.hc, .slice f.pA f.ps.length f.pc, .slice f.gA f.goal.length f.gc]
def FI.val (f : FI) : Value := .agg #[.slice f.hA f.hs.length f.hc, .slice f.pA f.ps.length f.pc, .slice f.gA f.goal.length f.gc]
def FI.fr (f : FI) : Fr := ⟨f.hs.map HI.hy, f.ps, f.goal⟩
def FI.rs (f : FI) : List Res := [rowR 93 4 (.slice f.hA f.hs.length f.hc) f.hs.length (cellsH f.hs), exH f.hs, rowR 50 2 (.slice f.pA f.ps.length f.pc) f.ps.length (pairCells (f.ps.map prP)), rowR 3 1 (.slice f.gA f.goal.length f.gc) f.goal.length (f.goal.map num)]
structure FI.OK (f : FI) : Prop where
  fr : FrameOK f.fr
  pok : ∀ p ∈ f.ps, PairOK (prP p)
  gok : ∀ y ∈ f.goal, IntOK y
def FI.zero : FI := ⟨none, 0, [], none, 0, [], none, 0, []⟩
theorem FI.zero_ok : FI.zero.OK := ⟨⟨List.nodup_nil, (fun h hh => by cases hh), (fun p hp => by cases hp), (by simp [FI.zero, FI.fr]), (by simp [FI.zero, FI.fr]), (by simp [FI.zero, FI.fr]), (fun h hh => by cases hh)⟩, (fun p hp => by cases hp), fun y hy => by cases hy⟩
theorem FI.zero_rs {W w : World} {rs : List Res} (h : Sep W w rs) : Sep W w (FI.zero.rs ++ rs) := by
  have h1 := row_nil (row_nil h 3 1) 50 2
  exact row_nil (exH_none h1) 93 4
theorem only_mem (am : Int → Bool) (l : List S50) : ∀ (f : PI → Bool), (∀ x, f x = true → am x.1 = true ∧ am x.2 = true) → ∀ x, l.foldl (fun f p => if am p.f0 && am p.f1 then putS f (prP p) else f) f x = true → am x.1 = true ∧ am x.2 = true := by
  induction l with
  | nil => intro f hf x hx; exact hf x hx
  | cons p l ih =>
    intro f hf x hx
    refine ih _ ?_ x hx
    intro y hy
    dsimp only at hy
    split at hy
    · rename_i hc
      rw [Bool.and_eq_true] at hc
      unfold putS at hy
      split at hy
      · exact hf y hy
      · unfold upd at hy
        rw [Bool.or_eq_true, decide_eq_true_iff] at hy
        rcases hy with rfl | hy
        · unfold turnP
          split
          · exact ⟨hc.2, hc.1⟩
          · exact hc
        · exact hf y hy
    · exact hf y hy
theorem only_in {vs : List Int} {l : List S50} {ss : List S50} (h : ListOf (onlyF (amongF vs) l) (ss.map prP)) : ∀ p ∈ ss, p.f0 ∈ vs ∧ p.f1 ∈ vs := by
  intro p hp
  have hm : prP p ∈ ss.map prP := List.mem_map_of_mem hp
  have h1 := (h.2.2 _ (h.2.1 _ hm)).1 hm
  have h2 := only_mem (amongF vs) l (fun _ => false) (fun x hx => by cases hx) (prP p) h1
  unfold amongF at h2
  rw [decide_eq_true_iff, decide_eq_true_iff] at h2
  exact h2
theorem fl_sub {a b : List Hy} (h : a.Sublist b) : (flVars a).Sublist (flVars b) := (h.filter _).map _
theorem frame_ok2 {its kept : List HI} {m : FS} {k : Nat} (hm : FInv k m) (hi : its.map HI.hy = m.hyps) (hk : kept.Sublist its) {ps : List S50} {goal : Ex} {vs : List Int} (hv : vs = flVars (kept.map HI.hy)) (hp : ∀ p ∈ ps, p.f0 ∈ vs ∧ p.f1 ∈ vs) (hpl : ps.length ≤ 2097152) (hg : goal.length ≤ 2097152) : FrameOK ⟨kept.map HI.hy, ps, goal⟩ := by
  have hs : (kept.map HI.hy).Sublist m.hyps := by rw [← hi]; exact hk.map _
  refine ⟨(fl_sub hs).nodup hm.ok.nodup, ?_, ?_, ?_, hpl, hg, ?_⟩
  · intro h hh hf
    obtain ⟨q, hq, rfl⟩ := List.mem_map.1 (hs.subset hh)
    exact hm.ok.typed q hq hf
  · intro p hp2
    rw [hv] at hp
    exact hp p hp2
  · have h1 := hs.length_le
    have h2 : m.hyps.length = m.hi.length := List.length_map ..
    have := hm.ok.few
    show (kept.map HI.hy).length ≤ 2097152
    omega
  · intro h hh
    obtain ⟨q, hq, rfl⟩ := List.mem_map.1 (hs.subset hh)
    exact hm.ok.short q hq
theorem ex_sub {W w : World} {rs : List Res} {a b : List HI} (h : Sep W w (exH b :: rs)) (hs : ∀ q ∈ a, q ∈ b) : Sep W w (exH a :: rs) := h.told fun f hf q hq => hf q (hs q hq)
/-- An expression of a list of hypotheses, read. -/
theorem exH_at {W w : World} {rs : List Res} {its : List HI} (h : Sep W w (exH its :: rs)) {q : HI} (hq : q ∈ its) (hl : q.ex.length ≤ 2097152) : Kd.C (Kd.int .i64) w q.A q.ex.length q.ex := by
  obtain ⟨f, hf, -⟩ := h.head
  exact (row_Ci (hf q hq).1 (by omega)).2
theorem Sep.front {W w : World} (l1 : List Res) : ∀ (l2 : List Res), Sep W w (l1 ++ l2) → Sep W w l1
  | [], h => by rw [List.append_nil] at h; exact h
  | a :: l2, h => Sep.front l1 l2 (Sep.tail (h.perm List.perm_middle))
theorem only2 {W w : World} {rs : List Res} {A B : Option Addr} {ca cb : Nat} {l : List S50} {vs : List Int} (M : Sep W w (rowR 50 2 (.slice A l.length ca) l.length (pairCells (l.map prP)) :: rowR 3 1 (.slice B vs.length cb) vs.length (vs.map num) :: rs)) (oA : ∀ p ∈ l, PairOK (prP p)) (oB : ∀ x ∈ vs, IntOK x) (la : l.length ≤ 4194304) (lb : vs.length ≤ 4194304) :
    Calls Tryz.prog 72 #[.slice A l.length ca, .slice B vs.length cb] w fun e w' => ∃ (D : Option Addr) (d : Nat) (ss : List S50), e = .returned (.slice D ss.length d) ∧ ListOf (onlyF (amongF vs) l) (ss.map prP) ∧ ss.length ≤ l.length ∧ Sep W w' (rowR 50 2 (.slice D ss.length d) ss.length (pairCells (ss.map prP)) :: rowR 50 2 (.slice A l.length ca) l.length (pairCells (l.map prP)) :: rowR 3 1 (.slice B vs.length cb) vs.length (vs.map num) :: rs) := by
  have h1 := ApplyW.row_CP M.row (by omega)
  have h2 := (row_Ci M.tail.row (by omega)).2
  refine (only_calls (ca := ca) (cb := cb) (read_old (Sep.start w) (C := fun w' => Kd.C k50 w' A l.length l ∧ Kd.C (Kd.int .i64) w' B vs.length vs) (fun w' hw => ⟨Kd.Heap.C k50_heap hw h1, Kd.Heap.C (Kd.heap_int .i64) hw h2⟩)) (fun w' hw => hw.1) (fun w' hw => hw.2) oA oB la lb).mono ?_
  rintro e w' ⟨v, ss, rfl, h3, h3l, h4⟩
  obtain ⟨D, d, l2, rfl, hd, rfl, hm⟩ := row_S50 h4
  clear h4
  rw [List.length_map] at h3l
  exact ⟨D, d, l2, rfl, h3, h3l, sep_over M hm.swap.tail⟩
/-- The cells of one hypothesis of a list of one's own. -/
theorem rowH_at {W w : World} {rs : List Res} {A : Option Addr} {c n : Nat} {its : List HI} (h : Sep W w (rowR 93 4 (.slice A n c) n (cellsH its) :: rs)) (hn : n = its.length) {i : Nat} (hi : i < its.length) :
    ∃ b, A = some ⟨b, 0, none⟩ ∧ w.cell? ⟨b, i * 4, none⟩ = some (.string its[i].f0) ∧ w.cell? ⟨b, i * 4 + 1, none⟩ = some (.bool its[i].f1) ∧ w.cell? ⟨b, i * 4 + 2, none⟩ = some (.int .i64 its[i].x) ∧ w.cell? ⟨b, i * 4 + 3, none⟩ = some (.slice its[i].A its[i].ex.length its[i].c) := by
  obtain ⟨b, cap, e, _, hcell, _⟩ := row_some h.row (by omega)
  simp only [Value.slice.injEq, true_and] at e
  obtain ⟨n1, n2, n3, n4⟩ := cellsH_at its hi
  exact ⟨b, e.1, hcell _ _ n1, hcell _ _ n2, hcell _ _ n3, hcell _ _ n4⟩
end Go.Proofs.YtcfocbfocemapaaGreat.FrmN

namespace Go.Proofs.YtcfocbfocemapaaGreat.FrmM
open Go.RowKit Go.Maps Go.Lib Go.Proofs.YtcfocbfocemapaaGreat.Sep Go.Proofs.YtcfocbfocemapaaGreat.Mem Go.Proofs.YtcfocbfocemapaaGreat.Sets Go.Proofs.YtcfocbfocemapaaGreat.PlayP Go.Proofs.YtcfocbfocemapaaGreat.BindP Go.Proofs.YtcfocbfocemapaaGreat.PStackPlays Go.Proofs.YtcfocbfocemapaaGreat.DistA Go.Proofs.YtcfocbfocemapaaGreat.IterA Go.Proofs.YtcfocbfocemapaaGreat.SortB Go.Proofs.YtcfocbfocemapaaGreat.DistB Go.Proofs.YtcfocbfocemapaaGreat.DistC Go.Proofs.YtcfocbfocemapaaGreat.SubA Go.Proofs.YtcfocbfocemapaaGreat.BindW Go.Proofs.YtcfocbfocemapaaGreat.StkA Go.Proofs.YtcfocbfocemapaaGreat.ApplyW Go.Proofs.YtcfocbfocemapaaGreat.FrmA Go.Proofs.YtcfocbfocemapaaGreat.FrmB Go.Proofs.YtcfocbfocemapaaGreat.Brk Go.Proofs.YtcfocbfocemapaaGreat.LibC Go.Proofs.YtcfocbfocemapaaGreat.FrmD Go.Proofs.YtcfocbfocemapaaGreat.FrmE Go.Proofs.YtcfocbfocemapaaGreat.FrmF Go.Proofs.YtcfocbfocemapaaGreat.FrmG Go.Proofs.YtcfocbfocemapaaGreat.FrmH Go.Proofs.YtcfocbfocemapaaGreat.FrmP Go.Proofs.YtcfocbfocemapaaGreat.CntM Go.Proofs.YtcfocbfocemapaaGreat.FrmK Go.Proofs.YtcfocbfocemapaaGreat.FrmL Go.Proofs.YtcfocbfocemapaaGreat.FrmN
open Go.Proofs.YtcfocbfocemapaaGreatW.PrintWords Go.Proofs.YtcfocbfocemapaaGreatW.PrintLast Go.Proofs.YtcfocbfocemapaaGreatW.PrintMore
set_option linter.unusedVariables false
set_option linter.unusedSimpArgs false
set_option maxRecDepth 100000

theorem box3 {W w : World} {rs : List Res} {b : Nat} {t : TypeId} {x0 x1 x2 : Value} (h : Sep W w (boxR b t #[x0, x1, x2] :: rs)) : (w.cell? ⟨b, 0, none⟩ = some x0 ∧ w.cell? ⟨b, 1, none⟩ = some x1 ∧ w.cell? ⟨b, 2, none⟩ = some x2) ∧ w.frozen? ⟨b, 0, none⟩ = false ∧ w.frozen? ⟨b, 1, none⟩ = false ∧ w.frozen? ⟨b, 2, none⟩ = false := ⟨⟨(box_cell h (j := 0) rfl).1, (box_cell h (j := 1) rfl).1, (box_cell h (j := 2) rfl).1⟩, (box_cell h (j := 0) rfl).2, (box_cell h (j := 1) rfl).2, (box_cell h (j := 2) rfl).2⟩
def FrameOut (w : World) (e : Ending) (w' : World) : Prop := ∃ (f : FI) (n : Int), e = .returned (.tuple #[f.val, .int .i64 n]) ∧ f.OK ∧ Sep w w' f.rs
set_option maxHeartbeats 8000000 in
theorem frame_calls {W w : World} {rs : List Res} {s k : Nat} {m : FS} (h : Sep W w (m.rs s ++ rs)) (hm : FInv k m) (hk : k ≤ 1048576) (hsx : ∀ q ∈ m.hi, q.ex.length ≤ 1048576) {A : Option Addr} {c : Nat} {x : Ex} (hX : Kd.C (Kd.int .i64) w A x.length x) (hxl : x.length ≤ 1048576) (hio : ∀ y ∈ x, IntOK y) :
    Calls Tryz.prog 47 #[.pointer (some ⟨s, 0, none⟩), .slice A x.length c] w (FrameOut w) := by
  have HM := Aside0.mk h
  have HO := Aside0.mk hm
  have HX := Aside0.mk hX
  have HIO := Aside0.mk hio
  have HS := Aside0.mk (fun w' (hb : Below w.heap.size w w') => ((hb.cell (World.block_lt_of_cell? _ _ (fs_b h).1)).trans (fs_b h).1 : w'.cell? ⟨s, 0, none⟩ = some (.func (.func 8) #[] #[])))
  have M0 := box_fresh (box_fresh (Sep.start w) 80 #[.pointer (some ⟨s, 0, none⟩)]) 68 #[.slice none 0 0, .slice none 0 0, .slice none 0 0]
  simp only [World.size_alloc] at M0
  have M := Aside0.mk M0
  have hck := check_calls (c := c) (HM.out.below M.out.1) hm.ok (Kd.C_below HX.out M.out.1) hxl
  have HSX : Aside0 (∀ q : FrmB.HI, q.hy ∈ m.hyps → q.ex.length ≤ 1048576 ∧ IntOK q.x ∧ ∀ y ∈ q.ex, IntOK y) := ⟨fun q hq => by
    obtain ⟨z, hz, e⟩ := List.mem_map.1 hq
    have e1 : z.ex = q.ex := congrArg S93.f3 e
    have e2 : z.x = q.x := congrArg S93.f2 e
    rw [← e1, ← e2]
    exact ⟨hsx z hz, hm.iok z hz⟩⟩
  have hfew := hm.few
  clear h hm hsx hX hio M0
  have hmm := @run_makeMap Tryz.prog
  go_enter Tryz.func47, Tryz.ntmps47
  go_upto_region 1 with fail
  generalize hw2 : (w.alloc (.cells #[.pointer (some ⟨s, 0, none⟩)] 80)).alloc (.cells #[.slice none 0 0, .slice none 0 0, .slice none 0 0] 68) = w2 at M hck ⊢
  clear hw2
  have o2 := (box_cell (M.out.pull 1 (by simp)) (j := 0) rfl).1
  go_upto_region 2 with (go_at_call 64; refine hck.mono ?_; clear hck; rintro e1 w3 ⟨⟨n, rfl, -⟩, hb3⟩; have M3 := Aside0.mk (M.out.below hb3); clear hb3 M o2)
  by_cases hn : n = 0
  · have HN := Aside0.mk hn
    have hnb : (n == 0) = true := by simpa using hn
    have hnn : (n != 0) = false := by simp [hn]
    clear hn
    have o2 := (box_cell (M3.out.pull 1 (by simp)) (j := 0) rfl).1
    have hsc := scope_calls (HM.out.below M3.out.1) HO.out
    go_upto_region 7 with (go_at_call 69; refine hsc.mono ?_; clear hsc; rintro e4 w4 ⟨HA, hc, its, PA, pd, ss0, rfl, hhy, hlo, hsl, hm4⟩; obtain ⟨PB, pe, ps, hv4, hpe, rfl, hm4b⟩ := row_S50 (hm4.pull 2 (by simp)); have M4 := Aside0.mk (sep_over M3.out (hm4b.pull 1 (by simp))); have HH := Aside0.mk hhy; have HL := Aside0.mk hlo; simp only [Value.slice.injEq, List.length_map, true_and] at hv4; obtain ⟨rfl, rfl⟩ := hv4; clear hm4 hm4b hhy hlo M3 o2)
    clear hmm HN hnb hnn
    have hitl : its.length ≤ k := by
      have h5 := congrArg List.length HH.out
      rw [List.length_map, show m.hyps.length = m.hi.length from List.length_map ..] at h5
      omega
    have hpsl : ps.length ≤ 256 := by
      have := HO.out.pfew
      rw [List.length_map] at hsl
      omega
    have HPO := Aside0.mk (fun p (hp : p ∈ ps) => HL.out.2.1 (prP p) (List.mem_map_of_mem hp))
    have HQ : Aside0 (∀ q ∈ its, q.ex.length ≤ 1048576 ∧ IntOK q.x ∧ ∀ y ∈ q.ex, IntOK y) := ⟨fun q hq => HSX.out q (by rw [← HH.out]; exact List.mem_map_of_mem hq)⟩
    have M5a := box_fresh (cnt_fresh (box_fresh M4.out 133 #[.slice HA its.length hc, .slice PA ps.length pd])) 126 #[.map (some (w4.heap.size + 1))]
    simp only [World.size_alloc] at M5a
    generalize hw5 : ((w4.alloc (.cells #[.slice HA its.length hc, .slice PA ps.length pd] 133)).alloc (.map #[] 0)).alloc (.cells #[.map (some (w4.heap.size + 1))] 126) = w5 at M5a ⊢
    clear hw5
    generalize w4.heap.size = b7 at M5a ⊢
    have M5 : Aside0 (Sep w w5 [cntR (b7 + 1) 0, boxR (b7 + 1 + 1) 126 #[.map (some (b7 + 1))], boxR w.heap.size 80 #[.pointer (some ⟨s, 0, none⟩)], boxR b7 133 #[.slice HA its.length hc, .slice PA ps.length pd], rowR 93 4 (.slice HA its.length hc) its.length (cellsH its), rowR 50 2 (.slice PA ps.length pd) ps.length (pairCells (ps.map prP)), exH its, boxR (w.heap.size + 1) 68 #[.slice none 0 0, .slice none 0 0, .slice none 0 0]]) := ⟨(((M5a.pull 1 (by simp)).pull 7 (by simp)).pull 2 (by simp)).pull 2 (by simp)⟩
    clear M5a M4
    generalize b7 + 1 + 1 = b8 at M5 ⊢
    generalize b7 + 1 = bm at M5 ⊢
    have hno := note_calls (c := c) M5.out HS.out (by omega) (Kd.C_below HX.out M5.out.1) hxl HIO.out
    go_upto_region 8 with (go_at_call 70; refine hno.mono ?_; clear hno; rintro e6 w6 ⟨rfl, hm6⟩; have M6 := Aside0.mk hm6; clear hm6 M5)
    have o7 := (box_cell (M6.out.pull 3 (by simp)) (j := 0) rfl).1
    go_wp2_with fail
    clear o7
    go_loopw [11, 33] (fun v11 v33 wr => ∃ (i : Nat), i ≤ its.length ∧ v33 = .int .i64 i ∧ Aside0 (Sep w wr [cntR bm ((i + 1) * 1048576), boxR b8 126 #[.map (some bm)], boxR w.heap.size 80 #[.pointer (some ⟨s, 0, none⟩)], boxR b7 133 #[.slice HA its.length hc, .slice PA ps.length pd], rowR 93 4 (.slice HA its.length hc) its.length (cellsH its), rowR 50 2 (.slice PA ps.length pd) ps.length (pairCells (ps.map prP)), exH its, boxR (w.heap.size + 1) 68 #[.slice none 0 0, .slice none 0 0, .slice none 0 0]])) (fun _ v33 _ => its.length - (intOf v33).toNat)
    case atStart => exact ⟨0, by omega, rfl, ⟨M6.out.told fun F hF => ⟨hF.1.more (by omega), hF.2⟩⟩⟩
    case round =>
      clear M6
      obtain ⟨i, hi, rfl, M⟩ := hrel
      by_cases hlt : i < its.length
      · obtain ⟨bh, hA2, y0, y1, y2, y3⟩ := rowH_at (M.out.pull 4 (by simp)) rfl hlt
        obtain ⟨hql, hqx, hqi⟩ := HQ.out _ (List.getElem_mem hlt)
        have hKe := exH_at (M.out.pull 6 (by simp)) (List.getElem_mem hlt) (by omega)
        obtain ⟨q, hq⟩ : ∃ q, q = its[i] := ⟨_, rfl⟩
        rw [← hq] at y0 y1 y2 y3 hql hqx hqi hKe
        clear hq
        obtain ⟨f0, f1, xv, ex, eA, ec⟩ := q
        simp only at y0 y1 y2 y3 hql hqx hqi hKe
        have HQI := Aside0.mk hqi
        clear hqi
        cases f1 with
        | true =>
          have M1 := Aside0.mk (M.out.alloc (.cells #[.string f0, .bool true, .int .i64 xv, .slice eA ex.length ec] 93))
          clear M hKe
          rw [hA2]
          go_wp2_with fail
          go_roundw
          case rel => exact ⟨i + 1, by omega, by go_num, ⟨by rw [← hA2]; exact M1.out.told fun F hF => ⟨hF.1.more (by omega), hF.2⟩⟩⟩
          case measure => simp [intOf]; omega
        | false =>
          have M1 := Aside0.mk (M.out.alloc (.cells #[.string f0, .bool false, .int .i64 xv, .slice eA ex.length ec] 93))
          have hno := note_calls (c := ec) M1.out HS.out (by omega) (Kd.C_below hKe ((Below.refl wr.heap.size wr).alloc (Nat.le_refl _) (.cells #[.string f0, .bool false, .int .i64 xv, .slice eA ex.length ec] 93))) hql HQI.out
          clear M M1 hKe
          rw [hA2]
          go_wp2_with (go_at_call 70; refine hno.mono ?_; clear hno; rintro e6 w6 ⟨rfl, hm6⟩; have M6 := Aside0.mk hm6; clear hm6)
          go_roundw
          case rel => exact ⟨i + 1, by omega, by go_num, ⟨by rw [← hA2]; exact M6.out.told fun F hF => ⟨hF.1.more (by omega), hF.2⟩⟩⟩
          case measure => simp [intOf]; omega
      · have hie : i = its.length := by omega
        subst hie
        generalize hgg : (its.length + 1) * 1048576 = g at M
        have hcl := clone_calls (c := c) M.out (Kd.C_below HX.out M.out.1) (by omega)
        go_upto_region 16 with (go_at_call 40; refine hcl.mono ?_; clear hcl; rintro e7 w7 ⟨GA, gc, rfl, hgc, hm7⟩; have M7 := Aside0.mk (row_nil (box_fresh hm7 68 #[.slice none 0 0, .slice none 0 0, .slice GA x.length gc]) 3 1); clear hm7 M)
        generalize hw8 : w7.alloc (.cells #[.slice none 0 0, .slice none 0 0, .slice GA x.length gc] 68) = w8 at M7 ⊢
        clear hw8
        generalize w7.heap.size = b12 at M7 ⊢
        have M8 : Aside0 (Sep w w8 [boxR b12 68 #[.slice none 0 0, .slice none 0 0, .slice GA x.length gc], rowR 93 4 (.slice none 0 0) 0 [], rowR 3 1 (.slice none 0 0) 0 [], rowR 3 1 (.slice GA x.length gc) x.length (x.map num), cntR bm g, boxR b8 126 #[.map (some bm)], boxR w.heap.size 80 #[.pointer (some ⟨s, 0, none⟩)], boxR b7 133 #[.slice HA its.length hc, .slice PA ps.length pd], rowR 93 4 (.slice HA its.length hc) its.length (cellsH its), rowR 50 2 (.slice PA ps.length pd) ps.length (pairCells (ps.map prP)), exH its, boxR (w.heap.size + 1) 68 #[.slice none 0 0, .slice none 0 0, .slice none 0 0]]) := ⟨(row_nil M7.out 93 4).pull 2 (by simp)⟩
        clear M7
        have o7 := (box_cell (M8.out.pull 7 (by simp)) (j := 0) rfl).1
        go_wp2_with fail
        clear o7
        go_loopw [13, 15, 51] (fun v13 v15 v51 wr => ∃ (i : Nat) (FA : Option Addr) (fc : Nat) (kept : List FrmB.HI) (vA : Option Addr) (vc : Nat) (vs : List Int), i ≤ its.length ∧ v51 = .int .i64 i ∧ v13 = .slice vA vs.length vc ∧ Aside0 (kept.Sublist (its.take i)) ∧ Aside0 (vs = flVars (kept.map HI.hy)) ∧
          Aside0 (Sep w wr [boxR b12 68 #[.slice FA kept.length fc, .slice none 0 0, .slice GA x.length gc], rowR 93 4 (.slice FA kept.length fc) kept.length (cellsH kept), rowR 3 1 (.slice vA vs.length vc) vs.length (vs.map num), rowR 3 1 (.slice GA x.length gc) x.length (x.map num), cntR bm g, boxR b8 126 #[.map (some bm)], boxR w.heap.size 80 #[.pointer (some ⟨s, 0, none⟩)], boxR b7 133 #[.slice HA its.length hc, .slice PA ps.length pd], rowR 93 4 (.slice HA its.length hc) its.length (cellsH its), rowR 50 2 (.slice PA ps.length pd) ps.length (pairCells (ps.map prP)), exH its, boxR (w.heap.size + 1) 68 #[.slice none 0 0, .slice none 0 0, .slice none 0 0]])) (fun _ _ v51 _ => its.length - (intOf v51).toNat)
        case atStart => exact ⟨0, none, 0, [], none, 0, [], by omega, rfl, rfl, ⟨List.nil_sublist _⟩, ⟨rfl⟩, M8⟩
        case round =>
          clear M8
          obtain ⟨i, FA, fc, kept, vA, vc, vs, hi, rfl, rfl, HKS, HVS, M⟩ := hrel
          have hkl : kept.length ≤ its.length := by
            have h1 := HKS.out.length_le
            rw [List.length_take] at h1
            omega
          have hvl : vs.length ≤ kept.length := by
            rw [HVS.out]
            unfold flVars
            rw [List.length_map]
            have h1 := List.length_filter_le S93.f1 (kept.map HI.hy)
            rw [List.length_map] at h1
            exact h1
          by_cases hlt : i < its.length
          · obtain ⟨bh, hA2, y0, y1, y2, y3⟩ := rowH_at (M.out.pull 8 (by simp)) rfl hlt
            obtain ⟨hql, hqx, hqi⟩ := HQ.out _ (List.getElem_mem hlt)
            have HT := Aside0.mk (List.take_succ_eq_append_getElem hlt)
            have HQX := Aside0.mk hqx
            clear hqi hqx hql
            subst hA2
            obtain ⟨q, hq⟩ : ∃ q, q = its[i] := ⟨_, rfl⟩
            rw [← hq] at y0 y1 y2 y3 HQX HT
            clear hq
            obtain ⟨f0, f1, xv, ex, eA, ec⟩ := q
            simp only at y0 y1 y2 y3 HQX
            have M1 := Aside0.mk (box_fresh M.out 93 #[.string f0, .bool f1, .int .i64 xv, .slice eA ex.length ec])
            clear M
            have HM1 := M1
            clear M1
            have M1 := HM1
            clear HM1
            go_upto_region 19 with fail
            generalize hwa : wr.alloc (.cells #[.string f0, .bool f1, .int .i64 xv, .slice eA ex.length ec] 93) = wa at M1 ⊢
            clear hwa y0 y1 y2 y3
            generalize wr.heap.size = b15 at M1 ⊢
            obtain ⟨x0, x1, x2, x3⟩ := box4 M1.out
            have o8 := (box_cell (M1.out.pull 6 (by simp)) (j := 0) rfl).1
            obtain ⟨c0, hc0, hlook⟩ := (cnt_at (M1.out.pull 5 (by simp))).look HQX.out
            cases f1 with
            | false =>
              clear hlook o8 hc0
              go_upto_region 22 with fail
              obtain ⟨x0, x1, x2, x3⟩ := box4 M1.out
              obtain ⟨o12, g12⟩ := box_cell (M1.out.pull 1 (by simp)) (j := 0) rfl
              go_wp2_with (at_builtin; refine wp_cells ((M1.out.pull 2 (by simp)).alloc (.cells #[.string f0, .bool false, .int .i64 xv, .slice eA ex.length ec] 93)) rfl _ _ 35 rfl Tryz.underlying35 info93 rfl (by omega) rfl (A := some ⟨wa.heap.size, 0, none⟩) (m := 1) (news := encH ⟨f0, false, xv, ex, eA, ec⟩) rfl rfl (fun h => by cases h) (fun ad2 e2 j u hu => ?qc) (fun u hu => ?qd) (by omega) (by omega) ?_; (case qc => cases e2; exact (World.news_of_block (cs := #[.string f0, .bool false, .int .i64 xv, .slice eA ex.length ec]) (t := 93) (fr := (0, 0)) (heap_alloc_new wa _)) j u hu); (case qd => simp [encH] at hu; rcases hu with rfl | rfl | rfl | rfl <;> rfl); intro A9 c9 w9 hc9 hm9; have M9 := Aside0.mk (hm9.pull 2 (by simp)); clear hm9 M1 x0 x1 x2 x3 o12 g12; obtain ⟨o12, g12⟩ := box_cell M9.out (j := 0) rfl)
              go_roundw
              case rel =>
                have h10 := ((box_set M9.out 0 (.slice A9 (kept.length + 1) c9)).pull 2 (by simp)).tail
                refine ⟨i + 1, A9, c9, kept ++ [(⟨f0, false, xv, ex, eA, ec⟩ : FrmB.HI)], vA, vc, vs, by omega, by go_num, rfl, ⟨by rw [HT.out]; exact HKS.out.append (List.Sublist.refl _)⟩, ⟨by rw [List.map_append, List.map_singleton, fl_snoc, ← HVS.out]; simp [HI.hy]⟩, ⟨?_⟩⟩
                rw [List.length_append, List.length_singleton, cellsH_more]
                exact h10
              case measure => simp [intOf]; omega
            | true =>
              by_cases hz0 : c0 = 0
              · subst hz0
                go_wp2_with fail
                go_roundw
                case rel =>
                  exact ⟨i + 1, FA, fc, kept, vA, vc, vs, by omega, by go_num, rfl, ⟨by rw [HT.out]; exact HKS.out.trans (List.sublist_append_left _ _)⟩, HVS, ⟨M1.out.tail⟩⟩
                case measure => simp [intOf]; omega
              · have hzb : (c0 == 0) = false := by simpa using hz0
                go_upto_region 21 with fail
                clear hlook o8 hc0
                go_upto_region 22 with (at_builtin; refine wp_cells ((M1.out.pull 3 (by simp)).alloc (.cells #[.int .i64 xv] 3)) rfl _ _ 24 rfl Tryz.underlying24 info3 rfl (by omega) rfl (A := some ⟨wa.heap.size, 0, none⟩) (m := 1) (news := [num xv]) rfl rfl (fun h => by cases h) (fun ad2 e2 j u hu => ?qc) (fun u hu => ?qd) (by omega) (by omega) ?_; (case qc => cases e2; exact (World.news_of_block (cs := #[.int .i64 xv]) (t := 3) (fr := (0, 0)) (heap_alloc_new wa _)) j u hu); (case qd => simp at hu; rcases hu with rfl; rfl); intro A7 c7 wb hc7 hm7; have M7 := Aside0.mk (((hm7.pull 3 (by simp)).pull 3 (by simp)).pull 3 (by simp)); clear hm7 M1 x0 x1 x2 x3)
                obtain ⟨x0, x1, x2, x3⟩ := box4 M7.out
                obtain ⟨o12, g12⟩ := box_cell (M7.out.pull 1 (by simp)) (j := 0) rfl
                go_wp2_with (at_builtin; refine wp_cells ((M7.out.pull 2 (by simp)).alloc (.cells #[.string f0, .bool true, .int .i64 xv, .slice eA ex.length ec] 93)) rfl _ _ 35 rfl Tryz.underlying35 info93 rfl (by omega) rfl (A := some ⟨wb.heap.size, 0, none⟩) (m := 1) (news := encH ⟨f0, true, xv, ex, eA, ec⟩) rfl rfl (fun h => by cases h) (fun ad2 e2 j u hu => ?qc) (fun u hu => ?qd) (by omega) (by omega) ?_; (case qc => cases e2; exact (World.news_of_block (cs := #[.string f0, .bool true, .int .i64 xv, .slice eA ex.length ec]) (t := 93) (fr := (0, 0)) (heap_alloc_new wb _)) j u hu); (case qd => simp [encH] at hu; rcases hu with rfl | rfl | rfl | rfl <;> rfl); intro A9 c9 w9 hc9 hm9; have M9 := Aside0.mk (hm9.pull 2 (by simp)); clear hm9 M7 x0 x1 x2 x3 o12 g12; obtain ⟨o12, g12⟩ := box_cell M9.out (j := 0) rfl)
                go_roundw
                case rel =>
                  have h10 := ((box_set M9.out 0 (.slice A9 (kept.length + 1) c9)).pull 2 (by simp)).tail
                  refine ⟨i + 1, A9, c9, kept ++ [(⟨f0, true, xv, ex, eA, ec⟩ : FrmB.HI)], A7, c7, vs ++ [xv], by omega, by go_num, by rw [List.length_append, List.length_singleton], ⟨by rw [HT.out]; exact HKS.out.append (List.Sublist.refl _)⟩, ⟨by rw [List.map_append, List.map_singleton, fl_snoc, ← HVS.out]; simp [HI.hy]⟩, ⟨?_⟩⟩
                  rw [List.length_append, List.length_singleton, cellsH_more, List.length_append, List.length_singleton, List.map_append]
                  exact h10
                case measure => simp [intOf]; omega
          · have hie : i = its.length := by omega
            subst hie
            rw [List.take_length] at HKS
            have HVI : Aside0 (∀ y ∈ vs, IntOK y) := ⟨fun y hy => by
              rw [HVS.out] at hy
              obtain ⟨hh, hh2, rfl⟩ := List.mem_map.1 hy
              obtain ⟨q, hq, rfl⟩ := List.mem_map.1 ((List.mem_filter.1 hh2).1)
              exact (HQ.out q (HKS.out.subset hq)).2.1⟩
            have o71 := (box_cell (M.out.pull 7 (by simp)) (j := 1) rfl).1
            have hon := only2 ((M.out.pull 2 (by simp)).pull 9 (by simp)) HPO.out HVI.out (by omega) (by omega)
            go_upto_region 25 with (go_at_call 72; refine hon.mono ?_; clear hon; rintro e9 w9 ⟨DA, dc, ss, rfl, hlo9, hsl9, hm9⟩; have M9 := Aside0.mk (hm9.pull 3 (by simp)); have HL9 := Aside0.mk hlo9; clear hm9 hlo9 M o71; obtain ⟨⟨-, p12, -⟩, -, f12, -⟩ := box3 M9.out)
            have M10 := Aside0.mk (box_set M9.out 1 (.slice DA ss.length dc))
            clear M9 p12 f12
            generalize hwc : w9.setCell ⟨b12, 1, none⟩ (.slice DA ss.length dc) = wc at M10 ⊢
            clear hwc
            have M11 : Aside0 (Sep w wc [boxR b12 68 #[.slice FA kept.length fc, .slice DA ss.length dc, .slice GA x.length gc], rowR 50 2 (.slice DA ss.length dc) ss.length (pairCells (ss.map prP)), rowR 50 2 (.slice PA ps.length pd) ps.length (pairCells (ps.map prP)), rowR 3 1 (.slice vA vs.length vc) vs.length (vs.map num), rowR 93 4 (.slice FA kept.length fc) kept.length (cellsH kept), rowR 3 1 (.slice GA x.length gc) x.length (x.map num), cntR bm g, boxR b8 126 #[.map (some bm)], boxR w.heap.size 80 #[.pointer (some ⟨s, 0, none⟩)], boxR b7 133 #[.slice HA its.length hc, .slice PA ps.length pd], rowR 93 4 (.slice HA its.length hc) its.length (cellsH its), exH its, boxR (w.heap.size + 1) 68 #[.slice none 0 0, .slice none 0 0, .slice none 0 0]]) := ⟨M10.out⟩
            clear M10
            obtain ⟨⟨x0, x1, x2⟩, -, -, -⟩ := box3 M11.out
            obtain ⟨⟨p0, p1, p2⟩, f0, f1, f2⟩ := box3 (M11.out.pull 12 (by simp))
            go_wp2_with fail
            have h4 := box_set (box_set (box_set (M11.out.pull 12 (by simp)) 0 (.slice FA kept.length fc)) 1 (.slice DA ss.length dc)) 2 (.slice GA x.length gc)
            refine bodyPost_ret (results_ct rfl _ _ (w.heap.size + 1) 68 #[.slice FA kept.length fc, .slice DA ss.length dc, .slice GA x.length gc] (0, 0) _ rfl (box_at h4) Tryz.underlying68 rfl (by kernel_rfl)) rfl ?_
            have hpe9 := only_in HL9.out
            refine ⟨⟨FA, fc, kept, DA, dc, ss, GA, gc, x⟩, 0, rfl, ⟨frame_ok2 (ps := ss) (goal := x) HO.out HH.out HKS.out HVS.out hpe9 (by omega) (by omega), fun p hp => HL9.out.2.1 _ (List.mem_map_of_mem hp), HIO.out⟩, ?_⟩
            have h5 := ((h4.pull 6 (by simp)).pull 3 (by simp)).pull 12 (by simp)
            have h6 := (ex_sub (a := kept) h5 (fun q hq => HKS.out.subset hq)).pull 7 (by simp)
            exact Sep.front _ _ h6
  · have hnb : (n == 0) = false := by simpa using hn
    have hnn : (n != 0) = true := by simpa using hn
    obtain ⟨⟨p0, p1, p2⟩, f0, f1, f2⟩ := box3 M3.out
    go_wp2_with fail
    have h4 := box_set (box_set (box_set M3.out 0 (.slice none 0 0)) 1 (.slice none 0 0)) 2 (.slice none 0 0)
    refine bodyPost_ret (results_ct rfl _ _ (w.heap.size + 1) 68 #[.slice none 0 0, .slice none 0 0, .slice none 0 0] (0, 0) _ rfl (box_at h4) Tryz.underlying68 rfl (by kernel_rfl)) rfl ?_
    refine ⟨FI.zero, n, rfl, FI.zero_ok, ?_⟩
    exact Sep.front _ _ (FI.zero_rs h4)
end Go.Proofs.YtcfocbfocemapaaGreat.FrmM
