/- NodesMem, NodesW. -/
import Derived.Test.YtkonloadedbpkaaY1
import Derived.Test.YtkonloadedbpkaaY2
import Derived.BigQuiet
import Derived.OwnWalk
namespace Go.Proofs.Ytkonloadedbpkaa.NodesMem
open Go.RowKit Go.Maps Go.Proofs.Ytkonloadedbpkaa.Sep Go.Proofs.Ytkonloadedbpkaa.FMaps Go.Proofs.Ytkonloadedbpkaa.FoldPure Go.Proofs.Ytkonloadedbpkaa.FoldMem Go.Proofs.Ytkonloadedbpkaa.FoldRun Go.Proofs.Ytkonloadedbpkaa.Reached Go.Proofs.Ytkonloadedbpkaa.NodesPure Go.Proofs.Ytkonloadedbpkaa.NameW Go.Proofs.Ytkonloadedbpkaa.WriteW
open Go.Proofs.Ytkonloadedbpkaa.PFoldDoubles
open Go.Proofs.YtkonloadedbpkaaW.PrintWords
set_option linter.unusedVariables false

theorem nodes_27 {w : World} {A : Option Addr} {l : List Nd} (h : NodesC A l w) : Kd.C k27 w A (l.map toS).length (l.map toS) := by
  rw [List.length_map]
  obtain ⟨h1, h2, h3⟩ := h
  refine ⟨by simp, h2, fun hn => ?_⟩
  obtain ⟨ad, e, hc⟩ := h3 hn
  refine ⟨ad, e, fun j p hp => ?_⟩
  rw [List.getElem?_map] at hp
  obtain ⟨x, hx, rfl⟩ := Option.map_eq_some_iff.1 hp
  exact hc j (toP x) (by rw [List.getElem?_map, hx]; rfl)
theorem reps_bool (P : Bool → List Value → Prop) (hP : ∀ b cs, P b cs → cs = [.bool b]) : ∀ (xs : List Bool) (cs : List Value), Reps P 1 xs cs → cs = xs.map Value.bool := by
  intro xs cs h
  apply List.ext_getElem?
  intro j
  rw [List.getElem?_map]
  have hl : cs.length = xs.length := by have := h.1; omega
  cases hx : xs[j]? with
  | none =>
    have := List.getElem?_eq_none_iff.1 hx
    exact List.getElem?_eq_none (by omega)
  | some b =>
    have h2 := hP _ _ (h.2 j b hx)
    have hj := (List.getElem?_eq_some_iff.1 hx).1
    rw [Nat.mul_one] at h2
    have h3 : cs[j]? = some (.bool b) := by
      have := congrArg (·[0]?) h2
      simp only [List.getElem?_take, List.getElem?_drop] at this
      simpa using this
    rw [h3]
    rfl
/-- What is told, a list of truths of one's own. -/
theorem on_row {W w w' : World} {rs : List Res} (M : Sep W w rs) {v : Value} {xs : List Bool} (h : Kd.R Kd.bool 4 w' w.heap.size (fun _ => True) v xs) (hb : Below w.heap.size w w') : Sep W w' (rowR 4 1 v xs.length (xs.map Value.bool) :: rs) := by
  obtain ⟨_, inner, ho, hr⟩ := h
  have e := reps_bool _ (fun b cs h => h) xs inner hr
  subst e
  exact M.fresh (f := fun k => w.heap.size ≤ k) ⟨hb.os, hb.tape, hb.output, hb.size, fun k hk _ => hb.block k hk⟩ ⟨owns_zero ho, fun k hk => own_base ho k hk⟩ (fun _ hk => hk)
/-- reached, called with valid nodes. -/
theorem reached_calls {W w : World} {rs : List Res} {A : Option Addr} {c : Nat} {l : List Nd} (M : Sep W w rs) (hN : NodesC A l w) (h0 : 0 < l.length) (hl : l.length ≤ 4194304) (hv : Valid l) (he : (l.map (·.2.length)).sum ≤ 4194304) (hc : l.length ≤ c) :
    Calls Try.prog 35 #[.slice A l.length c] w fun e w' => ∃ v0, e = .returned (.tuple #[v0, .bool true]) ∧ Sep W w' (rowR 4 1 v0 l.length ((onT l).map Value.bool) :: rs) := by
  obtain ⟨k, hk⟩ := reached_f l h0 hl hv he
  have h := fold_reached.calls k A c (l.map toS) (onT l) true w (nodes_27 hN) (by simpa using hc) hk
  rw [List.length_map] at h
  refine h.mono ?_
  rintro e w' ⟨v0, rfl, hr, hb⟩
  refine ⟨v0, rfl, ?_⟩
  have := on_row M hr hb
  rw [on_len] at this
  exact this

/-! ### the mandatory hypotheses -/
/-- The labels of hypotheses (four cells each). -/
def MandC (A : Option Addr) (ms : List ByteArray) (w : World) : Prop := ∀ i (hi : i < ms.length), ∃ (ad : Addr) (b : Bool) (n : Int) (Ae : Option Addr) (k c : Nat), A = some ad ∧
  w.cell? (ad.add (i * 4)) = some (.string ms[i]) ∧ w.cell? ⟨(ad.add (i * 4)).block, (ad.add (i * 4)).off + 1, none⟩ = some (.bool b) ∧ w.cell? ⟨(ad.add (i * 4)).block, (ad.add (i * 4)).off + 2, none⟩ = some (.int .i64 n) ∧ w.cell? ⟨(ad.add (i * 4)).block, (ad.add (i * 4)).off + 3, none⟩ = some (.slice Ae k c)
theorem mand_nil (A : Option Addr) (w : World) : MandC A [] w := fun i hi => absurd hi (Nat.not_lt_zero _)
theorem build62 (b n : Nat) (w : World) : (Instr.build 62 #[(1, .map (some b)), (3, .int .i64 (n : Int))]).run Try.prog w = .ok (.agg #[.slice none 0 0, .map (some b), .slice none 0 0, .int .i64 (n : Int), .int .i64 0, .slice none 0 0]) w := by kernel_rfl

/-! ### orders -/
theorem pull7 {W w : World} {a b c d e f g x : Res} {rs : List Res} (h : Sep W w (a :: b :: c :: d :: e :: f :: g :: x :: rs)) : Sep W w (x :: a :: b :: c :: d :: e :: f :: g :: rs) := h.pull 7 (by simp)
theorem to_gather {W w : World} {a b c d e f : Res} {rs : List Res} (h : Sep W w (a :: b :: c :: d :: e :: f :: rs)) : Sep W w (e :: c :: a :: b :: d :: f :: rs) := by
  have h1 : Sep W w (c :: a :: b :: d :: e :: f :: rs) := h.pull 2 (by simp)
  exact h1.pull 4 (by simp)
theorem to_name {W w : World} {s n o p r k m q d : Res} {rs : List Res} (h : Sep W w (s :: n :: o :: p :: r :: k :: m :: q :: d :: rs)) : Sep W w (p :: r :: k :: m :: rowR 9 1 (.slice none 0 0) 0 [] :: s :: n :: o :: q :: d :: rs) :=
  pull7 (pull7 (pull7 (pull7 (row_nil h 9 1))))
theorem sink5 {W w : World} {a b c d e x : Res} {rs : List Res} (h : Sep W w (x :: a :: b :: c :: d :: e :: rs)) : Sep W w (a :: b :: c :: d :: e :: x :: rs) :=
  h.perm ((List.perm_middle (l₁ := [a, b, c, d, e]) (l₂ := rs)).symm)
theorem withNums_same : ∀ (items : List PartM), (∀ q ∈ items, q.number = -1) → withNums items (List.replicate items.length (-1)) = items := by
  intro items h
  induction items with
  | nil => rfl
  | cons q l ih =>
    have hq := h q (by simp)
    have := ih (fun r hr => h r (by simp [hr]))
    unfold withNums at this ⊢
    simp only [List.length_cons, List.replicate_succ, List.zipWith_cons_cons, this]
    obtain ⟨pt, nm, A, c⟩ := q
    simp only at hq
    subst hq
    rfl
theorem wok_start (n : Nat) : WOk ⟨List.replicate n (-1), 0, []⟩ := ⟨by simp, fun x hx => by
  have := List.eq_of_mem_replicate hx
  subst this
  simp⟩
theorem names_of {ms : List ByteArray} {l : List Nd} {items : List PartM} (h : partsOf items = partsL l) : namesL ms l = nameT (partsOf items) ms.length (rootN l + 1) (rootN l) ⟨List.replicate items.length false, ix ms, []⟩ := by
  unfold namesL names0
  rw [← h]
  simp [partsOf]
theorem codes_of {ms : List ByteArray} {l : List Nd} {items : List PartM} (h : partsOf items = partsL l) : codesL ms l = writeT (partsOf items) (atN (namesL ms l).at_) (ms.length + (namesL ms l).labels.length) (rootN l + 1) (rootN l) ⟨List.replicate items.length (-1), 0, []⟩ := by
  unfold codesL codes0
  rw [← h]
  simp [partsOf]
  rfl
theorem part_in {l : List Nd} {items : List PartM} (h : partsOf items = partsL l) {i : Nat} {q : PartM} (hq : items[i]? = some q) : (partsL l)[i]? = some q.part := by
  rw [← h]
  simp [partsOf, hq]
theorem part_mem {l : List Nd} {items : List PartM} (h : partsOf items = partsL l) {q : PartM} (hq : q ∈ items) : q.part ∈ partsL l := by
  rw [← h]
  exact List.mem_map_of_mem hq
end Go.Proofs.Ytkonloadedbpkaa.NodesMem

namespace Go.Proofs.Ytkonloadedbpkaa.NodesW
open Go.RowKit Go.Maps Go.Proofs.Ytkonloadedbpkaa.Sep Go.Proofs.Ytkonloadedbpkaa.FMaps Go.Proofs.Ytkonloadedbpkaa.FoldPure Go.Proofs.Ytkonloadedbpkaa.FoldMem Go.Proofs.Ytkonloadedbpkaa.FoldRun Go.Proofs.Ytkonloadedbpkaa.Reached Go.Proofs.Ytkonloadedbpkaa.NodesPure Go.Proofs.Ytkonloadedbpkaa.NameW Go.Proofs.Ytkonloadedbpkaa.WriteW Go.Proofs.Ytkonloadedbpkaa.NodesMem Go.Proofs.Ytkonloadedbpkaa.Gather
open Go.Proofs.YtkonloadedbpkaaW.PrintWords
open Go.Proofs.YtkonloadedbpkaaW.PrintLast
set_option linter.unusedVariables false
set_option linter.unusedSimpArgs false

/-- What Nodes answers, and what then lies in memory. -/
def NodesOut (W : World) (A mA : Option Addr) (l : List Nd) (ms : List ByteArray) (rs : List Res) (e : Ending) (w' : World) : Prop :=
  if 4000 < (codesL ms l).codes.length then e = .returned (.tuple #[.slice none 0 0, .slice none 0 0, .int .i64 104]) ∧ Sep W w' (readR W (NodesC A l) :: readR W (MandC mA ms) :: rs)
  else ∃ lv cv, e = .returned (.tuple #[lv, cv, .int .i64 0]) ∧ Sep W w' (rowR 9 1 lv (namesL ms l).labels.length ((namesL ms l).labels.map Value.string) :: rowR 3 1 cv (codesL ms l).codes.length ((codesL ms l).codes.map num) :: readR W (NodesC A l) :: readR W (MandC mA ms) :: rs)
theorem left2 {W w : World} {a b c d e f g n o q m : Res} {rs : List Res} (M : Sep W w (a :: b :: c :: d :: e :: f :: g :: n :: o :: q :: m :: rs)) : Sep W w (n :: m :: rs) := by
  have h1 : Sep W w (n :: o :: q :: m :: rs) := M.tail.tail.tail.tail.tail.tail.tail
  exact h1.swap.tail.swap.tail
theorem left4 {W w : World} {a b c d e f g n o q m : Res} {rs : List Res} (M : Sep W w (a :: b :: c :: d :: e :: f :: g :: n :: o :: q :: m :: rs)) : Sep W w (e :: f :: n :: m :: rs) := by
  have h1 : Sep W w (e :: f :: g :: n :: o :: q :: m :: rs) := M.tail.tail.tail.tail
  have h2 : Sep W w (g :: e :: f :: n :: o :: q :: m :: rs) := h1.pull 2 (by simp)
  have h3 : Sep W w (o :: e :: f :: n :: q :: m :: rs) := h2.tail.pull 3 (by simp)
  have h4 : Sep W w (q :: e :: f :: n :: m :: rs) := h3.tail.pull 3 (by simp)
  exact h4.tail

set_option maxHeartbeats 4000000 in
set_option maxRecDepth 100000 in
theorem nodes_calls {W w : World} {rs : List Res} {A mA : Option Addr} {c mc : Nat} {l : List Nd} {ms : List ByteArray} {v0 v1 v3 v4 : Value}
    (hM : Sep W w (readR W (NodesC A l) :: readR W (MandC mA ms) :: rs)) (h0 : 0 < l.length) (hl : l.length ≤ 4194304) (hv : Valid l) (he : (l.map (·.2.length)).sum ≤ 4194304) (hlab : ∀ x ∈ l, x.1.size ≤ maxLen) (hc : l.length ≤ c)
    (hms : ms.length ≤ 4194304) (hml : ∀ s ∈ ms, s.size ≤ maxLen) (hF : Fine ms l) :
    Calls Try.prog 11 #[.agg #[v0, v1, .slice mA ms.length mc, v3, v4], .slice A l.length c] w fun e w' =>
      NodesOut W A mA l ms rs e w' := by
  have M := Aside0.mk (box_fresh hM 35 #[v0, v1, .slice mA ms.length mc, v3, v4])
  have HV := Aside0.mk hv
  have HLab := Aside0.mk hlab
  have HE := Aside0.mk he
  have HMl := Aside0.mk hml
  have HF := Aside0.mk hF
  clear hM hv hlab he hml hF
  have hmm := @run_makeMap Try.prog
  go_enter Try.func11, Try.ntmps11
  go_wp2_with fail
  refine (reached_calls M.out (read_at (M.out.pull 1 (by simp))) h0 hl HV.out HE.out hc).mono ?_
  rintro e w1 ⟨ov, rfl, hm1⟩
  clear M
  have M := Aside0.mk hm1
  clear hm1
  obtain ⟨bo, co, rfl, hco, _⟩ := row_some M.out.row h0
  have q2 : w1.cell? ⟨w.heap.size, 2, none⟩ = some (.slice mA ms.length mc) := (box_cell (M.out.pull 1 (by simp)) (j := 2) rfl).1
  have l2 := World.block_lt_of_cell? _ _ q2
  have hbd := build62 w1.heap.size ms.length
  go_wp2_with fail
  go_loopw [31] (fun v31 wr => ∃ (i g cnt : Nat), i ≤ ms.length ∧ v31 = .int .i64 i ∧ g ≤ i ∧
    Aside0 (Sep W wr (boxR (w1.heap.size + 1) 62 #[.slice none 0 0, .map (some w1.heap.size), .slice none 0 0, .int .i64 (ms.length : Int), .int .i64 0, .slice none 0 0] :: mapR mS w1.heap.size g cnt (ix (ms.take i)) :: rowR 4 1 (.slice (some ⟨bo, 0, none⟩) l.length co) l.length ((onT l).map Value.bool) :: boxR w.heap.size 35 #[v0, v1, .slice mA ms.length mc, v3, v4] :: readR W (NodesC A l) :: readR W (MandC mA ms) :: rs))) (fun v31 _ => ms.length - (intOf v31).toNat)
  case atStart =>
    have e1 : (w1.alloc (Obj.map #[] 0)).heap.size = w1.heap.size + 1 := by simp
    have hm := box_fresh (map_fresh M.out mS) 62 #[.slice none 0 0, .map (some w1.heap.size), .slice none 0 0, .int .i64 (ms.length : Int), .int .i64 0, .slice none 0 0]
    rw [e1] at hm
    exact ⟨0, 0, 0, by omega, rfl, by omega, ⟨hm⟩⟩
  case round =>
    clear M q2 l2 hbd
    obtain ⟨i, g, cnt, hi, rfl, hg, M⟩ := hrel
    by_cases hlt : i < ms.length
    · obtain ⟨ad, hb, hn, Ae, hk, hce, rfl, x0, x1, x2, x3⟩ := read_at (M.out.pull 5 (by simp)) i hlt
      have p1 : wr.cell? ⟨w1.heap.size + 1, 1, none⟩ = some (.map (some w1.heap.size)) := (box_cell M.out (j := 1) rfl).1
      have l1 := World.block_lt_of_cell? _ _ p1
      have hsz := HMl.out ms[i] (List.getElem_mem hlt)
      replace M := Aside0.mk (box_fresh M.out 42 #[.string ms[i], .bool hb, .int .i64 hn, .slice Ae hk hce])
      have hlook := fun n => (map_at ((M.out.pull 2 (by simp)).drawn (w' := (wr.alloc (.cells #[.string ms[i], .bool hb, .int .i64 hn, .slice Ae hk hce] 42)).drewN n) ⟨n, rfl⟩)).look (m := mS) (s := ms[i]) hsz
      have hstep : ms.take (i + 1) = ms.take i ++ [ms[i]] := List.take_succ_eq_append_getElem hlt
      have Hstep := Aside0.mk hstep
      clear hstep
      have Hmem := Aside0.mk (show ms[i] ∈ ms from List.getElem_mem hlt)
      cases hix : ix (ms.take i) ms[i] with
      | some m =>
        rw [hix] at hlook
        generalize hsi : ms[i] = si at x0 hsz M hlook Hstep hix
        replace hlook : ∀ n, (Instr.lookup 59 (.map (some w1.heap.size)) (.string si) true).run Try.prog ((wr.alloc (.cells #[.string si, .bool hb, .int .i64 hn, .slice Ae hk hce] 42)).drewN n) = .ok (.tuple #[.int .i64 (m : Int), .bool true]) ((wr.alloc (.cells #[.string si, .bool hb, .int .i64 hn, .slice Ae hk hce] 42)).drewN n) := hlook
        have Hix := Aside0.mk hix
        clear hix
        go_wp2_with fail
        go_quiet (fail)
        go_wp2_with fail
        go_roundw
        case rel =>
          have hix2 : ix (ms.take (i + 1)) = ix (ms.take i) := by
            rw [Hstep.out]
            exact ix_more (List.mem_of_getElem? (ix_some Hix.out))
          exact ⟨i + 1, g, cnt, by omega, by go_num, by omega, ⟨by rw [hix2]; exact M.out.tail.drawn ⟨_, rfl⟩⟩⟩
        case measure => simp [intOf]; omega
      | none =>
        rw [hix] at hlook
        generalize hsi : ms[i] = si at x0 hsz M hlook Hstep hix
        replace hlook : ∀ n, (Instr.lookup 59 (.map (some w1.heap.size)) (.string si) true).run Try.prog ((wr.alloc (.cells #[.string si, .bool hb, .int .i64 hn, .slice Ae hk hce] 42)).drewN n) = .ok (.tuple #[.int .i64 0, .bool false]) ((wr.alloc (.cells #[.string si, .bool hb, .int .i64 hn, .slice Ae hk hce] 42)).drewN n) := hlook
        have Hix := Aside0.mk hix
        clear hix
        go_wp2_with fail
        go_quiet (fail)
        clear hlook
        have M2 := M.out.drawn (w' := (wr.alloc (.cells #[.string si, .bool hb, .int .i64 hn, .slice Ae hk hce] 42)).drewN nq) ⟨nq, rfl⟩
        generalize (wr.alloc (.cells #[.string si, .bool hb, .int .i64 hn, .slice Ae hk hce] 42)).drewN nq = w2 at M2 ⊢
        clear M p1 x0 x1 x2 x3
        have M := Aside0.mk M2
        clear M2
        have p1 : w2.cell? ⟨w1.heap.size + 1, 1, none⟩ = some (.map (some w1.heap.size)) := (box_cell (M.out.pull 1 (by simp)) (j := 1) rfl).1
        have c0 : w2.cell? ⟨wr.heap.size, 0, none⟩ = some (.string si) := (box_cell M.out (j := 0) rfl).1
        go_wp2_with fail
        go_still_tail 7, (by kernel_rfl)
        change wpList _ _ _ _ _ w2.drew
        have M3 := M.out.drawn (w' := w2.drew) ⟨1, rfl⟩
        refine wp_store (m := mS) (s := si) (v := i) rfl _ _ _ rfl rfl rfl rfl (map_at (M3.pull 2 (by simp))) hsz Hix.out (by unfold maxLen; omega) (by omega) ?_
        intro w4 hm4 hg4
        have hM4 := at_ M3 2 (by simp) (fun rs h => map_turn h hm4 hg4)
        clear M M3 hm4 hg4 p1 c0
        have M := Aside0.mk hM4
        clear hM4
        go_wp2_with fail
        go_roundw
        case rel =>
          have hix2 : ix (ms.take (i + 1)) = upd (ix (ms.take i)) si i := by
            rw [Hstep.out]
            funext t
            rw [ix_snoc (ix_none.1 Hix.out), List.length_take, Nat.min_eq_left (by omega)]
            rfl
          exact ⟨i + 1, g + 1, cnt + 1, by omega, by go_num, by omega, ⟨by rw [hix2]; exact M.out.tail⟩⟩
        case measure => simp [intOf]; omega
    · have hie : i = ms.length := by omega
      subst hie
      rw [List.take_length] at M
      go_wp2_with fail
      refine (gather_calls (rs := mapR mS w1.heap.size g cnt (ix ms) :: boxR w.heap.size 35 #[v0, v1, .slice mA ms.length mc, v3, v4] :: readR W (MandC mA ms) :: rs) (to_gather M.out) h0 hl HV.out (on_len l) HE.out HLab.out).mono ?_
      rintro e w5 ⟨pv, items, rfl, hpt, hnum, hm5⟩
      clear M
      replace hpt : partsOf items = partsL l := hpt
      have hroot := HF.out.root
      have hil : items.length = (partsL l).length := by rw [← hpt]; simp [partsOf]
      have hfew := HF.out.few
      rw [← hil] at hroot hfew
      clear hil
      obtain ⟨gp, cp, rfl, hcp, _⟩ := row_some (hm5.pull 3 (by simp)).row (by omega)
      have M := Aside0.mk hm5
      clear hm5
      have q0 : w5.cell? ⟨w1.heap.size + 1, 0, none⟩ = some (.slice (some ⟨gp, 0, none⟩) items.length cp) := (box_cell (M.out.pull 2 (by simp)) (j := 0) rfl).1
      have HR := Aside0.mk (show (gatherTo l (onT l) l.length).2.getD (l.length - 1) 0 = rootN l from rfl)
      generalize (gatherTo l (onT l) l.length).2.getD (l.length - 1) 0 = root at HR ⊢
      rw [← HR.out] at hroot
      go_wp2_with (first
        | (at_make; refine wp_make M.out rfl _ _ 55 4 rfl Try.underlying55 info4 rfl rfl rfl (by omega) (by omega) ?_; intro w6 hm6; clear M q0; have M := Aside0.mk hm6; clear hm6))
      have hstrict : Strict items := fun i q hq => HF.out.strict i _ (part_in hpt hq)
      have hlabs : ∀ q ∈ items, q.part.label.size ≤ maxLen := fun q hq => HF.out.labs _ (part_mem hpt hq)
      have hkids : ∀ q ∈ items, q.part.kids.length ≤ 4194304 := fun q hq => HF.out.kids _ (part_mem hpt hq)
      have hNa := names_of (ms := ms) hpt
      have hCo := codes_of (ms := ms) hpt
      rw [← HR.out] at hNa hCo
      have hfn := HF.out.names
      have hfc := HF.out.codes
      have HStrict := Aside0.mk hstrict
      have HLabs := Aside0.mk hlabs
      have HKids := Aside0.mk hkids
      have HCo := Aside0.mk hCo
      have HNa := Aside0.mk hNa
      have HFc := Aside0.mk hfc
      have HFn := Aside0.mk hfn
      have HNum := Aside0.mk hnum
      clear hstrict hlabs hkids hNa hCo hfn hfc HF hpt hnum
      have hM7 : Sep W w6 (NameL (w1.heap.size + 1) w1.heap.size (.slice (some ⟨gp, 0, none⟩) items.length cp) (.slice none 0 0) ms.length 0 (.slice none 0 0) items g cnt (.slice (some ⟨w5.heap.size, 0, none⟩) items.length items.length) ⟨List.replicate items.length false, ix ms, []⟩
          (readR W (NodesC A l) :: rowR 4 1 (.slice (some ⟨bo, 0, none⟩) l.length co) l.length ((onT l).map Value.bool) :: boxR w.heap.size 35 #[v0, v1, .slice mA ms.length mc, v3, v4] :: readR W (MandC mA ms) :: rs)) := by
        simp only [NameL, List.length_replicate, List.map_replicate, List.length_nil, List.map_nil]
        exact to_name M.out
      clear M
      refine (name_calls HStrict.out HLabs.out HKids.out hfew hms (root + 1) root w6 (.slice none 0 0) g cnt ⟨List.replicate items.length false, ix ms, []⟩ (by omega) hroot (by simp) (by rw [← HNa.out]; exact HFn.out) (by simp; exact hg) hM7).mono ?_
      clear hM7
      rintro e w7 ⟨rfl, lv, g2, cnt2, hg2, hm7⟩
      rw [← HNa.out] at hm7 hg2
      have hlv := HFn.out
      obtain ⟨nl, hnl⟩ : ∃ nl, nl = namesL ms l := ⟨_, rfl⟩
      have hCo := HCo.out
      rw [← hnl] at hm7 hg2 hlv hCo
      clear HCo
      have HCo := Aside0.mk hCo
      have HNl := Aside0.mk hnl
      clear hnl hCo
      have HM7 := Aside0.mk hm7
      clear hm7
      go_wp2_with fail
      have hM8 : Sep W w7 (WriteL (w1.heap.size + 1) w1.heap.size (.slice (some ⟨gp, 0, none⟩) items.length cp) lv ms.length (.slice none 0 0) items nl.labels g2 cnt2 nl.at_ ⟨List.replicate items.length (-1), 0, []⟩
          (rowR 4 1 (.slice (some ⟨w5.heap.size, 0, none⟩) items.length items.length) nl.seen.length (nl.seen.map Value.bool) :: readR W (NodesC A l) :: rowR 4 1 (.slice (some ⟨bo, 0, none⟩) l.length co) l.length ((onT l).map Value.bool) :: boxR w.heap.size 35 #[v0, v1, .slice mA ms.length mc, v3, v4] :: readR W (MandC mA ms) :: rs)) := by
        simp only [WriteL, withNums_same items HNum.out, List.length_nil, List.map_nil]
        exact sink5 (row_nil HM7.out 3 1)
      clear HM7
      refine (write_calls HStrict.out HLabs.out HKids.out hfew hms hlv (root + 1) root w7 (.slice none 0 0) ⟨List.replicate items.length (-1), 0, []⟩ (by omega) hroot (by simp) (wok_start _) (by rw [← HCo.out]; exact HFc.out) hM8).mono ?_
      clear hM8
      rintro e w8 ⟨rfl, cv, hm8⟩
      rw [← HCo.out] at hm8
      have hcl := HFc.out
      obtain ⟨cl, hcl2⟩ : ∃ cl, cl = codesL ms l := ⟨_, rfl⟩
      rw [← hcl2] at hm8 hcl
      have HCl := Aside0.mk hcl2
      clear hcl2
      obtain ⟨Ac, cc, rfl, hcc⟩ := row_slice (hm8.pull 5 (by simp)).row
      have M := Aside0.mk hm8
      clear hm8
      obtain ⟨p5, _⟩ : w8.cell? ⟨w1.heap.size + 1, 5, none⟩ = some (.slice Ac cl.codes.length cc) ∧ _ := box_cell M.out (j := 5) rfl
      obtain ⟨p2, _⟩ : w8.cell? ⟨w1.heap.size + 1, 2, none⟩ = some lv ∧ _ := box_cell M.out (j := 2) rfl
      by_cases hbig : 4000 < cl.codes.length
      · have hb : decide ((4000 : Int) < (cl.codes.length : Int)) = true := decide_eq_true (by omega)
        have hb2 : (4000 : Int) < (cl.codes.length : Int) := by omega
        go_wp2_with fail
        go_ret3
        unfold NodesOut
        rw [if_pos (by rw [← HCl.out]; exact hbig)]
        exact ⟨rfl, left2 M.out⟩
      · have hb : decide ((4000 : Int) < (cl.codes.length : Int)) = false := decide_eq_false (by omega)
        have hb2 : ¬ (4000 : Int) < (cl.codes.length : Int) := by omega
        go_wp2_with fail
        go_quiet (fail)
        go_wp2_with fail
        go_ret3
        unfold NodesOut
        rw [if_neg (by rw [← HCl.out]; exact hbig)]
        exact ⟨_, _, rfl, by rw [← HCl.out, ← HNl.out]; exact (left4 M.out).drawn ⟨_, rfl⟩⟩
end Go.Proofs.Ytkonloadedbpkaa.NodesW
