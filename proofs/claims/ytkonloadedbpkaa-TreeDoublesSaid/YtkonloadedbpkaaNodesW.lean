/- Nodes walked. -/
import Derived.Test.YtkonloadedbpkaaNodesMem
import Derived.BigQuiet
import Derived.OwnWalk
namespace Go.Proofs.Ytkonloadedbpkaa.NodesW
open Go.RowKit Go.Maps Go.Proofs.Ytkonloadedbpkaa.Sep Go.Proofs.Ytkonloadedbpkaa.FMaps Go.Proofs.Ytkonloadedbpkaa.FoldPure Go.Proofs.Ytkonloadedbpkaa.FoldMem Go.Proofs.Ytkonloadedbpkaa.FoldRun Go.Proofs.Ytkonloadedbpkaa.Reached Go.Proofs.Ytkonloadedbpkaa.NodesPure Go.Proofs.Ytkonloadedbpkaa.NameW Go.Proofs.Ytkonloadedbpkaa.WriteW Go.Proofs.Ytkonloadedbpkaa.NodesMem Go.Proofs.Ytkonloadedbpkaa.Gather
open Go.Proofs.YtkonloadedbpkaaW.PrintWords
open Go.Proofs.YtkonloadedbpkaaW.PrintLast
set_option linter.unusedVariables false
set_option linter.unusedSimpArgs false

/-- What Nodes answers, and what then lies in memory. -/
def NodesOut (W : World) (A mA : Option Addr) (l : List Nd) (ms : List ByteArray) (rs : List Res) (e : Ending) (w' : World) : Prop :=
  if 4000 < (codesL ms l).codes.length then e = .returned (.tuple #[.slice none 0 0, .slice none 0 0, .int .i64 104]) ∧ Sep W w' (readR W (NodesC A l) :: readR W (MandC mA ms) :: rs)
  else ∃ lv cv, e = .returned (.tuple #[lv, cv, .int .i64 0]) ∧ Sep W w' (rowR 9 1 lv (namesL ms l).labels.length ((namesL ms l).labels.map Value.string) :: rowR 3 1 cv (codesL ms l).codes.length ((codesL ms l).codes.map num) :: readR W (NodesC A l) :: readR W (MandC mA ms) :: rs)
theorem left2 {W w : World} {a b c d e f g n o q m : Res} {rs : List Res} (M : Sep W w (a :: b :: c :: d :: e :: f :: g :: n :: o :: q :: m :: rs)) : Sep W w (n :: m :: rs) := by
  have h1 : Sep W w (n :: o :: q :: m :: rs) := M.tail.tail.tail.tail.tail.tail.tail
  exact h1.swap.tail.swap.tail
theorem left4 {W w : World} {a b c d e f g n o q m : Res} {rs : List Res} (M : Sep W w (a :: b :: c :: d :: e :: f :: g :: n :: o :: q :: m :: rs)) : Sep W w (e :: f :: n :: m :: rs) := by
  have h1 : Sep W w (e :: f :: g :: n :: o :: q :: m :: rs) := M.tail.tail.tail.tail
  have h2 : Sep W w (g :: e :: f :: n :: o :: q :: m :: rs) := h1.pull 2 (by simp)
  have h3 : Sep W w (o :: e :: f :: n :: q :: m :: rs) := h2.tail.pull 3 (by simp)
  have h4 : Sep W w (q :: e :: f :: n :: m :: rs) := h3.tail.pull 3 (by simp)
  exact h4.tail

set_option maxHeartbeats 4000000 in
set_option maxRecDepth 100000 in
theorem nodes_calls {W w : World} {rs : List Res} {A mA : Option Addr} {c mc : Nat} {l : List Nd} {ms : List ByteArray} {v0 v1 v3 v4 : Value}
    (hM : Sep W w (readR W (NodesC A l) :: readR W (MandC mA ms) :: rs)) (h0 : 0 < l.length) (hl : l.length ≤ 4194304) (hv : Valid l) (he : (l.map (·.2.length)).sum ≤ 4194304) (hlab : ∀ x ∈ l, x.1.size ≤ maxLen) (hc : l.length ≤ c)
    (hms : ms.length ≤ 4194304) (hml : ∀ s ∈ ms, s.size ≤ maxLen) (hF : Fine ms l) :
    Calls Try.prog 11 #[.agg #[v0, v1, .slice mA ms.length mc, v3, v4], .slice A l.length c] w fun e w' =>
      NodesOut W A mA l ms rs e w' := by
  have M := Aside0.mk (box_fresh hM 35 #[v0, v1, .slice mA ms.length mc, v3, v4])
  have HV := Aside0.mk hv
  have HLab := Aside0.mk hlab
  have HE := Aside0.mk he
  have HMl := Aside0.mk hml
  have HF := Aside0.mk hF
  clear hM hv hlab he hml hF
  have hmm := @run_makeMap Try.prog
  go_enter Try.func11, Try.ntmps11
  go_wp2_with fail
  refine (reached_calls M.out (read_at (M.out.pull 1 (by simp))) h0 hl HV.out HE.out hc).mono ?_
  rintro e w1 ⟨ov, rfl, hm1⟩
  clear M
  have M := Aside0.mk hm1
  clear hm1
  obtain ⟨bo, co, rfl, hco, _⟩ := row_some M.out.row h0
  have q2 : w1.cell? ⟨w.heap.size, 2, none⟩ = some (.slice mA ms.length mc) := (box_cell (M.out.pull 1 (by simp)) (j := 2) rfl).1
  have l2 := World.block_lt_of_cell? _ _ q2
  have hbd := build62 w1.heap.size ms.length
  go_wp2_with fail
  go_loopw [31] (fun v31 wr => ∃ (i g cnt : Nat), i ≤ ms.length ∧ v31 = .int .i64 i ∧ g ≤ i ∧
    Aside0 (Sep W wr (boxR (w1.heap.size + 1) 62 #[.slice none 0 0, .map (some w1.heap.size), .slice none 0 0, .int .i64 (ms.length : Int), .int .i64 0, .slice none 0 0] :: mapR mS w1.heap.size g cnt (ix (ms.take i)) :: rowR 4 1 (.slice (some ⟨bo, 0, none⟩) l.length co) l.length ((onT l).map Value.bool) :: boxR w.heap.size 35 #[v0, v1, .slice mA ms.length mc, v3, v4] :: readR W (NodesC A l) :: readR W (MandC mA ms) :: rs))) (fun v31 _ => ms.length - (intOf v31).toNat)
  case atStart =>
    have e1 : (w1.alloc (Obj.map #[] 0)).heap.size = w1.heap.size + 1 := by simp
    have hm := box_fresh (map_fresh M.out mS) 62 #[.slice none 0 0, .map (some w1.heap.size), .slice none 0 0, .int .i64 (ms.length : Int), .int .i64 0, .slice none 0 0]
    rw [e1] at hm
    exact ⟨0, 0, 0, by omega, rfl, by omega, ⟨hm⟩⟩
  case round =>
    clear M q2 l2 hbd
    obtain ⟨i, g, cnt, hi, rfl, hg, M⟩ := hrel
    by_cases hlt : i < ms.length
    · obtain ⟨ad, hb, hn, Ae, hk, hce, rfl, x0, x1, x2, x3⟩ := read_at (M.out.pull 5 (by simp)) i hlt
      have p1 : wr.cell? ⟨w1.heap.size + 1, 1, none⟩ = some (.map (some w1.heap.size)) := (box_cell M.out (j := 1) rfl).1
      have l1 := World.block_lt_of_cell? _ _ p1
      have hsz := HMl.out ms[i] (List.getElem_mem hlt)
      replace M := Aside0.mk (box_fresh M.out 42 #[.string ms[i], .bool hb, .int .i64 hn, .slice Ae hk hce])
      have hlook := fun n => (map_at ((M.out.pull 2 (by simp)).drawn (w' := (wr.alloc (.cells #[.string ms[i], .bool hb, .int .i64 hn, .slice Ae hk hce] 42)).drewN n) ⟨n, rfl⟩)).look (m := mS) (s := ms[i]) hsz
      have hstep : ms.take (i + 1) = ms.take i ++ [ms[i]] := List.take_succ_eq_append_getElem hlt
      have Hstep := Aside0.mk hstep
      clear hstep
      have Hmem := Aside0.mk (show ms[i] ∈ ms from List.getElem_mem hlt)
      cases hix : ix (ms.take i) ms[i] with
      | some m =>
        rw [hix] at hlook
        generalize hsi : ms[i] = si at x0 hsz M hlook Hstep hix
        replace hlook : ∀ n, (Instr.lookup 59 (.map (some w1.heap.size)) (.string si) true).run Try.prog ((wr.alloc (.cells #[.string si, .bool hb, .int .i64 hn, .slice Ae hk hce] 42)).drewN n) = .ok (.tuple #[.int .i64 (m : Int), .bool true]) ((wr.alloc (.cells #[.string si, .bool hb, .int .i64 hn, .slice Ae hk hce] 42)).drewN n) := hlook
        have Hix := Aside0.mk hix
        clear hix
        go_wp2_with fail
        go_quiet (fail)
        go_wp2_with fail
        go_roundw
        case rel =>
          have hix2 : ix (ms.take (i + 1)) = ix (ms.take i) := by
            rw [Hstep.out]
            exact ix_more (List.mem_of_getElem? (ix_some Hix.out))
          exact ⟨i + 1, g, cnt, by omega, by go_num, by omega, ⟨by rw [hix2]; exact M.out.tail.drawn ⟨_, rfl⟩⟩⟩
        case measure => simp [intOf]; omega
      | none =>
        rw [hix] at hlook
        generalize hsi : ms[i] = si at x0 hsz M hlook Hstep hix
        replace hlook : ∀ n, (Instr.lookup 59 (.map (some w1.heap.size)) (.string si) true).run Try.prog ((wr.alloc (.cells #[.string si, .bool hb, .int .i64 hn, .slice Ae hk hce] 42)).drewN n) = .ok (.tuple #[.int .i64 0, .bool false]) ((wr.alloc (.cells #[.string si, .bool hb, .int .i64 hn, .slice Ae hk hce] 42)).drewN n) := hlook
        have Hix := Aside0.mk hix
        clear hix
        go_wp2_with fail
        go_quiet (fail)
        clear hlook
        have M2 := M.out.drawn (w' := (wr.alloc (.cells #[.string si, .bool hb, .int .i64 hn, .slice Ae hk hce] 42)).drewN nq) ⟨nq, rfl⟩
        generalize (wr.alloc (.cells #[.string si, .bool hb, .int .i64 hn, .slice Ae hk hce] 42)).drewN nq = w2 at M2 ⊢
        clear M p1 x0 x1 x2 x3
        have M := Aside0.mk M2
        clear M2
        have p1 : w2.cell? ⟨w1.heap.size + 1, 1, none⟩ = some (.map (some w1.heap.size)) := (box_cell (M.out.pull 1 (by simp)) (j := 1) rfl).1
        have c0 : w2.cell? ⟨wr.heap.size, 0, none⟩ = some (.string si) := (box_cell M.out (j := 0) rfl).1
        go_wp2_with fail
        go_still_tail 7, (by kernel_rfl)
        change wpList _ _ _ _ _ w2.drew
        have M3 := M.out.drawn (w' := w2.drew) ⟨1, rfl⟩
        refine wp_store (m := mS) (s := si) (v := i) rfl _ _ _ rfl rfl rfl rfl (map_at (M3.pull 2 (by simp))) hsz Hix.out (by unfold maxLen; omega) (by omega) ?_
        intro w4 hm4 hg4
        have hM4 := at_ M3 2 (by simp) (fun rs h => map_turn h hm4 hg4)
        clear M M3 hm4 hg4 p1 c0
        have M := Aside0.mk hM4
        clear hM4
        go_wp2_with fail
        go_roundw
        case rel =>
          have hix2 : ix (ms.take (i + 1)) = upd (ix (ms.take i)) si i := by
            rw [Hstep.out]
            funext t
            rw [ix_snoc (ix_none.1 Hix.out), List.length_take, Nat.min_eq_left (by omega)]
            rfl
          exact ⟨i + 1, g + 1, cnt + 1, by omega, by go_num, by omega, ⟨by rw [hix2]; exact M.out.tail⟩⟩
        case measure => simp [intOf]; omega
    · have hie : i = ms.length := by omega
      subst hie
      rw [List.take_length] at M
      go_wp2_with fail
      refine (gather_calls (rs := mapR mS w1.heap.size g cnt (ix ms) :: boxR w.heap.size 35 #[v0, v1, .slice mA ms.length mc, v3, v4] :: readR W (MandC mA ms) :: rs) (to_gather M.out) h0 hl HV.out (on_len l) HE.out HLab.out).mono ?_
      rintro e w5 ⟨pv, items, rfl, hpt, hnum, hm5⟩
      clear M
      replace hpt : partsOf items = partsL l := hpt
      have hroot := HF.out.root
      have hil : items.length = (partsL l).length := by rw [← hpt]; simp [partsOf]
      have hfew := HF.out.few
      rw [← hil] at hroot hfew
      clear hil
      obtain ⟨gp, cp, rfl, hcp, _⟩ := row_some (hm5.pull 3 (by simp)).row (by omega)
      have M := Aside0.mk hm5
      clear hm5
      have q0 : w5.cell? ⟨w1.heap.size + 1, 0, none⟩ = some (.slice (some ⟨gp, 0, none⟩) items.length cp) := (box_cell (M.out.pull 2 (by simp)) (j := 0) rfl).1
      have HR := Aside0.mk (show (gatherTo l (onT l) l.length).2.getD (l.length - 1) 0 = rootN l from rfl)
      generalize (gatherTo l (onT l) l.length).2.getD (l.length - 1) 0 = root at HR ⊢
      rw [← HR.out] at hroot
      go_wp2_with (first
        | (at_make; refine wp_make M.out rfl _ _ 55 4 rfl Try.underlying55 info4 rfl rfl rfl (by omega) (by omega) ?_; intro w6 hm6; clear M q0; have M := Aside0.mk hm6; clear hm6))
      have hstrict : Strict items := fun i q hq => HF.out.strict i _ (part_in hpt hq)
      have hlabs : ∀ q ∈ items, q.part.label.size ≤ maxLen := fun q hq => HF.out.labs _ (part_mem hpt hq)
      have hkids : ∀ q ∈ items, q.part.kids.length ≤ 4194304 := fun q hq => HF.out.kids _ (part_mem hpt hq)
      have hNa := names_of (ms := ms) hpt
      have hCo := codes_of (ms := ms) hpt
      rw [← HR.out] at hNa hCo
      have hfn := HF.out.names
      have hfc := HF.out.codes
      have HStrict := Aside0.mk hstrict
      have HLabs := Aside0.mk hlabs
      have HKids := Aside0.mk hkids
      have HCo := Aside0.mk hCo
      have HNa := Aside0.mk hNa
      have HFc := Aside0.mk hfc
      have HFn := Aside0.mk hfn
      have HNum := Aside0.mk hnum
      clear hstrict hlabs hkids hNa hCo hfn hfc HF hpt hnum
      have hM7 : Sep W w6 (NameL (w1.heap.size + 1) w1.heap.size (.slice (some ⟨gp, 0, none⟩) items.length cp) (.slice none 0 0) ms.length 0 (.slice none 0 0) items g cnt (.slice (some ⟨w5.heap.size, 0, none⟩) items.length items.length) ⟨List.replicate items.length false, ix ms, []⟩
          (readR W (NodesC A l) :: rowR 4 1 (.slice (some ⟨bo, 0, none⟩) l.length co) l.length ((onT l).map Value.bool) :: boxR w.heap.size 35 #[v0, v1, .slice mA ms.length mc, v3, v4] :: readR W (MandC mA ms) :: rs)) := by
        simp only [NameL, List.length_replicate, List.map_replicate, List.length_nil, List.map_nil]
        exact to_name M.out
      clear M
      refine (name_calls HStrict.out HLabs.out HKids.out hfew hms (root + 1) root w6 (.slice none 0 0) g cnt ⟨List.replicate items.length false, ix ms, []⟩ (by omega) hroot (by simp) (by rw [← HNa.out]; exact HFn.out) (by simp; exact hg) hM7).mono ?_
      clear hM7
      rintro e w7 ⟨rfl, lv, g2, cnt2, hg2, hm7⟩
      rw [← HNa.out] at hm7 hg2
      have hlv := HFn.out
      obtain ⟨nl, hnl⟩ : ∃ nl, nl = namesL ms l := ⟨_, rfl⟩
      have hCo := HCo.out
      rw [← hnl] at hm7 hg2 hlv hCo
      clear HCo
      have HCo := Aside0.mk hCo
      have HNl := Aside0.mk hnl
      clear hnl hCo
      have HM7 := Aside0.mk hm7
      clear hm7
      go_wp2_with fail
      have hM8 : Sep W w7 (WriteL (w1.heap.size + 1) w1.heap.size (.slice (some ⟨gp, 0, none⟩) items.length cp) lv ms.length (.slice none 0 0) items nl.labels g2 cnt2 nl.at_ ⟨List.replicate items.length (-1), 0, []⟩
          (rowR 4 1 (.slice (some ⟨w5.heap.size, 0, none⟩) items.length items.length) nl.seen.length (nl.seen.map Value.bool) :: readR W (NodesC A l) :: rowR 4 1 (.slice (some ⟨bo, 0, none⟩) l.length co) l.length ((onT l).map Value.bool) :: boxR w.heap.size 35 #[v0, v1, .slice mA ms.length mc, v3, v4] :: readR W (MandC mA ms) :: rs)) := by
        simp only [WriteL, withNums_same items HNum.out, List.length_nil, List.map_nil]
        exact sink5 (row_nil HM7.out 3 1)
      clear HM7
      refine (write_calls HStrict.out HLabs.out HKids.out hfew hms hlv (root + 1) root w7 (.slice none 0 0) ⟨List.replicate items.length (-1), 0, []⟩ (by omega) hroot (by simp) (wok_start _) (by rw [← HCo.out]; exact HFc.out) hM8).mono ?_
      clear hM8
      rintro e w8 ⟨rfl, cv, hm8⟩
      rw [← HCo.out] at hm8
      have hcl := HFc.out
      obtain ⟨cl, hcl2⟩ : ∃ cl, cl = codesL ms l := ⟨_, rfl⟩
      rw [← hcl2] at hm8 hcl
      have HCl := Aside0.mk hcl2
      clear hcl2
      obtain ⟨Ac, cc, rfl, hcc⟩ := row_slice (hm8.pull 5 (by simp)).row
      have M := Aside0.mk hm8
      clear hm8
      obtain ⟨p5, _⟩ : w8.cell? ⟨w1.heap.size + 1, 5, none⟩ = some (.slice Ac cl.codes.length cc) ∧ _ := box_cell M.out (j := 5) rfl
      obtain ⟨p2, _⟩ : w8.cell? ⟨w1.heap.size + 1, 2, none⟩ = some lv ∧ _ := box_cell M.out (j := 2) rfl
      by_cases hbig : 4000 < cl.codes.length
      · have hb : decide ((4000 : Int) < (cl.codes.length : Int)) = true := decide_eq_true (by omega)
        have hb2 : (4000 : Int) < (cl.codes.length : Int) := by omega
        go_wp2_with fail
        go_ret3
        unfold NodesOut
        rw [if_pos (by rw [← HCl.out]; exact hbig)]
        exact ⟨rfl, left2 M.out⟩
      · have hb : decide ((4000 : Int) < (cl.codes.length : Int)) = false := decide_eq_false (by omega)
        have hb2 : ¬ (4000 : Int) < (cl.codes.length : Int) := by omega
        go_wp2_with fail
        go_quiet (fail)
        go_wp2_with fail
        go_ret3
        unfold NodesOut
        rw [if_neg (by rw [← HCl.out]; exact hbig)]
        exact ⟨_, _, rfl, by rw [← HCl.out, ← HNl.out]; exact (left4 M.out).drawn ⟨_, rfl⟩⟩
end Go.Proofs.Ytkonloadedbpkaa.NodesW
