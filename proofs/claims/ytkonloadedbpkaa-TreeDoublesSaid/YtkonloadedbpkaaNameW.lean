/- name walked: the labels' numbers. -/
import Derived.Test.YtkonloadedbpkaaFoldMem
import Derived.Test.YtkonloadedbpkaaFoldRun
import Derived.StillTailTactics
import Derived.IntWalk
namespace Go.Proofs.Ytkonloadedbpkaa.NameW
open Go.RowKit Go.Maps Go.Proofs.Ytkonloadedbpkaa.Sep Go.Proofs.Ytkonloadedbpkaa.FMaps Go.Proofs.Ytkonloadedbpkaa.FoldPure Go.Proofs.Ytkonloadedbpkaa.FoldMem Go.Proofs.Ytkonloadedbpkaa.FoldRun
open Go.Proofs.YtkonloadedbpkaaW.PrintWords
open Go.Proofs.YtkonloadedbpkaaW.PrintLast
set_option linter.unusedVariables false
set_option linter.unusedSimpArgs false

noncomputable abbrev NameL (p b : Nat) (pv lv : Value) (first saves : Nat) (cv : Value) (items : List PartM) (g n : Nat) (sv : Value) (s : NS) (rs : List Res) : List Res :=
  boxR p 62 #[pv, .map (some b), lv, .int .i64 (first : Int), .int .i64 (saves : Int), cv] :: rowR 91 4 pv items.length (partCells items) :: kidsR items :: mapR mS b g n s.at_ :: rowR 9 1 lv s.labels.length (s.labels.map Value.string) :: rowR 4 1 sv s.seen.length (s.seen.map Value.bool) :: rs
abbrev partsOf (items : List PartM) : List Part := items.map PartM.part
theorem partOf_of {items : List PartM} {n : Nat} (h : n < items.length) : partOf (partsOf items) n = items[n].part := by
  unfold partOf partsOf
  rw [List.getD_eq_getElem?_getD, List.getElem?_map, List.getElem?_eq_getElem h]
  rfl
/-- Each part's kids are earlier parts. -/
def Strict (items : List PartM) : Prop := ∀ (i : Nat) (q : PartM), items[i]? = some q → ∀ k ∈ q.part.kids, k < i
theorem upd_setF {κ : Type} [DecidableEq κ] (f : κ → Option Nat) (s : κ) (n : Nat) : upd f s n = setF f s n := rfl
theorem map_setB (xs : List Bool) (i : Nat) (b : Bool) : (xs.set i b).map Value.bool = (xs.map Value.bool).set i (.bool b) := by rw [List.map_set]

set_option maxHeartbeats 4000000 in
set_option maxRecDepth 100000 in
theorem name_calls {W : World} {rs : List Res} {p b bs cs first saves : Nat} {pv cv : Value} {items : List PartM} (hS : Strict items) (hlab : ∀ q ∈ items, q.part.label.size ≤ maxLen) (hkl : ∀ q ∈ items, q.part.kids.length ≤ 4194304) (hil : items.length ≤ 4194304) (hf : first ≤ 4194304) (k : Nat) :
    ∀ (n : Nat) (w : World) (lv : Value) (g cnt : Nat) (s : NS), n < k → n < items.length → s.seen.length = items.length → (nameT (partsOf items) first k n s).labels.length ≤ 4194304 → g ≤ first + s.labels.length →
      Sep W w (NameL p b pv lv first saves cv items g cnt (.slice (some ⟨bs, 0, none⟩) items.length cs) s rs) →
      Calls Try.prog 37 #[.pointer (some ⟨p, 0, none⟩), .int .i64 (n : Int), .slice (some ⟨bs, 0, none⟩) items.length cs] w fun e w' => e = .returned (.tuple #[]) ∧ ∃ lv' g' cnt', g' ≤ first + (nameT (partsOf items) first k n s).labels.length ∧
        Sep W w' (NameL p b pv lv' first saves cv items g' cnt' (.slice (some ⟨bs, 0, none⟩) items.length cs) (nameT (partsOf items) first k n s) rs) := by
  induction k with
  | zero => intro n w lv g cnt s h; omega
  | succ k ih =>
    intro n w lv g cnt s hnk hn hsl hfin hg hM
    have IH := Aside0.mk ih
    have M := Aside0.mk hM
    have HS := Aside0.mk hS
    have HLab := Aside0.mk hlab
    have HKl := Aside0.mk hkl
    obtain ⟨rs', hrow⟩ : ∃ rs', Sep W w (rowR 4 1 (.slice (some ⟨bs, 0, none⟩) items.length cs) s.seen.length (s.seen.map Value.bool) :: rs') := ⟨_, M.out.pull 5 (by simp)⟩
    rw [hsl] at hrow
    have s0 := row_cell hrow (j := n) (u := .bool (s.seen.getD n false)) (by rw [List.getElem?_map, List.getD_eq_getElem?_getD, List.getElem?_eq_getElem (by omega)]; rfl)
    have sf0 := row_free hrow (by omega) n
    clear ih hM hS hlab hrow hkl
    cases hseen : s.seen.getD n false with
    | true =>
      rw [hseen] at s0
      have e : nameT (partsOf items) first (k + 1) n s = s := by unfold nameT; rw [if_pos hseen]
      have He := Aside0.mk e
      clear e hseen hfin
      go_enter Try.func37, Try.ntmps37
      go_wp2_with fail
      exact bodyPost_ret (v := .tuple #[]) (results_none (by rfl) _ _ _) rfl ⟨rfl, lv, g, cnt, by rw [He.out]; exact hg, by rw [He.out]; exact M.out⟩
    | false =>
      rw [hseen] at s0
      have e : nameT (partsOf items) first (k + 1) n s = nameLabel first items[n].part.label (items[n].part.kids.foldl (fun s j => nameT (partsOf items) first k j s) { s with seen := s.seen.set n true }) := by
        rw [nameT, if_neg (by rw [hseen]; simp), partOf_of hn]
      have He := Aside0.mk e
      rw [e] at hfin
      clear e hseen
      obtain ⟨gp, cp, ep, hcp, _⟩ := row_some (M.out.pull 1 (by simp)).row (by omega)
      subst ep
      have hm1 : Sep W (w.setCell ⟨bs, n, none⟩ (.bool true)) (NameL p b (.slice (some ⟨gp, 0, none⟩) items.length cp) lv first saves cv items g cnt (.slice (some ⟨bs, 0, none⟩) items.length cs) { s with seen := s.seen.set n true } rs) := by
        have h0 := M.out
        unfold NameL at h0
        rw [hsl] at h0
        have h := at_ h0 5 (by simp) (fun rs h => Sep.stored (j := n) (u := .bool true) h (by omega) rfl)
        show Sep W _ (_ :: _ :: _ :: _ :: _ :: rowR 4 1 _ (s.seen.set n true).length ((s.seen.set n true).map Value.bool) :: rs)
        rw [List.length_set, hsl, map_setB]
        exact h
      have M1 := Aside0.mk hm1
      clear hm1 M
      have p0 : (w.setCell ⟨bs, n, none⟩ (.bool true)).cell? ⟨p, 0, none⟩ = some (.slice (some ⟨gp, 0, none⟩) items.length cp) := (box_cell M1.out (j := 0) rfl).1
      have k1 := row_cell (M1.out.pull 1 (by simp)) (parts_at items hn).2.1
      unfold PartM.kv at k1
      have hqa : items[n] ∈ items := List.getElem_mem hn
      have hks := fun (j : Nat) (hj : j < items[n].part.kids.length) => HS.out n items[n] (List.getElem?_eq_getElem hn) _ (List.getElem_mem hj)
      have Hks := Aside0.mk hks
      have hql := HLab.out _ hqa
      have hkq := HKl.out _ hqa
      clear hks
      have Hfin := Aside0.mk hfin
      clear hfin
      generalize hq : items[n] = q at k1 hqa Hks hql hkq He Hfin
      have Hq := Aside0.mk hq
      clear hq
      obtain ⟨⟨lab, ks, pl⟩, nm, A, c⟩ := q
      simp only at k1 Hks hql hkq He Hfin
      go_enter Try.func37, Try.ntmps37
      go_wp2_with fail
      go_loopw [27] (fun v27 wq => ∃ (j : Nat) (lv : Value) (g cnt : Nat), j ≤ ks.length ∧ v27 = .int .i64 j ∧ g ≤ first + ((ks.take j).foldl (fun s j => nameT (partsOf items) first k j s) { s with seen := s.seen.set n true }).labels.length ∧
        Aside0 (Sep W wq (NameL p b (.slice (some ⟨gp, 0, none⟩) items.length cp) lv first saves cv items g cnt (.slice (some ⟨bs, 0, none⟩) items.length cs) ((ks.take j).foldl (fun s j => nameT (partsOf items) first k j s) { s with seen := s.seen.set n true }) rs))) (fun v27 _ => ks.length - (intOf v27).toNat)
      case atStart => exact ⟨0, lv, g, cnt, by omega, rfl, hg, M1⟩
      case round =>
        clear M1 p0 k1
        obtain ⟨j, lv, g, cnt, hj, rfl, hg, M⟩ := hrel
        by_cases hjl : j < ks.length
        · obtain ⟨b1, hb1, hk1⟩ := kids_cell (M.out.pull 2 (by simp)) hqa (j := j) hjl
          obtain rfl : A = some ⟨b1, 0, none⟩ := hb1
          have hlt := Hks.out j hjl
          have hstep := take_foldl (fun s j => nameT (partsOf items) first k j s) ks { s with seen := s.seen.set n true } hjl
          replace hk1 : wr.cell? ⟨b1, j, none⟩ = some (.int .i64 ((ks[j] : Nat) : Int)) := hk1
          have hle : ((ks.take (j + 1)).foldl (fun s j => nameT (partsOf items) first k j s) { s with seen := s.seen.set n true }).labels.length ≤ 4194304 := by
            have h1 := Hfin.out
            obtain ⟨t1, ht1⟩ := nameLabel_grows first lab (ks.foldl (fun s j => nameT (partsOf items) first k j s) { s with seen := s.seen.set n true })
            have h2 := foldl_split (fun s j => nameT (partsOf items) first k j s) ks { s with seen := s.seen.set n true } (j + 1)
            obtain ⟨t2, ht2⟩ := foldl_grows (partsOf items) first k (ks.drop (j + 1)) ((ks.take (j + 1)).foldl (fun s j => nameT (partsOf items) first k j s) { s with seen := s.seen.set n true })
            rw [ht1, h2, ht2] at h1
            simp only [List.length_append] at h1
            omega
          have hsl2 : ((ks.take j).foldl (fun s j => nameT (partsOf items) first k j s) { s with seen := s.seen.set n true }).seen.length = items.length := by
            have := foldl_inv (fun s' : NS => s'.seen.length = items.length) (fun s j => nameT (partsOf items) first k j s) (fun b a h => by rw [nameT_len, h]) (ks.take j) { s with seen := s.seen.set n true } (by simp [hsl])
            exact this
          rw [hstep] at hle
          have Hstep := Aside0.mk hstep
          clear hstep
          generalize (ks.take j).foldl (fun s j => nameT (partsOf items) first k j s) { s with seen := s.seen.set n true } = sj at hg M hle hsl2 Hstep
          generalize ks[j] = kj at hk1 hlt hle Hstep
          have HC := Aside0.mk (fun w hM => IH.out kj w lv g cnt sj (by omega) (by omega) hsl2 hle hg hM)
          clear hle
          go_wp2_with fail
          refine (HC.out _ M.out).mono ?_
          rintro e w2 ⟨rfl, lv2, g2, cnt2, hg2, hm2⟩
          go_wp2_with fail
          go_roundw
          case rel => exact ⟨j + 1, lv2, g2, cnt2, by omega, by go_num, by rw [Hstep.out]; exact hg2, by rw [Hstep.out]; exact ⟨hm2⟩⟩
          case measure => simp [intOf]; omega
        · have hje : j = ks.length := by omega
          subst hje
          rw [List.take_length] at hg M
          generalize ks.foldl (fun s j => nameT (partsOf items) first k j s) { s with seen := s.seen.set n true } = sj at hg M Hfin He
          have p0 : wr.cell? ⟨p, 0, none⟩ = some (.slice (some ⟨gp, 0, none⟩) items.length cp) := (box_cell M.out (j := 0) rfl).1
          have p1 : wr.cell? ⟨p, 1, none⟩ = some (.map (some b)) := (box_cell M.out (j := 1) rfl).1
          have k0 : wr.cell? ⟨gp, n * 4, none⟩ = some (.string lab) := by
            have h := row_cell (M.out.pull 1 (by simp)) (parts_at items hn).1
            rw [Hq.out] at h
            exact h
          have hlook := (map_at (M.out.pull 3 (by simp))).look (m := mS) (s := lab) hql
          cases hat : sj.at_ lab with
          | some m =>
            rw [hat] at hlook
            replace hlook : (Instr.lookup 59 (.map (some b)) (.string lab) true).run Try.prog wr = .ok (.tuple #[.int .i64 (m : Int), .bool true]) wr := hlook
            have e : nameLabel first lab sj = sj := by unfold nameLabel; rw [hat]; rfl
            have E := Aside0.mk e
            clear hat e
            go_wp2_with fail
            go_end0
            exact ⟨rfl, lv, g, cnt, by rw [He.out, E.out]; exact hg, by rw [He.out, E.out]; exact M.out⟩
          | none =>
            rw [hat] at hlook
            replace hlook : (Instr.lookup 59 (.map (some b)) (.string lab) true).run Try.prog wr = .ok (.tuple #[.int .i64 0, .bool false]) wr := hlook
            have e : nameLabel first lab sj = { sj with at_ := setF sj.at_ lab (first + sj.labels.length), labels := sj.labels ++ [lab] } := by unfold nameLabel; rw [hat]; rfl
            have E := Aside0.mk e
            have hfl := Hfin.out
            rw [e] at hfl
            simp only [List.length_append, List.length_singleton] at hfl
            have Hat := Aside0.mk hat
            obtain ⟨Al, cl, el, hcl⟩ := row_slice (M.out.pull 4 (by simp)).row
            subst el
            have p2 : wr.cell? ⟨p, 2, none⟩ = some (.slice Al sj.labels.length cl) := (box_cell M.out (j := 2) rfl).1
            have p3 : wr.cell? ⟨p, 3, none⟩ = some (.int .i64 (first : Int)) := (box_cell M.out (j := 3) rfl).1
            clear hat e
            go_wp2_with fail
            have hw69 : IntKind.i64.wrap ((first : Int) + (sj.labels.length : Int)) = (first : Int) + (sj.labels.length : Int) := IntWalk.i64_in _ (by omega)
            go_still_tail 15, (by kernel_rfl)
            clear hw69
            change wpList _ _ _ _ _ wr.drew
            have M3 := M.out.drawn (w' := wr.drew) ⟨1, rfl⟩
            refine wp_store (m := mS) (s := lab) (v := first + sj.labels.length) rfl _ _ _ rfl rfl rfl (by rw [Int.natCast_add]; rfl) (map_at (M3.pull 3 (by simp))) hql Hat.out (by unfold maxLen; omega) (by omega) ?_
            intro w4 hm4 hg4
            have hM4 := at_ M3 3 (by simp) (fun rs h => map_turn h hm4 hg4)
            clear M M3 hm4 hg4 hlook
            have M := Aside0.mk hM4
            have p2' : w4.cell? ⟨p, 2, none⟩ = some (.slice Al sj.labels.length cl) := (box_cell M.out (j := 2) rfl).1
            have p2l := World.block_lt_of_cell? _ _ p2'
            clear hM4 p0 p1 p2 p3 k0
            go_wp2_with (at_builtin; refine wp_one ((M.out.pull 4 (by simp)).alloc (Obj.cells #[.string lab] 9)) rfl (.tmp 74) (.tmp 76) 22 rfl Try.underlying22 info9 rfl rfl rfl (new_cell' _ _ _ (by simp)) rfl (by omega) (by omega) ?_; intro A5 c5 w5 hc5 hm5; clear M p2' p2l; have M := Aside0.mk hm5; have p2'' : w5.cell? ⟨p, 2, none⟩ = some (.slice Al sj.labels.length cl) := (box_cell (M.out.pull 1 (by simp)) (j := 2) rfl).1; have pf2 := (box_cell (M.out.pull 1 (by simp)) (j := 2) rfl).2; clear hm5)
            have hm6 := at_ M.out 1 (by simp) (fun rs h => box_set h 2 (.slice A5 (sj.labels.length + 1) c5))
            have hm7 := hm6.perm (List.perm_middle (l₁ := [_, _, _, _]) (l₂ := _ :: rs)).symm
            go_end0
            refine ⟨rfl, .slice A5 (sj.labels.length + 1) c5, g + 1, cnt + 1, ?_, ?_⟩
            · rw [He.out, E.out]
              simp only [List.length_append, List.length_singleton]
              omega
            · rw [He.out, E.out]
              show Sep W _ (_ :: _ :: _ :: _ :: rowR 9 1 _ (sj.labels ++ [lab]).length ((sj.labels ++ [lab]).map Value.string) :: _ :: rs)
              rw [List.length_append, List.length_singleton, List.map_append]
              exact hm7
end Go.Proofs.Ytkonloadedbpkaa.NameW
