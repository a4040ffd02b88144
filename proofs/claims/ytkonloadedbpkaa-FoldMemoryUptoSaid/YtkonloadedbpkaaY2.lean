/- NameW, WriteW. -/
import Derived.Test.YtkonloadedbpkaaY0
import Derived.StillTailTactics
import Derived.IntWalk
import Derived.Deep.RegionHeld3
import Derived.Deep.AppendLies
namespace Go.Proofs.Ytkonloadedbpkaa.NameW
open Go.RowKit Go.Maps Go.Proofs.Ytkonloadedbpkaa.Sep Go.Proofs.Ytkonloadedbpkaa.FMaps Go.Proofs.Ytkonloadedbpkaa.FoldPure Go.Proofs.Ytkonloadedbpkaa.FoldMem Go.Proofs.Ytkonloadedbpkaa.FoldRun
open Go.Proofs.YtkonloadedbpkaaW.PrintWords
open Go.Proofs.YtkonloadedbpkaaW.PrintLast
set_option linter.unusedVariables false
set_option linter.unusedSimpArgs false

noncomputable abbrev NameL (p b : Nat) (pv lv : Value) (first saves : Nat) (cv : Value) (items : List PartM) (g n : Nat) (sv : Value) (s : NS) (rs : List Res) : List Res :=
  boxR p 62 #[pv, .map (some b), lv, .int .i64 (first : Int), .int .i64 (saves : Int), cv] :: rowR 91 4 pv items.length (partCells items) :: kidsR items :: mapR mS b g n s.at_ :: rowR 9 1 lv s.labels.length (s.labels.map Value.string) :: rowR 4 1 sv s.seen.length (s.seen.map Value.bool) :: rs
abbrev partsOf (items : List PartM) : List Part := items.map PartM.part
theorem partOf_of {items : List PartM} {n : Nat} (h : n < items.length) : partOf (partsOf items) n = items[n].part := by
  unfold partOf partsOf
  rw [List.getD_eq_getElem?_getD, List.getElem?_map, List.getElem?_eq_getElem h]
  rfl
/-- Each part's kids are earlier parts. -/
def Strict (items : List PartM) : Prop := ∀ (i : Nat) (q : PartM), items[i]? = some q → ∀ k ∈ q.part.kids, k < i
theorem upd_setF {κ : Type} [DecidableEq κ] (f : κ → Option Nat) (s : κ) (n : Nat) : upd f s n = setF f s n := rfl
theorem map_setB (xs : List Bool) (i : Nat) (b : Bool) : (xs.set i b).map Value.bool = (xs.map Value.bool).set i (.bool b) := by rw [List.map_set]

set_option maxHeartbeats 4000000 in
set_option maxRecDepth 100000 in
theorem name_calls {W : World} {rs : List Res} {p b bs cs first saves : Nat} {pv cv : Value} {items : List PartM} (hS : Strict items) (hlab : ∀ q ∈ items, q.part.label.size ≤ maxLen) (hkl : ∀ q ∈ items, q.part.kids.length ≤ 4194304) (hil : items.length ≤ 4194304) (hf : first ≤ 4194304) (k : Nat) :
    ∀ (n : Nat) (w : World) (lv : Value) (g cnt : Nat) (s : NS), n < k → n < items.length → s.seen.length = items.length → (nameT (partsOf items) first k n s).labels.length ≤ 4194304 → g ≤ first + s.labels.length →
      Sep W w (NameL p b pv lv first saves cv items g cnt (.slice (some ⟨bs, 0, none⟩) items.length cs) s rs) →
      Calls Try.prog 37 #[.pointer (some ⟨p, 0, none⟩), .int .i64 (n : Int), .slice (some ⟨bs, 0, none⟩) items.length cs] w fun e w' => e = .returned (.tuple #[]) ∧ ∃ lv' g' cnt', g' ≤ first + (nameT (partsOf items) first k n s).labels.length ∧
        Sep W w' (NameL p b pv lv' first saves cv items g' cnt' (.slice (some ⟨bs, 0, none⟩) items.length cs) (nameT (partsOf items) first k n s) rs) := by
  induction k with
  | zero => intro n w lv g cnt s h; omega
  | succ k ih =>
    intro n w lv g cnt s hnk hn hsl hfin hg hM
    have IH := Aside0.mk ih
    have M := Aside0.mk hM
    have HS := Aside0.mk hS
    have HLab := Aside0.mk hlab
    have HKl := Aside0.mk hkl
    obtain ⟨rs', hrow⟩ : ∃ rs', Sep W w (rowR 4 1 (.slice (some ⟨bs, 0, none⟩) items.length cs) s.seen.length (s.seen.map Value.bool) :: rs') := ⟨_, M.out.pull 5 (by simp)⟩
    rw [hsl] at hrow
    have s0 := row_cell hrow (j := n) (u := .bool (s.seen.getD n false)) (by rw [List.getElem?_map, List.getD_eq_getElem?_getD, List.getElem?_eq_getElem (by omega)]; rfl)
    have sf0 := row_free hrow (by omega) n
    clear ih hM hS hlab hrow hkl
    cases hseen : s.seen.getD n false with
    | true =>
      rw [hseen] at s0
      have e : nameT (partsOf items) first (k + 1) n s = s := by unfold nameT; rw [if_pos hseen]
      have He := Aside0.mk e
      clear e hseen hfin
      go_enter Try.func37, Try.ntmps37
      go_wp2_with fail
      exact bodyPost_ret (v := .tuple #[]) (results_none (by rfl) _ _ _) rfl ⟨rfl, lv, g, cnt, by rw [He.out]; exact hg, by rw [He.out]; exact M.out⟩
    | false =>
      rw [hseen] at s0
      have e : nameT (partsOf items) first (k + 1) n s = nameLabel first items[n].part.label (items[n].part.kids.foldl (fun s j => nameT (partsOf items) first k j s) { s with seen := s.seen.set n true }) := by
        rw [nameT, if_neg (by rw [hseen]; simp), partOf_of hn]
      have He := Aside0.mk e
      rw [e] at hfin
      clear e hseen
      obtain ⟨gp, cp, ep, hcp, _⟩ := row_some (M.out.pull 1 (by simp)).row (by omega)
      subst ep
      have hm1 : Sep W (w.setCell ⟨bs, n, none⟩ (.bool true)) (NameL p b (.slice (some ⟨gp, 0, none⟩) items.length cp) lv first saves cv items g cnt (.slice (some ⟨bs, 0, none⟩) items.length cs) { s with seen := s.seen.set n true } rs) := by
        have h0 := M.out
        unfold NameL at h0
        rw [hsl] at h0
        have h := at_ h0 5 (by simp) (fun rs h => Sep.stored (j := n) (u := .bool true) h (by omega) rfl)
        show Sep W _ (_ :: _ :: _ :: _ :: _ :: rowR 4 1 _ (s.seen.set n true).length ((s.seen.set n true).map Value.bool) :: rs)
        rw [List.length_set, hsl, map_setB]
        exact h
      have M1 := Aside0.mk hm1
      clear hm1 M
      have p0 : (w.setCell ⟨bs, n, none⟩ (.bool true)).cell? ⟨p, 0, none⟩ = some (.slice (some ⟨gp, 0, none⟩) items.length cp) := (box_cell M1.out (j := 0) rfl).1
      have k1 := row_cell (M1.out.pull 1 (by simp)) (parts_at items hn).2.1
      unfold PartM.kv at k1
      have hqa : items[n] ∈ items := List.getElem_mem hn
      have hks := fun (j : Nat) (hj : j < items[n].part.kids.length) => HS.out n items[n] (List.getElem?_eq_getElem hn) _ (List.getElem_mem hj)
      have Hks := Aside0.mk hks
      have hql := HLab.out _ hqa
      have hkq := HKl.out _ hqa
      clear hks
      have Hfin := Aside0.mk hfin
      clear hfin
      generalize hq : items[n] = q at k1 hqa Hks hql hkq He Hfin
      have Hq := Aside0.mk hq
      clear hq
      obtain ⟨⟨lab, ks, pl⟩, nm, A, c⟩ := q
      simp only at k1 Hks hql hkq He Hfin
      go_enter Try.func37, Try.ntmps37
      go_wp2_with fail
      go_loopw [27] (fun v27 wq => ∃ (j : Nat) (lv : Value) (g cnt : Nat), j ≤ ks.length ∧ v27 = .int .i64 j ∧ g ≤ first + ((ks.take j).foldl (fun s j => nameT (partsOf items) first k j s) { s with seen := s.seen.set n true }).labels.length ∧
        Aside0 (Sep W wq (NameL p b (.slice (some ⟨gp, 0, none⟩) items.length cp) lv first saves cv items g cnt (.slice (some ⟨bs, 0, none⟩) items.length cs) ((ks.take j).foldl (fun s j => nameT (partsOf items) first k j s) { s with seen := s.seen.set n true }) rs))) (fun v27 _ => ks.length - (intOf v27).toNat)
      case atStart => exact ⟨0, lv, g, cnt, by omega, rfl, hg, M1⟩
      case round =>
        clear M1 p0 k1
        obtain ⟨j, lv, g, cnt, hj, rfl, hg, M⟩ := hrel
        by_cases hjl : j < ks.length
        · obtain ⟨b1, hb1, hk1⟩ := kids_cell (M.out.pull 2 (by simp)) hqa (j := j) hjl
          obtain rfl : A = some ⟨b1, 0, none⟩ := hb1
          have hlt := Hks.out j hjl
          have hstep := take_foldl (fun s j => nameT (partsOf items) first k j s) ks { s with seen := s.seen.set n true } hjl
          replace hk1 : wr.cell? ⟨b1, j, none⟩ = some (.int .i64 ((ks[j] : Nat) : Int)) := hk1
          have hle : ((ks.take (j + 1)).foldl (fun s j => nameT (partsOf items) first k j s) { s with seen := s.seen.set n true }).labels.length ≤ 4194304 := by
            have h1 := Hfin.out
            obtain ⟨t1, ht1⟩ := nameLabel_grows first lab (ks.foldl (fun s j => nameT (partsOf items) first k j s) { s with seen := s.seen.set n true })
            have h2 := foldl_split (fun s j => nameT (partsOf items) first k j s) ks { s with seen := s.seen.set n true } (j + 1)
            obtain ⟨t2, ht2⟩ := foldl_grows (partsOf items) first k (ks.drop (j + 1)) ((ks.take (j + 1)).foldl (fun s j => nameT (partsOf items) first k j s) { s with seen := s.seen.set n true })
            rw [ht1, h2, ht2] at h1
            simp only [List.length_append] at h1
            omega
          have hsl2 : ((ks.take j).foldl (fun s j => nameT (partsOf items) first k j s) { s with seen := s.seen.set n true }).seen.length = items.length := by
            have := foldl_inv (fun s' : NS => s'.seen.length = items.length) (fun s j => nameT (partsOf items) first k j s) (fun b a h => by rw [nameT_len, h]) (ks.take j) { s with seen := s.seen.set n true } (by simp [hsl])
            exact this
          rw [hstep] at hle
          have Hstep := Aside0.mk hstep
          clear hstep
          generalize (ks.take j).foldl (fun s j => nameT (partsOf items) first k j s) { s with seen := s.seen.set n true } = sj at hg M hle hsl2 Hstep
          generalize ks[j] = kj at hk1 hlt hle Hstep
          have HC := Aside0.mk (fun w hM => IH.out kj w lv g cnt sj (by omega) (by omega) hsl2 hle hg hM)
          clear hle
          go_wp2_with fail
          refine (HC.out _ M.out).mono ?_
          rintro e w2 ⟨rfl, lv2, g2, cnt2, hg2, hm2⟩
          go_wp2_with fail
          go_roundw
          case rel => exact ⟨j + 1, lv2, g2, cnt2, by omega, by go_num, by rw [Hstep.out]; exact hg2, by rw [Hstep.out]; exact ⟨hm2⟩⟩
          case measure => simp [intOf]; omega
        · have hje : j = ks.length := by omega
          subst hje
          rw [List.take_length] at hg M
          generalize ks.foldl (fun s j => nameT (partsOf items) first k j s) { s with seen := s.seen.set n true } = sj at hg M Hfin He
          have p0 : wr.cell? ⟨p, 0, none⟩ = some (.slice (some ⟨gp, 0, none⟩) items.length cp) := (box_cell M.out (j := 0) rfl).1
          have p1 : wr.cell? ⟨p, 1, none⟩ = some (.map (some b)) := (box_cell M.out (j := 1) rfl).1
          have k0 : wr.cell? ⟨gp, n * 4, none⟩ = some (.string lab) := by
            have h := row_cell (M.out.pull 1 (by simp)) (parts_at items hn).1
            rw [Hq.out] at h
            exact h
          have hlook := (map_at (M.out.pull 3 (by simp))).look (m := mS) (s := lab) hql
          cases hat : sj.at_ lab with
          | some m =>
            rw [hat] at hlook
            replace hlook : (Instr.lookup 59 (.map (some b)) (.string lab) true).run Try.prog wr = .ok (.tuple #[.int .i64 (m : Int), .bool true]) wr := hlook
            have e : nameLabel first lab sj = sj := by unfold nameLabel; rw [hat]; rfl
            have E := Aside0.mk e
            clear hat e
            go_wp2_with fail
            go_end0
            exact ⟨rfl, lv, g, cnt, by rw [He.out, E.out]; exact hg, by rw [He.out, E.out]; exact M.out⟩
          | none =>
            rw [hat] at hlook
            replace hlook : (Instr.lookup 59 (.map (some b)) (.string lab) true).run Try.prog wr = .ok (.tuple #[.int .i64 0, .bool false]) wr := hlook
            have e : nameLabel first lab sj = { sj with at_ := setF sj.at_ lab (first + sj.labels.length), labels := sj.labels ++ [lab] } := by unfold nameLabel; rw [hat]; rfl
            have E := Aside0.mk e
            have hfl := Hfin.out
            rw [e] at hfl
            simp only [List.length_append, List.length_singleton] at hfl
            have Hat := Aside0.mk hat
            obtain ⟨Al, cl, el, hcl⟩ := row_slice (M.out.pull 4 (by simp)).row
            subst el
            have p2 : wr.cell? ⟨p, 2, none⟩ = some (.slice Al sj.labels.length cl) := (box_cell M.out (j := 2) rfl).1
            have p3 : wr.cell? ⟨p, 3, none⟩ = some (.int .i64 (first : Int)) := (box_cell M.out (j := 3) rfl).1
            clear hat e
            go_wp2_with fail
            have hw69 : IntKind.i64.wrap ((first : Int) + (sj.labels.length : Int)) = (first : Int) + (sj.labels.length : Int) := IntWalk.i64_in _ (by omega)
            go_still_tail 15, (by kernel_rfl)
            clear hw69
            change wpList _ _ _ _ _ wr.drew
            have M3 := M.out.drawn (w' := wr.drew) ⟨1, rfl⟩
            refine wp_store (m := mS) (s := lab) (v := first + sj.labels.length) rfl _ _ _ rfl rfl rfl (by rw [Int.natCast_add]; rfl) (map_at (M3.pull 3 (by simp))) hql Hat.out (by unfold maxLen; omega) (by omega) ?_
            intro w4 hm4 hg4
            have hM4 := at_ M3 3 (by simp) (fun rs h => map_turn h hm4 hg4)
            clear M M3 hm4 hg4 hlook
            have M := Aside0.mk hM4
            have p2' : w4.cell? ⟨p, 2, none⟩ = some (.slice Al sj.labels.length cl) := (box_cell M.out (j := 2) rfl).1
            have p2l := World.block_lt_of_cell? _ _ p2'
            clear hM4 p0 p1 p2 p3 k0
            go_wp2_with (at_builtin; refine wp_one ((M.out.pull 4 (by simp)).alloc (Obj.cells #[.string lab] 9)) rfl (.tmp 74) (.tmp 76) 22 rfl Try.underlying22 info9 rfl rfl rfl (new_cell' _ _ _ (by simp)) rfl (by omega) (by omega) ?_; intro A5 c5 w5 hc5 hm5; clear M p2' p2l; have M := Aside0.mk hm5; have p2'' : w5.cell? ⟨p, 2, none⟩ = some (.slice Al sj.labels.length cl) := (box_cell (M.out.pull 1 (by simp)) (j := 2) rfl).1; have pf2 := (box_cell (M.out.pull 1 (by simp)) (j := 2) rfl).2; clear hm5)
            have hm6 := at_ M.out 1 (by simp) (fun rs h => box_set h 2 (.slice A5 (sj.labels.length + 1) c5))
            have hm7 := hm6.perm (List.perm_middle (l₁ := [_, _, _, _]) (l₂ := _ :: rs)).symm
            go_end0
            refine ⟨rfl, .slice A5 (sj.labels.length + 1) c5, g + 1, cnt + 1, ?_, ?_⟩
            · rw [He.out, E.out]
              simp only [List.length_append, List.length_singleton]
              omega
            · rw [He.out, E.out]
              show Sep W _ (_ :: _ :: _ :: _ :: rowR 9 1 _ (sj.labels ++ [lab]).length ((sj.labels ++ [lab]).map Value.string) :: _ :: rs)
              rw [List.length_append, List.length_singleton, List.map_append]
              exact hm7
end Go.Proofs.Ytkonloadedbpkaa.NameW

namespace Go.Proofs.Ytkonloadedbpkaa.WriteW
open Go.RowKit Go.Maps Go.Proofs.Ytkonloadedbpkaa.Sep Go.Proofs.Ytkonloadedbpkaa.FMaps Go.Proofs.Ytkonloadedbpkaa.FoldPure Go.Proofs.Ytkonloadedbpkaa.FoldMem Go.Proofs.Ytkonloadedbpkaa.FoldRun Go.Proofs.Ytkonloadedbpkaa.NameW
open Go.Proofs.YtkonloadedbpkaaW.PrintWords
open Go.Proofs.YtkonloadedbpkaaW.PrintLast
set_option linter.unusedVariables false
set_option linter.unusedSimpArgs false


/-- The parts, with the numbers of their saves. -/
def withNums (items : List PartM) (nums : List Int) : List PartM := items.zipWith (fun q m => { q with number := m }) nums
theorem withNums_len {items : List PartM} {nums : List Int} (h : nums.length = items.length) : (withNums items nums).length = items.length := by simp [withNums, h]
theorem withNums_at {items : List PartM} {nums : List Int} (h : nums.length = items.length) {n : Nat} (hn : n < items.length) : (withNums items nums)[n]'(by rw [withNums_len h]; exact hn) = { items[n] with number := nums[n]'(by omega) } := by simp [withNums]
theorem withNums_mem {items : List PartM} {nums : List Int} {q : PartM} (h : q ∈ withNums items nums) : ∃ r ∈ items, q.part = r.part ∧ q.A = r.A ∧ q.c = r.c := by
  unfold withNums at h
  obtain ⟨i, hi⟩ := List.mem_iff_getElem?.1 h
  rw [List.getElem?_zipWith] at hi
  cases h1 : items[i]? with
  | none => rw [h1] at hi; simp at hi
  | some r =>
    cases h2 : nums[i]? with
    | none => rw [h1, h2] at hi; simp at hi
    | some m =>
      rw [h1, h2] at hi
      simp at hi
      subst hi
      exact ⟨r, List.mem_of_getElem? h1, rfl, rfl, rfl⟩
def numM (m : Int) (q : PartM) : PartM := { q with number := m }
theorem withNums_set {items : List PartM} {nums : List Int} (h : nums.length = items.length) {n : Nat} (hn : n < items.length) (m : Int) : (withNums items nums).modify n (numM m) = withNums items (nums.set n m) := by
  apply List.ext_getElem?
  intro i
  unfold withNums
  rw [List.getElem?_modify, List.getElem?_zipWith, List.getElem?_zipWith, List.getElem?_set]
  by_cases e : n = i
  · subst e
    rw [List.getElem?_eq_getElem hn, List.getElem?_eq_getElem (show n < nums.length by omega)]
    simp [numM, show n < nums.length by omega]
  · simp [e]
theorem numM_cells (items : List PartM) {k : Nat} (hk : k < items.length) (m : Int) : (partCells items).set (k * 4 + 3) (num m) = partCells (items.modify k (numM m)) :=
  parts_set items hk (numM m) 3 _ rfl (by omega)
noncomputable abbrev WriteL (p b : Nat) (pv lv : Value) (first : Nat) (cv : Value) (items : List PartM) (labels : List ByteArray) (g n : Nat) (f : ByteArray → Option Nat) (s : WS) (rs : List Res) : List Res :=
  boxR p 62 #[pv, .map (some b), lv, .int .i64 (first : Int), .int .i64 (s.saves : Int), cv] :: rowR 91 4 pv items.length (partCells (withNums items s.nums)) :: kidsR (withNums items s.nums) :: mapR mS b g n f :: rowR 9 1 lv labels.length (labels.map Value.string) :: rowR 3 1 cv s.codes.length (s.codes.map num) :: rs
/-! ### the walk -/
theorem saved_calls {w : World} {g o : Nat} {A : Option Addr} {n c m : Nat} (h1 : w.cell? ⟨g, o + 1, none⟩ = some (.slice A n c)) (h2 : w.cell? ⟨g, o + 2, none⟩ = some (.int .i64 (m : Int))) :
    Calls Try.prog 51 #[.pointer (some ⟨g, o, none⟩)] w fun e w' => e = .returned (.bool (decide (0 < n) && decide (1 < m))) ∧ w' = w := by
  by_cases hn : 0 < n
  · by_cases hm : 1 < m
    · have E := Aside0.mk (show (decide (0 < n) && decide (1 < m)) = true by simp [hn, hm])
      have hm' : (1 : Int) < (m : Int) := by omega
      go_enter Try.func51, Try.ntmps51
      go_wp2_with fail
      go_ret
      exact ⟨by first | (rw [E.out]; rfl) | rfl, rfl⟩
    · have E := Aside0.mk (show (decide (0 < n) && decide (1 < m)) = false by simp [hm])
      have hm' : ¬ (1 : Int) < (m : Int) := by omega
      have hm2 : decide ((1 : Int) < (m : Int)) = false := decide_eq_false hm'
      go_enter Try.func51, Try.ntmps51
      go_wp2_with fail
      go_ret
      exact ⟨by first | (rw [E.out]; rfl) | rfl, rfl⟩
  · have E := Aside0.mk (show (decide (0 < n) && decide (1 < m)) = false by simp [hn])
    have hn0 : n = 0 := by omega
    subst hn0
    clear hn
    go_enter Try.func51, Try.ntmps51
    go_wp2_with fail
    go_ret
    exact ⟨by first | (rw [E.out]; rfl) | rfl, rfl⟩
/-- What holds of what is being written. -/
structure WOk (s : WS) : Prop where
  saves : s.saves ≤ s.codes.length
  nums : ∀ x ∈ s.nums, -1 ≤ x ∧ x ≤ (s.codes.length : Int)
theorem wok_codes {s : WS} (h : WOk s) (t : List Int) : WOk { s with codes := s.codes ++ t } :=
  ⟨by have := h.saves; simp; omega, fun x hx => by have := h.nums x hx; simp; omega⟩
theorem wok_end (at_ : ByteArray → Nat) (q : Part) (n : Nat) {s : WS} (h : WOk s) : WOk (writeEnd at_ q n s) := by
  unfold writeEnd
  split
  · have := h.saves
    refine ⟨by simp; omega, fun x hx => ?_⟩
    rcases List.mem_or_eq_of_mem_set hx with hx | rfl
    · have := h.nums x hx
      simp
      omega
    · simp
      omega
  · exact wok_codes h _
theorem wok_write (P : List Part) (at_ : ByteArray → Nat) (base : Nat) : ∀ (k n : Nat) (s : WS), WOk s → WOk (writeT P at_ base k n s) := by
  intro k
  induction k with
  | zero => intro n s h; exact h
  | succ k ih =>
    intro n s h
    unfold writeT
    split
    · exact wok_codes h _
    · exact wok_end _ _ _ (foldl_inv WOk _ (fun b a hb => ih a b hb) _ _ h)
def atN (f : ByteArray → Option Nat) (s : ByteArray) : Nat := (f s).getD 0
theorem numO_atN (f : ByteArray → Option Nat) (s : ByteArray) : numO (f s) = (atN f s : Int) := by
  unfold numO atN
  cases f s <;> rfl
theorem cell_far {w w3 : World} {a : Addr} (h : w3.heap[a.block]? = w.heap[a.block]?) : w3.cell? a = w.cell? a ∧ w3.frozen? a = w.frozen? a := by
  constructor
  · simp [World.cell?, h]
  · simp [World.frozen?, h]
theorem part_cells {W w : World} {rs : List Res} {items : List PartM} {nums : List Int} (hl : nums.length = items.length) {gp cp : Nat} (h : Sep W w (rowR 91 4 (.slice (some ⟨gp, 0, none⟩) items.length cp) items.length (partCells (withNums items nums)) :: rs)) {n : Nat} (hn : n < items.length) {lab : ByteArray} {ks : List Nat} {pl : Nat} {nm : Int} {A : Option Addr} {c : Nat} (hq : items[n] = ⟨⟨lab, ks, pl⟩, nm, A, c⟩) :
    w.cell? ⟨gp, n * 4, none⟩ = some (.string lab) ∧ w.cell? ⟨gp, n * 4 + 1, none⟩ = some (.slice A ks.length c) ∧ w.cell? ⟨gp, n * 4 + 2, none⟩ = some (.int .i64 (pl : Int)) ∧ w.cell? ⟨gp, n * 4 + 3, none⟩ = some (.int .i64 (nums.getD n (-1))) ∧ w.frozen? ⟨gp, n * 4 + 3, none⟩ = false := by
  obtain ⟨h0, h1, h2, h3⟩ := parts_at (withNums items nums) (k := n) (by rw [withNums_len hl]; exact hn)
  rw [withNums_at hl hn, hq] at h0 h1 h2 h3
  have e : nums.getD n (-1) = nums[n]'(by omega) := by rw [List.getD_eq_getElem?_getD, List.getElem?_eq_getElem (by omega)]; rfl
  rw [e]
  exact ⟨row_cell h h0, row_cell h h1, row_cell h h2, row_cell h h3, row_free h (by omega) _⟩

set_option maxHeartbeats 8000000 in
set_option maxRecDepth 100000 in
theorem write_calls {W : World} {rs : List Res} {p b first g cnt : Nat} {pv lv : Value} {items : List PartM} {labels : List ByteArray} {f : ByteArray → Option Nat} (hS : Strict items) (hlab : ∀ q ∈ items, q.part.label.size ≤ maxLen) (hkl : ∀ q ∈ items, q.part.kids.length ≤ 4194304) (hil : items.length ≤ 4194304) (hf : first ≤ 4194304) (hll : labels.length ≤ 4194304) (k : Nat) :
    ∀ (n : Nat) (w : World) (cv : Value) (s : WS), n < k → n < items.length → s.nums.length = items.length → WOk s → (writeT (partsOf items) (atN f) (first + labels.length) k n s).codes.length ≤ 1099511627776 →
      Sep W w (WriteL p b pv lv first cv items labels g cnt f s rs) →
      Calls Try.prog 38 #[.pointer (some ⟨p, 0, none⟩), .int .i64 (n : Int)] w fun e w' => e = .returned (.tuple #[]) ∧ ∃ cv', Sep W w' (WriteL p b pv lv first cv' items labels g cnt f (writeT (partsOf items) (atN f) (first + labels.length) k n s) rs) := by
  induction k with
  | zero => intro n w cv s h; omega
  | succ k ih =>
    intro n w cv s hnk hn hsl hok hfin hM
    obtain ⟨gp, cp, ep, hcp, _⟩ := row_some (hM.pull 1 (by simp)).row (by omega)
    subst ep
    have hqa : items[n] ∈ items := List.getElem_mem hn
    have hks := fun (j : Nat) (hj : j < items[n].part.kids.length) => hS n items[n] (List.getElem?_eq_getElem hn) _ (List.getElem_mem hj)
    have hql := hlab _ hqa
    have hkq := hkl _ hqa
    have Hks := Aside0.mk hks
    have e0 : writeT (partsOf items) (atN f) (first + labels.length) (k + 1) n s = if 0 ≤ s.nums.getD n (-1) then { s with codes := s.codes ++ [((first + labels.length : Nat) : Int) + s.nums.getD n (-1)] } else
        writeEnd (atN f) items[n].part n (items[n].part.kids.foldl (fun s j => writeT (partsOf items) (atN f) (first + labels.length) k j s) s) := by
      rw [writeT, partOf_of hn]
    rw [e0] at hfin
    have He := Aside0.mk e0
    have IH := Aside0.mk ih
    have M := Aside0.mk hM
    have HOk := Aside0.mk hok
    clear ih hM hS hlab hkl hks e0 hok
    generalize hq : items[n] = q at hqa Hks hql hkq He hfin
    obtain ⟨⟨lab, ks, pl⟩, nm, A, c⟩ := q
    simp only at Hks hql hkq He hfin
    obtain ⟨q0, qk, qp, qn, qfn⟩ := part_cells hsl (M.out.pull 1 (by simp)) hn hq
    have Hq := Aside0.mk hq
    clear hq
    have p0 : w.cell? ⟨p, 0, none⟩ = some (.slice (some ⟨gp, 0, none⟩) items.length cp) := (box_cell M.out (j := 0) rfl).1
    have hnb : -1 ≤ s.nums.getD n (-1) ∧ s.nums.getD n (-1) ≤ (s.codes.length : Int) := by
      rw [List.getD_eq_getElem?_getD, List.getElem?_eq_getElem (by omega)]
      exact HOk.out.nums _ (List.getElem_mem _)
    by_cases h0 : 0 ≤ s.nums.getD n (-1)
    · rw [if_pos h0] at hfin He
      obtain ⟨Ac, cc, ec, hcc⟩ := row_slice (M.out.pull 5 (by simp)).row
      subst ec
      obtain ⟨Al, cl, el, hcl⟩ := row_slice (M.out.pull 4 (by simp)).row
      subst el
      obtain ⟨q5, qf5⟩ : w.cell? ⟨p, 5, none⟩ = some (.slice Ac s.codes.length cc) ∧ w.frozen? ⟨p, 5, none⟩ = false := box_cell M.out (j := 5) rfl
      have q3 : w.cell? ⟨p, 3, none⟩ = some (.int .i64 (first : Int)) := (box_cell M.out (j := 3) rfl).1
      have q2 : w.cell? ⟨p, 2, none⟩ = some (.slice Al labels.length cl) := (box_cell M.out (j := 2) rfl).1
      have l1 : p < w.heap.size := World.block_lt_of_cell? _ _ q5
      have l2 : gp < w.heap.size := World.block_lt_of_cell? _ _ qn
      have g1 : (Value.slice Ac s.codes.length cc).ownBlock ≠ some p := ne_row ((M.out.pull 5 (by simp)).pull 1 (by simp))
      have g2 : (Value.slice Ac s.codes.length cc).ownBlock ≠ some gp := ne_rows ((M.out.pull 5 (by simp)).pull 2 (by simp))
      simp only [List.length_append, List.length_singleton] at hfin
      generalize s.nums.getD n (-1) = m at hnb h0 qn He
      have hw32 : IntKind.i64.wrap ((first : Int) + (labels.length : Int)) = (first : Int) + (labels.length : Int) := IntWalk.i64_in _ (by omega)
      have hw37 : IntKind.i64.wrap ((first : Int) + (labels.length : Int) + m) = (first : Int) + (labels.length : Int) + m := IntWalk.i64_in _ (by omega)
      obtain ⟨i3, hi3, hz0, hz1, hz2⟩ := info_parts info3
      have Hown := Aside0.mk (M.out.pull 5 (by simp)).row
      have Hi3 := Aside0.mk hi3
      have Hz03 := Aside0.mk hz0
      have Hz13 := Aside0.mk hz1
      have Hz23 := Aside0.mk hz2
      clear hi3 hz0 hz1 hz2
      go_enter Try.func38, Try.ntmps38
      go_wp2_with fail
      refine start_ (n := 25) (S := fun w' => w'.cell? ⟨p, 5, none⟩ = some (.slice Ac s.codes.length cc) ∧ w'.cell? ⟨p, 3, none⟩ = some (.int .i64 (first : Int)) ∧ w'.cell? ⟨p, 2, none⟩ = some (.slice Al labels.length cl) ∧ w'.cell? ⟨gp, n * 4 + 3, none⟩ = some (.int .i64 m)) (ds := [24]) #[false, false, false, false, false, false, false, false, false, false, false, false, false, false, false, false, false, false, false, false, false, false, false, false, false] (by kernel_rfl) rfl rfl ⟨q5, q3, q2, qn⟩ (fun hHeld => ?_)
      refine pure_ (i := 0) (N := some 18) (v := ?_) (a' := ?_) #[true, false, false, false, false, false, false, false, false, false, false, false, false, false, false, false, false, false, false, false, false, false, false, false, false] rfl rfl (by kernel_rfl) (fun _ _ _ h => h) (Or.inl ⟨by rfl, ?_⟩) ?_ ?_
      rotate_left
      · intro w'
        go_simp
        with_reducible rfl
      rotate_left
      · simp only [Act.put, List.setIfInBounds_toArray, List.set_cons_zero, List.set_cons_succ, i64_w, i32_w]
        rfl
      refine pure_ (i := 1) (N := some 19) (v := ?_) (a' := ?_) #[true, true, false, false, false, false, false, false, false, false, false, false, false, false, false, false, false, false, false, false, false, false, false, false, false] rfl rfl (by kernel_rfl) (fun _ _ _ h => h) (Or.inl ⟨by rfl, ?_⟩) ?_ ?_
      rotate_left
      · intro w'
        go_simp
        with_reducible rfl
      rotate_left
      · simp only [Act.put, List.setIfInBounds_toArray, List.set_cons_zero, List.set_cons_succ, i64_w, i32_w]
        rfl
      refine pure_ (i := 2) (N := some 20) (v := ?_) (a' := ?_) #[true, true, true, false, false, false, false, false, false, false, false, false, false, false, false, false, false, false, false, false, false, false, false, false, false] rfl rfl (by kernel_rfl) (fun _ _ _ h => h) (Or.inl ⟨by rfl, ?_⟩) ?_ ?_
      rotate_left
      · intro w'
        go_simp
        with_reducible rfl
      rotate_left
      · simp only [Act.put, List.setIfInBounds_toArray, List.set_cons_zero, List.set_cons_succ, i64_w, i32_w]
        rfl
      refine pure_ (i := 3) (N := some 21) (v := ?_) (a' := ?_) #[true, true, true, true, false, false, false, false, false, false, false, false, false, false, false, false, false, false, false, false, false, false, false, false, false] rfl rfl (by kernel_rfl) (fun _ _ _ h => h) (Or.inl ⟨by rfl, ?_⟩) ?_ ?_
      rotate_left
      · intro w'
        go_simp
        with_reducible rfl
      rotate_left
      · simp only [Act.put, List.setIfInBounds_toArray, List.set_cons_zero, List.set_cons_succ, i64_w, i32_w]
        rfl
      refine take_ (i := 4) (N := some 22) (v := ?_) (a' := ?_) #[true, true, true, true, true, false, false, false, false, false, false, false, false, false, false, false, false, false, false, false, false, false, false, false, false] rfl rfl (by kernel_rfl) (fun _ _ _ h => h) (Or.inl ⟨by rfl, ?_⟩) hHeld ?_ ?_
      rotate_left
      · rintro w' ⟨s0, s1, s2, s3⟩
        go_simp
        with_reducible rfl
      rotate_left
      · simp only [Act.put, List.setIfInBounds_toArray, List.set_cons_zero, List.set_cons_succ, i64_w, i32_w]
        rfl
      refine pure_ (i := 5) (N := some 23) (v := ?_) (a' := ?_) #[true, true, true, true, true, true, false, false, false, false, false, false, false, false, false, false, false, false, false, false, false, false, false, false, false] rfl rfl (by kernel_rfl) (fun _ _ _ h => h) (Or.inl ⟨by rfl, ?_⟩) ?_ ?_
      rotate_left
      · intro w'
        go_simp
        with_reducible rfl
      rotate_left
      · simp only [Act.put, List.setIfInBounds_toArray, List.set_cons_zero, List.set_cons_succ, i64_w, i32_w]
        rfl
      refine pure_ (i := 6) (N := some 24) (v := ?_) (a' := ?_) #[true, true, true, true, true, true, true, false, false, false, false, false, false, false, false, false, false, false, false, false, false, false, false, false, false] rfl rfl (by kernel_rfl) (fun _ _ _ h => h) (Or.inl ⟨by rfl, ?_⟩) ?_ ?_
      rotate_left
      · intro w'
        go_simp
        with_reducible rfl
      rotate_left
      · simp only [Act.put, List.setIfInBounds_toArray, List.set_cons_zero, List.set_cons_succ, i64_w, i32_w]
        rfl
      refine pure_ (i := 7) (N := some 25) (v := ?_) (a' := ?_) #[true, true, true, true, true, true, true, true, false, false, false, false, false, false, false, false, false, false, false, false, false, false, false, false, false] rfl rfl (by kernel_rfl) (fun _ _ _ h => h) (Or.inl ⟨by rfl, ?_⟩) ?_ ?_
      rotate_left
      · intro w'
        go_simp
        with_reducible rfl
      rotate_left
      · simp only [Act.put, List.setIfInBounds_toArray, List.set_cons_zero, List.set_cons_succ, i64_w, i32_w]
        rfl
      refine take_ (i := 8) (N := some 26) (v := ?_) (a' := ?_) #[true, true, true, true, true, true, true, true, true, false, false, false, false, false, false, false, false, false, false, false, false, false, false, false, false] rfl rfl (by kernel_rfl) (fun _ _ _ h => h) (Or.inl ⟨by rfl, ?_⟩) hHeld ?_ ?_
      rotate_left
      · rintro w' ⟨s0, s1, s2, s3⟩
        go_simp
        with_reducible rfl
      rotate_left
      · simp only [Act.put, List.setIfInBounds_toArray, List.set_cons_zero, List.set_cons_succ, i64_w, i32_w]
        rfl
      refine pure_ (i := 9) (N := some 27) (v := ?_) (a' := ?_) #[true, true, true, true, true, true, true, true, true, true, false, false, false, false, false, false, false, false, false, false, false, false, false, false, false] rfl rfl (by kernel_rfl) (fun _ _ _ h => h) (Or.inl ⟨by rfl, ?_⟩) ?_ ?_
      rotate_left
      · intro w'
        go_simp
        with_reducible rfl
      rotate_left
      · simp only [Act.put, List.setIfInBounds_toArray, List.set_cons_zero, List.set_cons_succ, i64_w, i32_w]
        rfl
      refine pure_ (i := 10) (N := some 28) (v := ?_) (a' := ?_) #[true, true, true, true, true, true, true, true, true, true, true, false, false, false, false, false, false, false, false, false, false, false, false, false, false] rfl rfl (by kernel_rfl) (fun _ _ _ h => h) (Or.inl ⟨by rfl, ?_⟩) ?_ ?_
      rotate_left
      · intro w'
        go_simp
        with_reducible rfl
      rotate_left
      · simp only [Act.put, List.setIfInBounds_toArray, List.set_cons_zero, List.set_cons_succ, i64_w, i32_w]
        rfl
      refine pure_ (i := 11) (N := some 29) (v := ?_) (a' := ?_) #[true, true, true, true, true, true, true, true, true, true, true, true, false, false, false, false, false, false, false, false, false, false, false, false, false] rfl rfl (by kernel_rfl) (fun _ _ _ h => h) (Or.inl ⟨by rfl, ?_⟩) ?_ ?_
      rotate_left
      · intro w'
        go_simp
        with_reducible rfl
      rotate_left
      · simp only [Act.put, List.setIfInBounds_toArray, List.set_cons_zero, List.set_cons_succ, i64_w, i32_w]
        rfl
      refine take_ (i := 12) (N := some 30) (v := ?_) (a' := ?_) #[true, true, true, true, true, true, true, true, true, true, true, true, true, false, false, false, false, false, false, false, false, false, false, false, false] rfl rfl (by kernel_rfl) (fun _ _ _ h => h) (Or.inl ⟨by rfl, ?_⟩) hHeld ?_ ?_
      rotate_left
      · rintro w' ⟨s0, s1, s2, s3⟩
        go_simp
        with_reducible rfl
      rotate_left
      · simp only [Act.put, List.setIfInBounds_toArray, List.set_cons_zero, List.set_cons_succ, i64_w, i32_w]
        rfl
      refine pure_ (i := 13) (N := some 31) (v := ?_) (a' := ?_) #[true, true, true, true, true, true, true, true, true, true, true, true, true, true, false, false, false, false, false, false, false, false, false, false, false] rfl rfl (by kernel_rfl) (fun _ _ _ h => h) (Or.inl ⟨by rfl, ?_⟩) ?_ ?_
      rotate_left
      · intro w'
        go_simp
        with_reducible rfl
      rotate_left
      · simp only [Act.put, List.setIfInBounds_toArray, List.set_cons_zero, List.set_cons_succ, i64_w, i32_w]
        rfl
      refine pure_ (i := 14) (N := some 32) (v := ?_) (a' := ?_) #[true, true, true, true, true, true, true, true, true, true, true, true, true, true, true, false, false, false, false, false, false, false, false, false, false] rfl rfl (by kernel_rfl) (fun _ _ _ h => h) (Or.inl ⟨by rfl, ?_⟩) ?_ ?_
      rotate_left
      · intro w'
        go_simp
        with_reducible rfl
      rotate_left
      · simp only [Act.put, List.setIfInBounds_toArray, List.set_cons_zero, List.set_cons_succ, i64_w, i32_w]
        rfl
      refine pure_ (i := 15) (N := some 33) (v := ?_) (a' := ?_) #[true, true, true, true, true, true, true, true, true, true, true, true, true, true, true, true, false, false, false, false, false, false, false, false, false] rfl rfl (by kernel_rfl) (fun _ _ _ h => h) (Or.inl ⟨by rfl, ?_⟩) ?_ ?_
      rotate_left
      · intro w'
        go_simp
        with_reducible rfl
      rotate_left
      · simp only [Act.put, List.setIfInBounds_toArray, List.set_cons_zero, List.set_cons_succ, i64_w, i32_w]
        rfl
      refine pure_ (i := 16) (N := some 34) (v := ?_) (a' := ?_) #[true, true, true, true, true, true, true, true, true, true, true, true, true, true, true, true, true, false, false, false, false, false, false, false, false] rfl rfl (by kernel_rfl) (fun _ _ _ h => h) (Or.inl ⟨by rfl, ?_⟩) ?_ ?_
      rotate_left
      · intro w'
        go_simp
        with_reducible rfl
      rotate_left
      · simp only [Act.put, List.setIfInBounds_toArray, List.set_cons_zero, List.set_cons_succ, i64_w, i32_w]
        rfl
      refine pure_ (i := 17) (N := some 35) (v := ?_) (a' := ?_) #[true, true, true, true, true, true, true, true, true, true, true, true, true, true, true, true, true, true, false, false, false, false, false, false, false] rfl rfl (by kernel_rfl) (fun _ _ _ h => h) (Or.inl ⟨by rfl, ?_⟩) ?_ ?_
      rotate_left
      · intro w'
        go_simp
        with_reducible rfl
      rotate_left
      · simp only [Act.put, List.setIfInBounds_toArray, List.set_cons_zero, List.set_cons_succ, i64_w, i32_w]
        rfl
      refine take_ (i := 18) (N := some 36) (v := ?_) (a' := ?_) #[true, true, true, true, true, true, true, true, true, true, true, true, true, true, true, true, true, true, true, false, false, false, false, false, false] rfl rfl (by kernel_rfl) (fun _ _ _ h => h) (Or.inl ⟨by rfl, ?_⟩) hHeld ?_ ?_
      rotate_left
      · rintro w' ⟨s0, s1, s2, s3⟩
        go_simp
        with_reducible rfl
      rotate_left
      · simp only [Act.put, List.setIfInBounds_toArray, List.set_cons_zero, List.set_cons_succ, i64_w, i32_w]
        rfl
      refine pure_ (i := 19) (N := some 37) (v := ?_) (a' := ?_) #[true, true, true, true, true, true, true, true, true, true, true, true, true, true, true, true, true, true, true, true, false, false, false, false, false] rfl rfl (by kernel_rfl) (fun _ _ _ h => h) (Or.inl ⟨by rfl, ?_⟩) ?_ ?_
      rotate_left
      · intro w'
        go_simp
        with_reducible rfl
      rotate_left
      · simp only [Act.put, List.setIfInBounds_toArray, List.set_cons_zero, List.set_cons_succ, i64_w, i32_w]
        rfl
      refine one_ (i := 20) (N := some 38) #[true, true, true, true, true, true, true, true, true, true, true, true, true, true, true, true, true, true, true, true, true, false, false, false, false] rfl rfl (by kernel_rfl) (by decide) (fun K hK => ?_)
      refine value_ (w1 := ?_) (v := ?_) (by rfl) rfl ?_ ?_
      rotate_left
      rotate_left
      · go_simp
        refine ⟨?_, ?_⟩ <;> rfl
      refine hK.out _ _ ⟨?_, ?_, ?_, ?_⟩ (fun hHeld => ?_)
      · exact (cell_far (a := ⟨p, 5, none⟩) (World.grownBy_alloc w (.cells #[num ((first : Int) + (labels.length : Int) + m)] 3) none |>.block p l1 (by simp))).1.trans q5
      · exact (cell_far (a := ⟨p, 3, none⟩) (World.grownBy_alloc w (.cells #[num ((first : Int) + (labels.length : Int) + m)] 3) none |>.block p l1 (by simp))).1.trans q3
      · exact (cell_far (a := ⟨p, 2, none⟩) (World.grownBy_alloc w (.cells #[num ((first : Int) + (labels.length : Int) + m)] 3) none |>.block p l1 (by simp))).1.trans q2
      · exact (cell_far (a := ⟨gp, n * 4 + 3, none⟩) (World.grownBy_alloc w (.cells #[num ((first : Int) + (labels.length : Int) + m)] 3) none |>.block gp l2 (by simp))).1.trans qn
      clear hK K
      refine one_ (i := 21) (N := some 39) #[true, true, true, true, true, true, true, true, true, true, true, true, true, true, true, true, true, true, true, true, true, true, false, false, false] rfl rfl (by kernel_rfl) (by decide) (fun K hK => ?_)
      refine step_append_lies _ rfl _ _ _ rfl 0 3 i3 _ 1 8 Try.underlying25 Hi3.out Hz03.out Hz13.out Hz23.out rfl (by omega) (.slice Ac s.codes.length cc) s.codes.length (s.codes.map num) rfl ((Hown.out.alloc _).drew)
        ⟨w.heap.size, 0, none⟩ 1 1 [num ((first : Int) + (labels.length : Int) + m)] rfl rfl (World.news_of_block (cs := #[num ((first : Int) + (labels.length : Int) + m)]) (t := 3) (fr := (0, 0)) (heap_alloc_new w _)) (by simp [Value.oneCell'])
        (by omega) (by unfold maxLen; omega) (by omega) (Nat.zero_le _) (w.heap.size + 1) (by simp) ?_
      intro gg cap w4 hown4 hgrow hat hlt4
      have hcc0 := cell_far (a := ⟨p, 5, none⟩) ((hgrow.block p (by simp; omega) (Ne.symm g1)).trans (World.grownBy_alloc w (.cells #[num ((first : Int) + (labels.length : Int) + m)] 3) none |>.block p l1 (by simp)))
      have hcc1 := cell_far (a := ⟨p, 3, none⟩) ((hgrow.block p (by simp; omega) (Ne.symm g1)).trans (World.grownBy_alloc w (.cells #[num ((first : Int) + (labels.length : Int) + m)] 3) none |>.block p l1 (by simp)))
      have hcc2 := cell_far (a := ⟨p, 2, none⟩) ((hgrow.block p (by simp; omega) (Ne.symm g1)).trans (World.grownBy_alloc w (.cells #[num ((first : Int) + (labels.length : Int) + m)] 3) none |>.block p l1 (by simp)))
      have hcc3 := cell_far (a := ⟨gp, n * 4 + 3, none⟩) ((hgrow.block gp (by simp; omega) (Ne.symm g2)).trans (World.grownBy_alloc w (.cells #[num ((first : Int) + (labels.length : Int) + m)] 3) none |>.block gp l2 (by simp)))
      have f4 := hcc0.2.trans qf5
      have e4 := hcc0.1.trans q5
      have Hown4 := Aside0.mk hown4
      have Hgrow := Aside0.mk hgrow
      have Hat := Aside0.mk hat
      have Hlt4 := Aside0.mk hlt4
      clear hown4 hgrow hat hlt4
      refine hK.out _ _ ⟨hcc0.1.trans q5, hcc1.1.trans q3, hcc2.1.trans q2, hcc3.1.trans qn⟩ (fun hHeld => ?_)
      clear hK K hcc0 hcc1 hcc2 hcc3
      refine pure_ (i := 22) (N := some 40) (v := ?_) (a' := ?_) #[true, true, true, true, true, true, true, true, true, true, true, true, true, true, true, true, true, true, true, true, true, true, true, false, false] rfl rfl (by kernel_rfl) (fun _ _ _ h => h) (Or.inl ⟨by rfl, ?_⟩) ?_ ?_
      rotate_left
      · intro w'
        go_simp
        with_reducible rfl
      rotate_left
      · simp only [Act.put, List.setIfInBounds_toArray, List.set_cons_zero, List.set_cons_succ, i64_w, i32_w]
        rfl
      refine pure_ (i := 23) (N := some 41) (v := ?_) (a' := ?_) #[true, true, true, true, true, true, true, true, true, true, true, true, true, true, true, true, true, true, true, true, true, true, true, true, false] rfl rfl (by kernel_rfl) (fun _ _ _ h => h) (Or.inl ⟨by rfl, ?_⟩) ?_ ?_
      rotate_left
      · intro w'
        go_simp
        with_reducible rfl
      rotate_left
      · simp only [Act.put, List.setIfInBounds_toArray, List.set_cons_zero, List.set_cons_succ, i64_w, i32_w]
        rfl
      refine last_ (i := 24) (N := none) #[true, true, true, true, true, true, true, true, true, true, true, true, true, true, true, true, true, true, true, true, true, true, true, true, true] rfl rfl (by kernel_rfl) (by decide) (fun K hK => ?_)
      refine skip_ (w1 := ?_) (by rfl) rfl ?_ ?_
      rotate_left
      · go_simp
        rfl
      refine hK.out _ _ ?_
      clear hK K
      refine done_ (by kernel_rfl) ?_
      have hm4 : Sep W (w.alloc (.cells #[num ((first : Int) + (labels.length : Int) + m)] 3)).drew _ := (M.out.alloc _).drawn ⟨1, rfl⟩
      have hm5 := at_ hm4 5 (by simp) (fun rs h => h.appended (m := s.codes.length + 1) (ys := (s.codes ++ [(first : Int) + (labels.length : Int) + m]).map num) (by rw [List.map_append]; exact Hown4.out) Hgrow.out (by
        rcases Hat.out with h | h
        · exact .inl h.symm
        · right; rw [h]; simp [Value.ownBlock]))
      have hm6 := at_ hm5 0 (by simp) (fun rs h => box_set h 5 (.slice (some ⟨gg, 0, none⟩) (s.codes.length + 1) cap))
      go_wp2_with fail
      refine bodyPost_ret (v := .tuple #[]) (results_none (by rfl) _ _ _) rfl ⟨rfl, .slice (some ⟨gg, 0, none⟩) (s.codes.length + 1) cap, ?_⟩
      rw [He.out, Int.natCast_add]
      show Sep W _ (_ :: _ :: _ :: _ :: _ :: rowR 3 1 _ (s.codes ++ [(first : Int) + (labels.length : Int) + m]).length _ :: rs)
      rw [List.length_append, List.length_singleton]
      exact hm6
    · rw [if_neg h0] at hfin He
      clear hnb q0 qp qfn
      generalize s.nums.getD n (-1) = m at h0 qn
      go_enter Try.func38, Try.ntmps38
      go_wp2_with fail
      go_loopw [47] (fun v47 wq => ∃ (j : Nat) (cv : Value), j ≤ ks.length ∧ v47 = .int .i64 j ∧
        Aside0 (Sep W wq (WriteL p b (.slice (some ⟨gp, 0, none⟩) items.length cp) lv first cv items labels g cnt f ((ks.take j).foldl (fun s j => writeT (partsOf items) (atN f) (first + labels.length) k j s) s) rs))) (fun v47 _ => ks.length - (intOf v47).toNat)
      case atStart => exact ⟨0, cv, by omega, rfl, M⟩
      case round =>
        clear M p0 qk qn
        obtain ⟨j, cv, hj, rfl, M⟩ := hrel
        have hsl2 : ((ks.take j).foldl (fun s j => writeT (partsOf items) (atN f) (first + labels.length) k j s) s).nums.length = items.length :=
          foldl_inv (fun s' : WS => s'.nums.length = items.length) _ (fun b a h => by rw [writeT_len, h]) (ks.take j) s hsl
        have hok2 := foldl_inv WOk (fun s j => writeT (partsOf items) (atN f) (first + labels.length) k j s) (fun b a h => wok_write _ _ _ _ _ _ h) (ks.take j) s HOk.out
        by_cases hjl : j < ks.length
        · have hqm : (⟨⟨lab, ks, pl⟩, ((ks.take j).foldl (fun s j => writeT (partsOf items) (atN f) (first + labels.length) k j s) s).nums[n]'(by omega), A, c⟩ : PartM) ∈ withNums items ((ks.take j).foldl (fun s j => writeT (partsOf items) (atN f) (first + labels.length) k j s) s).nums := by
            have h1 := withNums_at hsl2 hn
            rw [Hq.out] at h1
            rw [← h1]
            exact List.getElem_mem _
          obtain ⟨b1, hb1, hk1⟩ := kids_cell (M.out.pull 2 (by simp)) hqm (j := j) hjl
          obtain rfl : A = some ⟨b1, 0, none⟩ := hb1
          have hlt := Hks.out j hjl
          have hstep := take_foldl (fun s j => writeT (partsOf items) (atN f) (first + labels.length) k j s) ks s hjl
          replace hk1 : wr.cell? ⟨b1, j, none⟩ = some (.int .i64 ((ks[j] : Nat) : Int)) := hk1
          have hle : ((ks.take (j + 1)).foldl (fun s j => writeT (partsOf items) (atN f) (first + labels.length) k j s) s).codes.length ≤ 1099511627776 := by
            have h1 := hfin
            obtain ⟨t1, ht1⟩ := writeEnd_grows (atN f) ⟨lab, ks, pl⟩ n (ks.foldl (fun s j => writeT (partsOf items) (atN f) (first + labels.length) k j s) s)
            have h2 := foldl_split (fun s j => writeT (partsOf items) (atN f) (first + labels.length) k j s) ks s (j + 1)
            obtain ⟨t2, ht2⟩ := wfoldl_grows (partsOf items) (atN f) (first + labels.length) k (ks.drop (j + 1)) ((ks.take (j + 1)).foldl (fun s j => writeT (partsOf items) (atN f) (first + labels.length) k j s) s)
            rw [ht1, h2, ht2] at h1
            simp only [List.length_append] at h1
            omega
          rw [hstep] at hle
          have Hstep := Aside0.mk hstep
          clear hstep hqm
          generalize (ks.take j).foldl (fun s j => writeT (partsOf items) (atN f) (first + labels.length) k j s) s = sj at M hle hsl2 hok2 Hstep
          generalize ks[j] = kj at hk1 hlt hle Hstep
          have HC := Aside0.mk (fun w hM => IH.out kj w cv sj (by omega) (by omega) hsl2 hok2 hle hM)
          clear hle hok2 hsl2
          go_wp2_with fail
          refine (HC.out _ M.out).mono ?_
          rintro e w2 ⟨rfl, cv2, hm2⟩
          go_wp2_with fail
          go_roundw
          case rel => exact ⟨j + 1, cv2, by omega, by go_num, by rw [Hstep.out]; exact ⟨hm2⟩⟩
          case measure => simp [intOf]; omega
        · have hje : j = ks.length := by omega
          subst hje
          rw [List.take_length] at M hsl2 hok2
          generalize ks.foldl (fun s j => writeT (partsOf items) (atN f) (first + labels.length) k j s) s = sj at M hsl2 hok2 hfin He
          have HHe := He
          clear He hsl h0 HOk
          obtain ⟨s', hs'⟩ : ∃ s', s' = sj := ⟨_, rfl⟩
          rw [← hs'] at M hsl2 hok2 hfin HHe
          clear hs'
          obtain ⟨Ac, cc, ec, hcc⟩ := row_slice (M.out.pull 5 (by simp)).row
          subst ec
          obtain ⟨q0, qk, qp, qn, qfn⟩ := part_cells hsl2 (M.out.pull 1 (by simp)) hn Hq.out
          obtain ⟨q5, qf5⟩ : wr.cell? ⟨p, 5, none⟩ = some (.slice Ac s'.codes.length cc) ∧ wr.frozen? ⟨p, 5, none⟩ = false := box_cell M.out (j := 5) rfl
          have q1 : wr.cell? ⟨p, 1, none⟩ = some (.map (some b)) := (box_cell M.out (j := 1) rfl).1
          have hlook := (map_at (M.out.pull 3 (by simp))).look1 (m := mS) (s := lab) hql
          replace hlook : (Instr.lookup 59 (.map (some b)) (.string lab) false).run Try.prog wr = .ok (.int .i64 (numO (f lab))) wr := hlook
          have hlookD : (Instr.lookup 59 (.map (some b)) (.string lab) false).run Try.prog wr.drew = .ok (.int .i64 (numO (f lab))) wr.drew := (map_at ((M.out.drawn (w' := wr.drew) ⟨1, rfl⟩).pull 3 (by simp))).look1 (m := mS) (s := lab) hql
          have l1 : p < wr.heap.size := World.block_lt_of_cell? _ _ q5
          have l2 : gp < wr.heap.size := World.block_lt_of_cell? _ _ q0
          have g1 : (Value.slice Ac s'.codes.length cc).ownBlock ≠ some p := ne_row ((M.out.pull 5 (by simp)).pull 1 (by simp))
          have g2 : (Value.slice Ac s'.codes.length cc).ownBlock ≠ some gp := ne_rows ((M.out.pull 5 (by simp)).pull 2 (by simp))
          have hfin2 : s'.codes.length + 2 ≤ 1099511627778 := by
            obtain ⟨t1, ht1⟩ := writeEnd_grows (atN f) ⟨lab, ks, pl⟩ n s'
            rw [ht1] at hfin
            simp only [List.length_append] at hfin
            omega
          obtain ⟨i3, hi3, hz0, hz1, hz2⟩ := info_parts info3
          have Hown := Aside0.mk (M.out.pull 5 (by simp)).row
          have Hi3 := Aside0.mk hi3
          have Hz03 := Aside0.mk hz0
          have Hz13 := Aside0.mk hz1
          have Hz23 := Aside0.mk hz2
          have Hqn := Aside0.mk qn
          clear hi3 hz0 hz1 hz2 qk qp qn qfn
          go_wp2_with fail
          refine start_ (n := 19) (S := fun w' => w'.cell? ⟨p, 5, none⟩ = some (.slice Ac s'.codes.length cc) ∧ w'.cell? ⟨p, 1, none⟩ = some (.map (some b)) ∧ w'.cell? ⟨gp, n * 4, none⟩ = some (.string lab)) (ds := [18]) #[false, false, false, false, false, false, false, false, false, false, false, false, false, false, false, false, false, false, false] (by kernel_rfl) rfl rfl ⟨q5, q1, q0⟩ (fun hHeld => ?_)
          refine pure_ (i := 0) (N := some 55) (v := ?_) (a' := ?_) #[true, false, false, false, false, false, false, false, false, false, false, false, false, false, false, false, false, false, false] rfl rfl (by kernel_rfl) (fun _ _ _ h => h) (Or.inl ⟨by rfl, ?_⟩) ?_ ?_
          rotate_left
          · intro w'
            go_simp
            with_reducible rfl
          rotate_left
          · simp only [Act.put, List.setIfInBounds_toArray, List.set_cons_zero, List.set_cons_succ, i64_w, i32_w]
            rfl
          refine pure_ (i := 1) (N := some 56) (v := ?_) (a' := ?_) #[true, true, false, false, false, false, false, false, false, false, false, false, false, false, false, false, false, false, false] rfl rfl (by kernel_rfl) (fun _ _ _ h => h) (Or.inl ⟨by rfl, ?_⟩) ?_ ?_
          rotate_left
          · intro w'
            go_simp
            with_reducible rfl
          rotate_left
          · simp only [Act.put, List.setIfInBounds_toArray, List.set_cons_zero, List.set_cons_succ, i64_w, i32_w]
            rfl
          refine pure_ (i := 2) (N := some 57) (v := ?_) (a' := ?_) #[true, true, true, false, false, false, false, false, false, false, false, false, false, false, false, false, false, false, false] rfl rfl (by kernel_rfl) (fun _ _ _ h => h) (Or.inl ⟨by rfl, ?_⟩) ?_ ?_
          rotate_left
          · intro w'
            go_simp
            with_reducible rfl
          rotate_left
          · simp only [Act.put, List.setIfInBounds_toArray, List.set_cons_zero, List.set_cons_succ, i64_w, i32_w]
            rfl
          refine pure_ (i := 3) (N := some 58) (v := ?_) (a' := ?_) #[true, true, true, true, false, false, false, false, false, false, false, false, false, false, false, false, false, false, false] rfl rfl (by kernel_rfl) (fun _ _ _ h => h) (Or.inl ⟨by rfl, ?_⟩) ?_ ?_
          rotate_left
          · intro w'
            go_simp
            with_reducible rfl
          rotate_left
          · simp only [Act.put, List.setIfInBounds_toArray, List.set_cons_zero, List.set_cons_succ, i64_w, i32_w]
            rfl
          refine take_ (i := 4) (N := some 59) (v := ?_) (a' := ?_) #[true, true, true, true, true, false, false, false, false, false, false, false, false, false, false, false, false, false, false] rfl rfl (by kernel_rfl) (fun _ _ _ h => h) (Or.inl ⟨by rfl, ?_⟩) hHeld ?_ ?_
          rotate_left
          · rintro w' ⟨s0, s1, s2⟩
            go_simp
            with_reducible rfl
          rotate_left
          · simp only [Act.put, List.setIfInBounds_toArray, List.set_cons_zero, List.set_cons_succ, i64_w, i32_w]
            rfl
          refine pure_ (i := 5) (N := some 60) (v := ?_) (a' := ?_) #[true, true, true, true, true, true, false, false, false, false, false, false, false, false, false, false, false, false, false] rfl rfl (by kernel_rfl) (fun _ _ _ h => h) (Or.inl ⟨by rfl, ?_⟩) ?_ ?_
          rotate_left
          · intro w'
            go_simp
            with_reducible rfl
          rotate_left
          · simp only [Act.put, List.setIfInBounds_toArray, List.set_cons_zero, List.set_cons_succ, i64_w, i32_w]
            rfl
          refine pure_ (i := 6) (N := some 61) (v := ?_) (a' := ?_) #[true, true, true, true, true, true, true, false, false, false, false, false, false, false, false, false, false, false, false] rfl rfl (by kernel_rfl) (fun _ _ _ h => h) (Or.inl ⟨by rfl, ?_⟩) ?_ ?_
          rotate_left
          · intro w'
            go_simp
            with_reducible rfl
          rotate_left
          · simp only [Act.put, List.setIfInBounds_toArray, List.set_cons_zero, List.set_cons_succ, i64_w, i32_w]
            rfl
          refine pure_ (i := 7) (N := some 62) (v := ?_) (a' := ?_) #[true, true, true, true, true, true, true, true, false, false, false, false, false, false, false, false, false, false, false] rfl rfl (by kernel_rfl) (fun _ _ _ h => h) (Or.inl ⟨by rfl, ?_⟩) ?_ ?_
          rotate_left
          · intro w'
            go_simp
            with_reducible rfl
          rotate_left
          · simp only [Act.put, List.setIfInBounds_toArray, List.set_cons_zero, List.set_cons_succ, i64_w, i32_w]
            rfl
          refine take_ (i := 8) (N := some 63) (v := ?_) (a' := ?_) #[true, true, true, true, true, true, true, true, true, false, false, false, false, false, false, false, false, false, false] rfl rfl (by kernel_rfl) (fun _ _ _ h => h) (Or.inl ⟨by rfl, ?_⟩) hHeld ?_ ?_
          rotate_left
          · rintro w' ⟨s0, s1, s2⟩
            go_simp
            with_reducible rfl
          rotate_left
          · simp only [Act.put, List.setIfInBounds_toArray, List.set_cons_zero, List.set_cons_succ, i64_w, i32_w]
            rfl
          refine pure_ (i := 9) (N := some 64) (v := ?_) (a' := ?_) #[true, true, true, true, true, true, true, true, true, true, false, false, false, false, false, false, false, false, false] rfl rfl (by kernel_rfl) (fun _ _ _ h => h) (Or.inl ⟨by rfl, ?_⟩) ?_ ?_
          rotate_left
          · intro w'
            go_simp
            with_reducible rfl
          rotate_left
          · simp only [Act.put, List.setIfInBounds_toArray, List.set_cons_zero, List.set_cons_succ, i64_w, i32_w]
            rfl
          refine pure_ (i := 10) (N := some 65) (v := ?_) (a' := ?_) #[true, true, true, true, true, true, true, true, true, true, true, false, false, false, false, false, false, false, false] rfl rfl (by kernel_rfl) (fun _ _ _ h => h) (Or.inl ⟨by rfl, ?_⟩) ?_ ?_
          rotate_left
          · intro w'
            go_simp
            with_reducible rfl
          rotate_left
          · simp only [Act.put, List.setIfInBounds_toArray, List.set_cons_zero, List.set_cons_succ, i64_w, i32_w]
            rfl
          refine pure_ (i := 11) (N := some 66) (v := ?_) (a' := ?_) #[true, true, true, true, true, true, true, true, true, true, true, true, false, false, false, false, false, false, false] rfl rfl (by kernel_rfl) (fun _ _ _ h => h) (Or.inl ⟨by rfl, ?_⟩) ?_ ?_
          rotate_left
          · intro w'
            go_simp
            with_reducible rfl
          rotate_left
          · simp only [Act.put, List.setIfInBounds_toArray, List.set_cons_zero, List.set_cons_succ, i64_w, i32_w]
            rfl
          refine take_ (i := 12) (N := some 67) (v := ?_) (a' := ?_) #[true, true, true, true, true, true, true, true, true, true, true, true, true, false, false, false, false, false, false] rfl rfl (by kernel_rfl) (fun _ _ _ h => h) (Or.inl ⟨by rfl, ?_⟩) hHeld ?_ ?_
          rotate_left
          · rintro w' ⟨s0, s1, s2⟩
            go_simp
            with_reducible rfl
          rotate_left
          · simp only [Act.put, List.setIfInBounds_toArray, List.set_cons_zero, List.set_cons_succ, i64_w, i32_w]
            rfl
          refine one_ (i := 13) (N := some 68) #[true, true, true, true, true, true, true, true, true, true, true, true, true, true, false, false, false, false, false] rfl rfl (by kernel_rfl) (by decide) (fun K hK => ?_)
          refine value_ (w1 := ?_) (v := ?_) (by rfl) rfl ?_ ?_
          rotate_left
          rotate_left
          · go_simp
            first
              | (refine ⟨?_, ?_⟩ <;> rfl)
              | rfl
          refine hK.out _ _ ⟨q5, q1, q0⟩ (fun hHeld => ?_)
          clear hK K
          refine one_ (i := 14) (N := some 69) #[true, true, true, true, true, true, true, true, true, true, true, true, true, true, true, false, false, false, false] rfl rfl (by kernel_rfl) (by decide) (fun K hK => ?_)
          refine value_ (w1 := ?_) (v := ?_) (by rfl) rfl ?_ ?_
          rotate_left
          rotate_left
          · go_simp
            refine ⟨?_, ?_⟩ <;> rfl
          refine hK.out _ _ ⟨?_, ?_, ?_⟩ (fun hHeld => ?_)
          · exact (cell_far (a := ⟨p, 5, none⟩) (World.grownBy_alloc wr (.cells #[num (numO (f lab))] 3) none |>.block p l1 (by simp))).1.trans q5
          · exact (cell_far (a := ⟨p, 1, none⟩) (World.grownBy_alloc wr (.cells #[num (numO (f lab))] 3) none |>.block p l1 (by simp))).1.trans q1
          · exact (cell_far (a := ⟨gp, n * 4, none⟩) (World.grownBy_alloc wr (.cells #[num (numO (f lab))] 3) none |>.block gp l2 (by simp))).1.trans q0
          clear hK K
          refine one_ (i := 15) (N := some 70) #[true, true, true, true, true, true, true, true, true, true, true, true, true, true, true, true, false, false, false] rfl rfl (by kernel_rfl) (by decide) (fun K hK => ?_)
          refine step_append_lies _ rfl _ _ _ rfl 0 3 i3 _ 1 8 Try.underlying25 Hi3.out Hz03.out Hz13.out Hz23.out rfl (by omega) (.slice Ac s'.codes.length cc) s'.codes.length (s'.codes.map num) rfl ((Hown.out.alloc _).drew)
            ⟨wr.heap.size, 0, none⟩ 1 1 [num (numO (f lab))] rfl rfl (World.news_of_block (cs := #[num (numO (f lab))]) (t := 3) (fr := (0, 0)) (heap_alloc_new wr _)) (by simp [Value.oneCell'])
            (by omega) (by unfold maxLen; omega) (by omega) (Nat.zero_le _) (wr.heap.size + 1) (by simp) ?_
          intro gg cap w4 hown4 hgrow hat hlt4
          have hcc0 := cell_far (a := ⟨p, 5, none⟩) ((hgrow.block p (by simp; omega) (Ne.symm g1)).trans (World.grownBy_alloc wr (.cells #[num (numO (f lab))] 3) none |>.block p l1 (by simp)))
          have hcc1 := cell_far (a := ⟨p, 1, none⟩) ((hgrow.block p (by simp; omega) (Ne.symm g1)).trans (World.grownBy_alloc wr (.cells #[num (numO (f lab))] 3) none |>.block p l1 (by simp)))
          have hcc2 := cell_far (a := ⟨gp, n * 4, none⟩) ((hgrow.block gp (by simp; omega) (Ne.symm g2)).trans (World.grownBy_alloc wr (.cells #[num (numO (f lab))] 3) none |>.block gp l2 (by simp)))
          have f4 := hcc0.2.trans qf5
          have e4 := hcc0.1.trans q5
          have Hown4 := Aside0.mk hown4
          have Hgrow := Aside0.mk hgrow
          have Hat := Aside0.mk hat
          have Hlt4 := Aside0.mk hlt4
          clear hown4 hgrow hat hlt4
          refine hK.out _ _ ⟨hcc0.1.trans q5, hcc1.1.trans q1, hcc2.1.trans q0⟩ (fun hHeld => ?_)
          clear hK K hcc0 hcc1 hcc2
          refine pure_ (i := 16) (N := some 71) (v := ?_) (a' := ?_) #[true, true, true, true, true, true, true, true, true, true, true, true, true, true, true, true, true, false, false] rfl rfl (by kernel_rfl) (fun _ _ _ h => h) (Or.inl ⟨by rfl, ?_⟩) ?_ ?_
          rotate_left
          · intro w'
            go_simp
            with_reducible rfl
          rotate_left
          · simp only [Act.put, List.setIfInBounds_toArray, List.set_cons_zero, List.set_cons_succ, i64_w, i32_w]
            rfl
          refine pure_ (i := 17) (N := some 72) (v := ?_) (a' := ?_) #[true, true, true, true, true, true, true, true, true, true, true, true, true, true, true, true, true, true, false] rfl rfl (by kernel_rfl) (fun _ _ _ h => h) (Or.inl ⟨by rfl, ?_⟩) ?_ ?_
          rotate_left
          · intro w'
            go_simp
            with_reducible rfl
          rotate_left
          · simp only [Act.put, List.setIfInBounds_toArray, List.set_cons_zero, List.set_cons_succ, i64_w, i32_w]
            rfl
          refine last_ (i := 18) (N := none) #[true, true, true, true, true, true, true, true, true, true, true, true, true, true, true, true, true, true, true] rfl rfl (by kernel_rfl) (by decide) (fun K hK => ?_)
          refine skip_ (w1 := ?_) (by rfl) rfl ?_ ?_
          rotate_left
          · go_simp
            rfl
          refine hK.out _ _ ?_
          clear hK K
          refine done_ (by kernel_rfl) ?_
          have hm4 : Sep W (wr.alloc (.cells #[num (numO (f lab))] 3)).drew _ := (M.out.alloc _).drawn ⟨1, rfl⟩
          have hm5 := at_ hm4 5 (by simp) (fun rs h => h.appended (m := s'.codes.length + 1) (ys := (s'.codes ++ [numO (f lab)]).map num) (by rw [List.map_append]; exact Hown4.out) Hgrow.out (by
            rcases Hat.out with h | h
            · exact .inl h.symm
            · right; rw [h]; simp [Value.ownBlock]))
          have hm6 := at_ hm5 0 (by simp) (fun rs h => box_set h 5 (.slice (some ⟨gg, 0, none⟩) (s'.codes.length + 1) cap))
          obtain ⟨_, k6, pl6, _, _⟩ := part_cells hsl2 (hm6.pull 1 (by simp)) hn Hq.out
          have hne := ne_row ((hm6.pull 1 (by simp)).pull 1 (by simp))
          have HSv := Aside0.mk (saved_calls k6 pl6)
          have M6 := Aside0.mk hm6
          have Hne := Aside0.mk (show p ≠ gp by
            intro e
            subst e
            exact hne rfl)
          clear hm4 hm5 hm6 k6 pl6 hne Hown4 Hgrow Hat e4 f4 hHeld q5 qf5 q1 q0 hlook hlookD g1 g2 l1 l2
          go_wp2_with fail
          refine HSv.out.mono ?_
          rintro e w7 ⟨rfl, hw7⟩
          have hm7 := M6.out
          rw [← hw7] at hm7
          have M7 := Aside0.mk hm7
          clear hw7 hm7 HSv M M6
          cases hsv : (decide (0 < ks.length) && decide (1 < pl)) with
          | false =>
            have E := Aside0.mk (show writeEnd (atN f) ⟨lab, ks, pl⟩ n s' = { s' with codes := s'.codes ++ [(atN f lab : Int)] } by
              unfold writeEnd isSaved
              rw [if_neg (by simp only; rw [hsv]; simp)])
            clear hsv
            go_wp2_with fail
            go_end0
            refine ⟨rfl, .slice (some ⟨gg, 0, none⟩) (s'.codes.length + 1) cap, ?_⟩
            rw [HHe.out, E.out, ← numO_atN]
            show Sep W _ (_ :: _ :: _ :: _ :: _ :: rowR 3 1 _ (s'.codes ++ [numO (f lab)]).length _ :: rs)
            rw [List.length_append, List.length_singleton]
            exact M7.out
          | true =>
            have E := Aside0.mk (show writeEnd (atN f) ⟨lab, ks, pl⟩ n s' = ⟨s'.nums.set n s'.saves, s'.saves + 1, s'.codes ++ [(atN f lab : Int)] ++ [-1]⟩ by
              unfold writeEnd isSaved
              rw [if_pos (by simp only; exact hsv)])
            clear hsv
            have hsave := hok2.saves
            obtain ⟨_, _, _, qn, qfn⟩ := part_cells hsl2 (M7.out.pull 1 (by simp)) hn Hq.out
            obtain ⟨q4, qf4⟩ : w7.cell? ⟨p, 4, none⟩ = some (.int .i64 (s'.saves : Int)) ∧ w7.frozen? ⟨p, 4, none⟩ = false := box_cell M7.out (j := 4) rfl
            obtain ⟨q5, qf5⟩ : w7.cell? ⟨p, 5, none⟩ = some (.slice (some ⟨gg, 0, none⟩) (s'.codes.length + 1) cap) ∧ w7.frozen? ⟨p, 5, none⟩ = false := box_cell M7.out (j := 5) rfl
            have hne1 := Hne.out
            have hne2 := Ne.symm hne1
            have hst := stored_n (j := n * 4 + 3) (u := num (s'.saves : Int)) (M7.out.pull 1 (by simp)) (by omega) rfl
            have hcells := numM_cells (withNums items s'.nums) (k := n) (by rw [withNums_len hsl2]; exact hn) (s'.saves : Int)
            rw [hcells] at hst
            have hm8 := push (l := _ :: _ :: _ :: _ :: _ :: _ :: rs) (i := 1) hst (by simp)
            have hm9 := at_ hm8 2 (by simp) (fun rs h => kids_modify h n (numM (s'.saves : Int)) (fun q => ⟨rfl, rfl⟩))
            have hm10 := at_ hm9 0 (by simp) (fun rs h => box_set h 4 (.int .i64 ((s'.saves : Int) + 1)))
            have M10 := Aside0.mk hm10
            clear hst hcells hm8 hm9 hm10 M7
            go_wp2_with (at_builtin; refine wp_one ((M10.out.pull 5 (by simp)).alloc (Obj.cells #[num (-1)] 3)) rfl (.tmp 93) (.tmp 94) 25 rfl Try.underlying25 info3 rfl rfl rfl (new_cell' _ _ _ (by simp)) rfl (by omega) (by omega) ?_; intro A9 c9 w9 hc9 hm11; have M11 := Aside0.mk hm11; have p5 : w9.cell? ⟨p, 5, none⟩ = some (.slice (some ⟨gg, 0, none⟩) (s'.codes.length + 1) cap) := (box_cell (M11.out.pull 1 (by simp)) (j := 5) rfl).1; have pf5 := (box_cell (M11.out.pull 1 (by simp)) (j := 5) rfl).2; clear hm11 qn qfn q4 qf4 q5 qf5)
            have hm12 := at_ M11.out 1 (by simp) (fun rs h => box_set h 5 (.slice A9 (s'.codes.length + 1 + 1) c9))
            have hm13 := hm12.perm (List.perm_middle (l₁ := [_, _, _, _, _]) (l₂ := rs)).symm
            go_end0
            refine ⟨rfl, .slice A9 (s'.codes.length + 1 + 1) c9, ?_⟩
            rw [HHe.out, E.out, ← numO_atN]
            show Sep W _ (_ :: rowR 91 4 _ items.length (partCells (withNums items (s'.nums.set n (s'.saves : Int)))) :: kidsR (withNums items (s'.nums.set n (s'.saves : Int))) :: _ :: _ :: rowR 3 1 _ (s'.codes ++ [numO (f lab)] ++ [-1]).length ((s'.codes ++ [numO (f lab)] ++ [-1]).map num) :: rs)
            rw [← withNums_set hsl2 hn, List.length_append, List.length_append, List.length_singleton, List.map_append]
            exact hm13
end Go.Proofs.Ytkonloadedbpkaa.WriteW
