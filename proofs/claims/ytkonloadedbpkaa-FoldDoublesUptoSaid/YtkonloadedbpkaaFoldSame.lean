/- Nodes that all are different, and all led to, are the parts. -/
import Derived.Test.YtkonloadedbpkaaFoldExact
namespace Go.Proofs.Ytkonloadedbpkaa.FoldSame
open Go.RowKit Go.Proofs.Ytkonloadedbpkaa.FoldPure Go.Proofs.Ytkonloadedbpkaa.FoldRun Go.Proofs.Ytkonloadedbpkaa.Gather Go.Proofs.Ytkonloadedbpkaa.Reached Go.Proofs.Ytkonloadedbpkaa.NodesPure Go.Proofs.Ytkonloadedbpkaa.FoldFacts Go.Proofs.Ytkonloadedbpkaa.FoldCount Go.Proofs.Ytkonloadedbpkaa.FoldExact
set_option linter.unusedVariables false
set_option linter.unusedSimpArgs false

/-- Each node but the last is a kid of some node. -/
def AllLed (l : List Nd) : Prop := ∀ j, j + 1 < l.length → ∃ (r : Nat) (hr : r < l.length), j ∈ l[r].2
theorem all_on {l : List Nd} (hv : Valid l) (h0 : 0 < l.length) (hr : AllLed l) : ∀ j, j < l.length → (onT l).getD j false = true := by
  have h : ∀ d j, l.length ≤ j + 1 + d → j < l.length → (onT l).getD j false = true := by
    intro d
    induction d with
    | zero =>
      intro j h1 h2
      have : j = l.length - 1 := by omega
      subst this
      exact on_root h0
    | succ d ih =>
      intro j h1 h2
      by_cases e : j + 1 = l.length
      · have : j = l.length - 1 := by omega
        subst this
        exact on_root h0
      · obtain ⟨r, hrl, hj⟩ := hr j (by omega)
        have := hv r l[r] (List.getElem?_eq_getElem hrl) j hj
        exact on_closed hv hrl (ih r (by omega) hrl) j hj
  exact fun j hj => h l.length j (by omega) hj
theorem same_gather {l : List Nd} {on : List Bool} (hv : Valid l) (hall : ∀ j, j < l.length → on.getD j false = true) (hd : l.Nodup) : ∀ i, i ≤ l.length → (gatherTo l on i).1.map core = l.take i ∧ ((gatherTo l on i).2.length = l.length ∧ ∀ j, j < i → (gatherTo l on i).2.getD j 0 = j) := by
  intro i
  induction i with
  | zero => intro _; exact ⟨by simp [gatherTo], by simp [gatherTo], fun j hj => by omega⟩
  | succ i ih =>
    intro hi
    have hlt : i < l.length := by omega
    obtain ⟨h1, h2, h3⟩ := ih (by omega)
    have e : gatherTo l on (i + 1) = gStep on (gatherTo l on i) i l[i] := by
      rw [gatherTo, List.getElem?_eq_getElem hlt]
    have hm : l[i].2.map ((gatherTo l on i).2.getD · 0) = l[i].2 := by
      have : l[i].2.map ((gatherTo l on i).2.getD · 0) = l[i].2.map id := List.map_congr_left fun k hk => by
        have := hv i l[i] (List.getElem?_eq_getElem hlt) k hk
        exact h3 k this
      rw [this, List.map_id]
    have hP : (gatherTo l on i).1.length = i := by
      have := congrArg List.length h1
      rw [List.length_map, List.length_take] at this
      omega
    have hf : findPart (gatherTo l on i).1 l[i].1 l[i].2 = none := by
      unfold findPart
      rw [h1, ix_none]
      intro hmem
      obtain ⟨m, hm2⟩ := List.mem_iff_getElem?.1 hmem
      have hml := (List.getElem?_eq_some_iff.1 hm2).1
      rw [List.length_take] at hml
      rw [List.getElem?_take_of_lt (by omega), List.getElem?_eq_getElem (by omega)] at hm2
      have h5 : l[m]'(by omega) = l[i] := Option.some.inj hm2
      have h6 : ix l l[i] = some m := ix_nodup hd (by rw [List.getElem?_eq_getElem (by omega), h5])
      have h7 : ix l l[i] = some i := ix_nodup hd (List.getElem?_eq_getElem hlt)
      rw [h6] at h7
      have := Option.some.inj h7
      omega
    rw [e]
    unfold gStep
    rw [if_pos (hall i hlt), hm]
    unfold place
    rw [hf]
    refine ⟨?_, by simpa using h2, fun j hj => ?_⟩
    · show (bumpAll _ _).map core = _
      rw [bumpAll_core, List.map_append, h1, List.take_succ_eq_append_getElem hlt]
      rfl
    · by_cases ej : j = i
      · subst ej
        show (List.set _ _ _).getD j 0 = j
        rw [set_same (by omega), hP]
      · show (List.set _ _ _).getD j 0 = j
        rw [set_ne ej]
        exact h3 j (by omega)
theorem mem_le_sum {x : Nat} : ∀ {l : List Nat}, x ∈ l → x ≤ l.sum
  | a :: l, h => by
    rw [List.sum_cons]
    rcases List.mem_cons.1 h with rfl | h
    · omega
    · have := mem_le_sum h
      omega
/-- In how many places node j stands. -/
def placesN (l : List Nd) (j : Nat) : Nat := ((l.map Prod.snd).map (List.count j)).sum
def savedN (l : List Nd) (j : Nat) : Nat := if 0 < (l.getD j (ByteArray.empty, [])).2.length ∧ 1 < placesN l j then 1 else 0
theorem same_parts {l : List Nd} (hv : Valid l) (h0 : 0 < l.length) (hr : AllLed l) (hd : l.Nodup) : (partsL l).map core = l ∧ rootN l + 1 = l.length := by
  obtain ⟨h1, h2, h3⟩ := same_gather (on := onT l) hv (all_on hv h0 hr) hd l.length (Nat.le_refl _)
  rw [List.take_length] at h1
  refine ⟨h1, ?_⟩
  unfold rootN
  rw [h3 _ (by omega)]
  omega
theorem same_kids {l : List Nd} {P : List Part} (h : P.map core = l) : P.map Part.kids = l.map Prod.snd := by
  rw [← h, List.map_map]
  rfl
theorem same_at {l : List Nd} {P : List Part} (h : P.map core = l) (m : Nat) : (partOf P m).kids = (l.getD m (ByteArray.empty, [])).2 ∧ (partOf P m).label = (l.getD m (ByteArray.empty, [])).1 := by
  subst h
  unfold partOf
  rw [List.getD_eq_getElem?_getD, List.getD_eq_getElem?_getD, List.getElem?_map]
  cases P[m]? with
  | none => exact ⟨rfl, rfl⟩
  | some q => exact ⟨rfl, rfl⟩
/-- How many codes, of different nodes. -/
theorem same_codes {ms : List ByteArray} {l : List Nd} (hv : Valid l) (h0 : 0 < l.length) (hr : AllLed l) (hd : l.Nodup) :
    (codesL ms l).codes.length = 1 + ((l.map Prod.snd).map List.length).sum + ((List.range l.length).map (savedN l)).sum ∧ (codesL ms l).codes.count (-1) = ((List.range l.length).map (savedN l)).sum := by
  obtain ⟨hc, hroot⟩ := same_parts hv h0 hr hd
  have g := gf_on hv
  have hlen : (partsL l).length = l.length := by
    have := congrArg List.length hc
    rwa [List.length_map] at this
  have hpl : ∀ m, m < l.length → (partOf (partsL l) m).places = placesN l m := fun m hm => by
    have hq : (partsL l)[m]? = some (partOf (partsL l) m) := by
      have : m < (partsL l).length := by omega
      simp [partOf, this]
    rw [g.places m _ hq, same_kids hc]
    rfl
  have hreach : ∀ m, m < rootN l → 0 < (partOf (partsL l) m).places := fun m hm => by
    rw [hpl m (by omega)]
    obtain ⟨r, hrl, hj⟩ := hr m (by omega)
    have h1 : l[r].2.count m ≤ placesN l m := by
      unfold placesN
      rw [List.map_map]
      have hmem : l[r].2.count m ∈ l.map (List.count m ∘ Prod.snd) := List.mem_map.2 ⟨l[r], List.getElem_mem hrl, rfl⟩
      exact mem_le_sum hmem
    have h2 := List.count_pos_iff.2 hj
    omega
  have h := codes_exact g.strict g.places (root := rootN l) (by omega) hreach (atW (namesL ms l).at_) (ms.length + (namesL ms l).labels.length)
  have hs : (partsL l).map (fun q => if isSaved q then 1 else 0) = (List.range l.length).map (savedN l) := by
    rw [← range_parts (partsL l) (fun q => if isSaved q then 1 else 0), hlen]
    refine List.map_congr_left fun m hm => ?_
    have hm2 := List.mem_range.1 hm
    unfold savedN isSaved
    rw [hpl m hm2, (same_at hc m).1]
    by_cases a : 0 < (l.getD m (ByteArray.empty, [])).2.length <;> by_cases b : 1 < placesN l m <;> simp [a, b]
  rw [hs, same_kids hc] at h
  exact h
end Go.Proofs.Ytkonloadedbpkaa.FoldSame
