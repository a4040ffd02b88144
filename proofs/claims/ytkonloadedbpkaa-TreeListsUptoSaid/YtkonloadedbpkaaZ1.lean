/- Gather, Reached, NodesPure. -/
import Derived.Test.YtkonloadedbpkaaZ0
import Derived.StillTailTactics
import Derived.IntWalk
import Derived.Deep.RegionHeld3
import Derived.Deep.AppendLies
import Derived.Test.YtkonloadedbpkaaPFoldDoublesx1
namespace Go.Proofs.Ytkonloadedbpkaa.Gather
open Go.RowKit Go.Maps Go.Proofs.Ytkonloadedbpkaa.Sep Go.Proofs.Ytkonloadedbpkaa.FMaps Go.Proofs.Ytkonloadedbpkaa.FoldPure Go.Proofs.Ytkonloadedbpkaa.FoldMem
open Go.Proofs.YtkonloadedbpkaaW.PrintWords
open Go.Proofs.YtkonloadedbpkaaW.PrintLast
set_option linter.unusedVariables false
set_option linter.unusedSimpArgs false

def edges (l : List Nd) (i : Nat) : Nat := ((l.take i).map (·.2.length)).sum
structure GInv (l : List Nd) (on : List Bool) (i : Nat) (items : List PartM) (L : List (List Nat)) : Prop where
  parts : items.map PartM.part = (gatherTo l on i).1
  fresh : ∀ q ∈ items, q.number = -1
  paths : Paths L
  kids : ∀ q ∈ items, q.part.kids ∈ L
  few : L.length ≤ 1 + edges l i
  less : items.length ≤ i
  ok : GOk (gatherTo l on i).1 (gatherTo l on i).2 (edges l i)
abbrev numsOf (l : List Nd) (on : List Bool) (i : Nat) : List Nat := (gatherTo l on i).2
theorem nums_len (l : List Nd) (on : List Bool) : ∀ i, (numsOf l on i).length = l.length := by
  intro i
  induction i with
  | zero => simp [numsOf, gatherTo]
  | succ i ih =>
    unfold numsOf gatherTo
    split
    · unfold gStep
      split
      · simp
        exact ih
      · exact ih
    · exact ih
theorem edges_up (l : List Nd) (i : Nat) : edges l i ≤ edges l (i + 1) := by
  unfold edges
  rw [List.take_add_one]
  simp
theorem sum_take : ∀ (l : List Nd) (i : Nat), ((l.take i).map (·.2.length)).sum ≤ (l.map (·.2.length)).sum
  | [], i => by simp
  | x :: l, 0 => by simp
  | x :: l, i + 1 => by
    have := sum_take l i
    simp only [List.take_succ_cons, List.map_cons, List.sum_cons]
    omega
theorem edges_le {l : List Nd} {B : Nat} (h : (l.map (·.2.length)).sum ≤ B) (i : Nat) : edges l i ≤ B := Nat.le_trans (sum_take l i) h
theorem edges_succ {l : List Nd} {i : Nat} (hlt : i < l.length) : edges l (i + 1) = edges l i + l[i].2.length := by
  unfold edges
  rw [List.take_succ_eq_append_getElem hlt, List.map_append, List.sum_append]
  simp
theorem kids_le {l : List Nd} {B : Nat} (h : (l.map (·.2.length)).sum ≤ B) {i : Nat} (hlt : i < l.length) : l[i].2.length ≤ B := by
  have h1 := edges_le h (i + 1)
  rw [edges_succ hlt] at h1
  omega
theorem gather_off {l : List Nd} {on : List Bool} {i : Nat} (hlt : i < l.length) (hov : on.getD i false = false) : gatherTo l on (i + 1) = gatherTo l on i := by
  rw [gatherTo, List.getElem?_eq_getElem hlt]
  simp only
  unfold gStep
  rw [if_neg (by rw [hov]; simp)]
theorem nums_off {l : List Nd} {on : List Bool} {i : Nat} (hlt : i < l.length) (hov : on.getD i false = false) : numsOf l on (i + 1) = numsOf l on i := by
  unfold numsOf
  rw [gather_off hlt hov]
theorem ginv_off {l : List Nd} {on : List Bool} {i : Nat} {items : List PartM} {L : List (List Nat)} (h : GInv l on i items L) (hlt : i < l.length) (hov : on.getD i false = false) : GInv l on (i + 1) items L := by
  have e := gather_off hlt hov
  have := edges_up l i
  exact ⟨by rw [e]; exact h.parts, h.fresh, h.paths, h.kids, by have := h.few; omega, by have := h.less; omega, by
    rw [e]
    exact ⟨h.ok.nums, h.ok.below, fun q hq => Nat.le_trans (h.ok.places q hq) this⟩⟩
/-- While a node's kids are gone through: a is the number of the list of those so far. -/
structure Inner (ns : List Nat) (L : List (List Nat)) (a j E : Nat) (items : List PartM) : Prop where
  paths : Paths L
  here : L[a]? = some (ns.take j)
  few : L.length ≤ E + j
  kids : ∀ q ∈ items, q.part.kids ∈ L
theorem inner_known {ns : List Nat} {L : List (List Nat)} {a j E m : Nat} {items : List PartM} (h : Inner ns L a j E items) (hj : j < ns.length) (hk : listsF L (a, ns[j]) = some m) : Inner ns L m (j + 1) E items := by
  refine ⟨h.paths, ?_, by have := h.few; omega, h.kids⟩
  unfold listsF at hk
  simp only [h.here] at hk
  rw [List.take_succ_eq_append_getElem hj]
  exact ix_some hk
theorem inner_new {ns : List Nat} {L : List (List Nat)} {a j E : Nat} {items : List PartM} (h : Inner ns L a j E items) (hj : j < ns.length) (hk : listsF L (a, ns[j]) = none) : Inner ns (L ++ [ns.take (j + 1)]) L.length (j + 1) E items := by
  have e := List.take_succ_eq_append_getElem hj
  rw [e]
  refine ⟨paths_new h.paths h.here hk, by simp, by simp; have := h.few; omega, fun q hq => List.mem_append_left _ (h.kids q hq)⟩
theorem inner_maps {ns : List Nat} {L : List (List Nat)} {a j E : Nat} {items : List PartM} (h : Inner ns L a j E items) (hj : j < ns.length) (hk : listsF L (a, ns[j]) = none) :
    upd (listsF L) (a, ns[j]) L.length = listsF (L ++ [ns.take (j + 1)]) ∧ kindsF (L ++ [ns.take (j + 1)]) (items.map PartM.part) = kindsF L (items.map PartM.part) := by
  rw [List.take_succ_eq_append_getElem hj]
  constructor
  · funext x
    rw [listsF_new h.paths h.here hk]
    rfl
  · refine kindsF_path (fun q hq => ?_) ?_
    · obtain ⟨r, hr, rfl⟩ := List.mem_map.1 hq
      exact h.kids r hr
    · unfold listsF at hk
      simp only [h.here] at hk
      exact ix_none.1 hk
theorem paths_pos {L : List (List Nat)} (h : Paths L) : 0 < L.length := (List.getElem?_eq_some_iff.1 h.zero).1
theorem inner_lt {ns : List Nat} {L : List (List Nat)} {a j E : Nat} {items : List PartM} (h : Inner ns L a j E items) : a < L.length := (List.getElem?_eq_some_iff.1 h.here).1
theorem inner_start {l : List Nd} {on : List Bool} {i : Nat} {items : List PartM} {L : List (List Nat)} (h : GInv l on i items L) (ns : List Nat) : Inner ns L 0 0 (1 + edges l i) items :=
  ⟨h.paths, by rw [List.take_zero]; exact h.paths.zero, by have := h.few; omega, h.kids⟩
theorem gather_on {l : List Nd} {on : List Bool} {i : Nat} (hlt : i < l.length) (hov : on.getD i false = true) {ns : List Nat} (hns : ns = (l[i].2.map fun k => (numsOf l on i).getD k 0)) :
    gatherTo l on (i + 1) = ((place (gatherTo l on i).1 l[i].1 ns).1, (numsOf l on i).set i (place (gatherTo l on i).1 l[i].1 ns).2) := by
  rw [gatherTo, List.getElem?_eq_getElem hlt]
  simp only
  unfold gStep
  rw [if_pos hov, hns]
theorem kinds_here {ns : List Nat} {L : List (List Nat)} {a E : Nat} {items : List PartM} (h : Inner ns L a ns.length E items) (s : ByteArray) : kindsF L (items.map PartM.part) (s, a) = findPart (items.map PartM.part) s ns := by
  have := h.here
  rw [List.take_length] at this
  unfold kindsF
  simp only [this]
theorem ns_ok {l : List Nd} {on : List Bool} {i : Nat} {items : List PartM} {L : List (List Nat)} (h : GInv l on i items L) (ks : List Nat) : ∀ n ∈ ks.map (fun k => (numsOf l on i).getD k 0), n < items.length ∨ n = 0 := by
  intro n hn
  obtain ⟨k, _, rfl⟩ := List.mem_map.1 hn
  have h2 := congrArg List.length h.parts
  rw [List.length_map] at h2
  rw [List.getD_eq_getElem?_getD]
  cases hk : (numsOf l on i)[k]? with
  | none => right; rfl
  | some m =>
    have := h.ok.nums m (List.mem_of_getElem? hk)
    rw [h2]
    simpa using this
theorem set_mem {xs : List Nat} {i v n : Nat} (h : n ∈ xs.set i v) : n ∈ xs ∨ n = v := List.mem_or_eq_of_mem_set h
theorem ginv_known {l : List Nd} {on : List Bool} {i : Nat} {items : List PartM} {L L' : List (List Nat)} (h : GInv l on i items L) (hlt : i < l.length) (hov : on.getD i false = true) {ns : List Nat} (hns : ns = (l[i].2.map fun k => (numsOf l on i).getD k 0))
    {a : Nat} (hI : Inner ns L' a ns.length (1 + edges l i) items) {n : Nat} (hf : findPart (items.map PartM.part) l[i].1 ns = some n) : GInv l on (i + 1) items L' ∧ numsOf l on (i + 1) = (numsOf l on i).set i n ∧ n < items.length := by
  have e := gather_on hlt hov hns
  have hp : place (gatherTo l on i).1 l[i].1 ns = ((gatherTo l on i).1, n) := by
    unfold place
    rw [← h.parts, hf]
  rw [hp] at e
  have hnl : ns.length = l[i].2.length := by rw [hns]; simp
  have he := edges_succ hlt
  have hlen : n < items.length := by
    have h1 := ix_some hf
    have h2 := (List.getElem?_eq_some_iff.1 h1).1
    simpa using h2
  have hpl := congrArg List.length h.parts
  rw [List.length_map] at hpl
  refine ⟨⟨by rw [e]; exact h.parts, h.fresh, hI.paths, hI.kids, by have := hI.few; omega, by have := h.less; omega, ?_⟩, by unfold numsOf; rw [e], hlen⟩
  rw [e]
  refine ⟨fun m hm => ?_, h.ok.below, fun q hq => by have := h.ok.places q hq; omega⟩
  rcases set_mem hm with hm | rfl
  · exact h.ok.nums m hm
  · left
    simp only
    omega
theorem map_set (xs : List Nat) (i n : Nat) : (xs.set i n).map nat = (xs.map nat).set i (nat n) := by rw [List.map_set]
theorem build91 (s : ByteArray) (A : Option Addr) (n c : Nat) (w : World) : (Instr.build 91 #[(0, .string s), (1, .slice A n c), (3, .int .i64 (-1))]).run Try.prog w = .ok (.agg #[.string s, .slice A n c, .int .i64 0, .int .i64 (-1)]) w := by kernel_rfl
theorem cell_far {w w3 : World} {a : Addr} (h : w3.heap[a.block]? = w.heap[a.block]?) : w3.cell? a = w.cell? a ∧ w3.frozen? a = w.frozen? a := by
  constructor
  · simp [World.cell?, h]
  · simp [World.frozen?, h]
/-- While the places of a new part's kids are counted. -/
structure L3 (l : List Nd) (i : Nat) (its : List PartM) (P : List Part) (ns : List Nat) (s : ByteArray) (j n : Nat) (A : Option Addr) (c : Nat) : Prop where
  parts : its.map PartM.part = bumpAll (P ++ [⟨s, ns, 0⟩]) (ns.take j)
  len : its.length = n + 1
  fresh : ∀ q ∈ its, q.number = -1
  last : ∃ q, its[n]? = some q ∧ q.A = A ∧ q.c = c ∧ q.part.kids = ns
  places : ∀ q ∈ its, q.part.places ≤ edges l i + j
theorem l3_start {l : List Nd} {on : List Bool} {i : Nat} {items : List PartM} {L : List (List Nat)} (h : GInv l on i items L) (s : ByteArray) (ns : List Nat) (A : Option Addr) (c : Nat) : L3 l i (items ++ [⟨⟨s, ns, 0⟩, -1, A, c⟩]) (items.map PartM.part) ns s 0 items.length A c := by
  refine ⟨by simp [bumpAll], by simp, fun q hq => ?_, ⟨⟨⟨s, ns, 0⟩, -1, A, c⟩, by simp, rfl, rfl, rfl⟩, fun q hq => ?_⟩
  · rcases List.mem_append.1 hq with hq | hq
    · exact h.fresh q hq
    · simp at hq; rw [hq]
  · rcases List.mem_append.1 hq with hq | hq
    · have := h.ok.places q.part (by rw [← h.parts]; exact List.mem_map.2 ⟨q, hq, rfl⟩)
      omega
    · simp at hq; rw [hq]; simp
theorem l3_step {l : List Nd} {i : Nat} {its : List PartM} {P : List Part} {ns : List Nat} {s : ByteArray} {j n : Nat} {A : Option Addr} {c : Nat} (h : L3 l i its P ns s j n A c) (hj : j < ns.length) : L3 l i (its.modify ns[j] bumpM) P ns s (j + 1) n A c := by
  refine ⟨?_, by rw [List.length_modify]; exact h.len, modify_all (f := bumpM) h.fresh (fun q hq => hq) _, ?_, ?_⟩
  · rw [bumpM_parts, h.parts, List.take_succ_eq_append_getElem hj, bumpAll_snoc]
  · obtain ⟨q, hq, h1, h2, h3⟩ := h.last
    by_cases e : ns[j] = n
    · refine ⟨bumpM q, ?_, h1, h2, h3⟩
      rw [List.getElem?_modify, hq, e]
      simp
    · refine ⟨q, ?_, h1, h2, h3⟩
      rw [List.getElem?_modify, hq]
      simp [e]
  · intro q hq
    have h1 : q.part ∈ (its.map PartM.part).modify ns[j] bump := by
      rw [← bumpM_parts]
      exact List.mem_map.2 ⟨q, hq, rfl⟩
    have := bump_places (e := edges l i + j) (fun r hr => by
      obtain ⟨x, hx, rfl⟩ := List.mem_map.1 hr
      exact h.places x hx) _ _ h1
    omega
theorem core_at {P Q : List Part} (h : P.map core = Q.map core) {i : Nat} {q : Part} (hq : P[i]? = some q) : ∃ r, Q[i]? = some r ∧ r.kids = q.kids ∧ r.label = q.label := by
  have h1 : (P.map core)[i]? = some (core q) := by rw [List.getElem?_map, hq]; rfl
  rw [h, List.getElem?_map] at h1
  cases hr : Q[i]? with
  | none => rw [hr] at h1; cases h1
  | some r =>
    rw [hr] at h1
    have e : core r = core q := Option.some.inj h1
    unfold core at e
    simp only [Prod.mk.injEq] at e
    exact ⟨r, rfl, e.2, e.1⟩
theorem ginv_new {l : List Nd} {on : List Bool} {i : Nat} {items its : List PartM} {L L' : List (List Nat)} (h : GInv l on i items L) (hlt : i < l.length) (hov : on.getD i false = true) {ns : List Nat} (hns : ns = (l[i].2.map fun k => (numsOf l on i).getD k 0))
    {a : Nat} (hI : Inner ns L' a ns.length (1 + edges l i) items) (hf : findPart (items.map PartM.part) l[i].1 ns = none) {A : Option Addr} {c : Nat} (h3 : L3 l i its (items.map PartM.part) ns l[i].1 ns.length items.length A c) :
    GInv l on (i + 1) its L' ∧ numsOf l on (i + 1) = (numsOf l on i).set i items.length ∧ upd (kindsF L' (items.map PartM.part)) (l[i].1, a) items.length = kindsF L' (its.map PartM.part) := by
  have e := gather_on hlt hov hns
  have hp : place (gatherTo l on i).1 l[i].1 ns = (its.map PartM.part, items.length) := by
    unfold place
    rw [← h.parts, hf]
    simp only [List.length_map, Prod.mk.injEq, and_true]
    have := h3.parts
    rw [List.take_length] at this
    exact this.symm
  rw [hp] at e
  have hnl : ns.length = l[i].2.length := by rw [hns]; simp
  have he := edges_succ hlt
  have hpl := congrArg List.length h.parts
  rw [List.length_map] at hpl
  have hcore : (its.map PartM.part).map core = (items.map PartM.part ++ [(⟨l[i].1, ns, 0⟩ : Part)]).map core := by
    rw [h3.parts, bumpAll_core]
  have hhere := hI.here
  rw [List.take_length] at hhere
  have hok := ns_ok h l[i].2
  rw [← hns] at hok
  refine ⟨⟨by rw [e], h3.fresh, hI.paths, ?_, by have := hI.few; omega, by have := h.less; rw [h3.len]; omega, ?_⟩, by unfold numsOf; rw [e], ?_⟩
  · intro q hq
    obtain ⟨j, hj⟩ := List.mem_iff_getElem?.1 hq
    obtain ⟨r, hr, hk, _⟩ := core_at hcore (i := j) (q := q.part) (by rw [List.getElem?_map, hj]; rfl)
    have hm := List.mem_of_getElem? hr
    rw [← hk]
    rcases List.mem_append.1 hm with hm | hm
    · obtain ⟨x, hx, rfl⟩ := List.mem_map.1 hm
      exact hI.kids x hx
    · simp only [List.mem_singleton] at hm
      rw [hm]
      exact List.mem_of_getElem? hhere
  · rw [e]
    refine ⟨fun m hm => ?_, fun j q hq => ?_, fun q hq => ?_⟩
    · simp only [List.length_map, h3.len]
      rcases set_mem hm with hm | rfl
      · have := h.ok.nums m hm
        rw [← hpl] at this
        omega
      · omega
    · obtain ⟨r, hr, hk, _⟩ := core_at hcore hq
      rw [← hk]
      by_cases hjl : j < items.length
      · rw [List.getElem?_append_left (by simpa using hjl), h.parts] at hr
        exact h.ok.below j r hr
      · have hj2 := (List.getElem?_eq_some_iff.1 hr).1
        simp at hj2
        have : j = items.length := by omega
        subst this
        rw [List.getElem?_append_right (by simp)] at hr
        simp at hr
        subst hr
        intro k hkm
        have := hok k hkm
        omega
    · obtain ⟨x, hx, rfl⟩ := List.mem_map.1 hq
      have := h3.places x hx
      omega
  · funext x
    rw [kindsF_core hcore, kindsF_new hI.paths.apart hhere hf 0 x, List.length_map]
    rfl
theorem ginv_zero (l : List Nd) (on : List Bool) : GInv l on 0 [] [[]] :=
  ⟨rfl, fun q hq => by simp at hq, paths_nil, fun q hq => by simp at hq, by simp [edges], by simp, ⟨fun n hn => by simp [gatherTo] at hn; exact .inr hn.2, fun i q h => by simp [gatherTo] at h, fun q hq => by simp [gatherTo] at hq⟩⟩

set_option maxHeartbeats 4000000 in
set_option maxRecDepth 100000 in
theorem gather_calls {W w : World} {rs : List Res} {p : Nat} {A : Option Addr} {c : Nat} {l : List Nd} {bo co : Nat} {on : List Bool} {mp lv fv sv cv : Value}
    (hM : Sep W w (readR W (NodesC A l) :: rowR 4 1 (.slice (some ⟨bo, 0, none⟩) l.length co) l.length (on.map Value.bool) :: boxR p 62 #[.slice none 0 0, mp, lv, fv, sv, cv] :: rs))
    (h0 : 0 < l.length) (hl : l.length ≤ 4194304) (hv : Valid l) (hon : on.length = l.length) (he : (l.map (·.2.length)).sum ≤ 4194304) (hlab : ∀ x ∈ l, x.1.size ≤ maxLen) :
    Calls Try.prog 36 #[.pointer (some ⟨p, 0, none⟩), .slice A l.length c, .slice (some ⟨bo, 0, none⟩) l.length co] w fun e w' => ∃ pv items, e = .returned (nat ((gatherTo l on l.length).2.getD (l.length - 1) 0)) ∧
      items.map PartM.part = (gatherTo l on l.length).1 ∧ (∀ q ∈ items, q.number = -1) ∧
      Sep W w' (readR W (NodesC A l) :: rowR 4 1 (.slice (some ⟨bo, 0, none⟩) l.length co) l.length (on.map Value.bool) :: boxR p 62 #[pv, mp, lv, fv, sv, cv] :: rowR 91 4 pv items.length (partCells items) :: kidsR items :: rs) := by
  have M := Aside0.mk hM
  have HV := Aside0.mk hv
  have HLab := Aside0.mk hlab
  have HE := Aside0.mk he
  clear hM hv hlab he
  have hmm := @run_makeMap Try.prog
  go_enter Try.func36, Try.ntmps36
  go_wp2_with (first
    | (at_make; refine wp_make (map_fresh (map_fresh M.out mL) mQ) rfl _ _ 25 3 rfl Try.underlying25 info3 rfl rfl rfl (by omega) (by omega) ?_; intro w1 hm1; clear M; have M := Aside0.mk hm1; clear hm1))
  go_loopw [30] (fun v30 wr => ∃ (i : Nat) (pv : Value) (items : List PartM) (L : List (List Nat)) (gl gk : Nat), i ≤ l.length ∧ v30 = .int .i64 i ∧ gl ≤ 1 + edges l i ∧ gk ≤ i ∧ Aside0 (GInv l on i items L) ∧
    Aside0 (Sep W wr (rowR 3 1 (.slice (some ⟨w.heap.size + 1 + 1, 0, none⟩) l.length l.length) l.length ((numsOf l on i).map nat) :: mapR mQ (w.heap.size + 1) gk items.length (kindsF L (items.map PartM.part)) :: mapR mL w.heap.size gl (L.length - 1) (listsF L) :: readR W (NodesC A l) :: rowR 4 1 (.slice (some ⟨bo, 0, none⟩) l.length co) l.length (on.map Value.bool) :: boxR p 62 #[pv, mp, lv, fv, sv, cv] :: rowR 91 4 pv items.length (partCells items) :: kidsR items :: rs))) (fun v30 _ => l.length - (intOf v30).toNat)
  case atStart =>
    have e1 : (w.alloc (Obj.map #[] 0)).heap.size = w.heap.size + 1 := by simp
    have e2 : ((w.alloc (Obj.map #[] 0)).alloc (Obj.map #[] 0)).heap.size = w.heap.size + 1 + 1 := by simp
    have hm := M.out
    rw [e1, e2, show (fun _ => none : ByteArray × Nat → Option Nat) = kindsF [[]] (([] : List PartM).map PartM.part) from (kindsF_nil _).symm, show (fun _ => none : Nat × Nat → Option Nat) = listsF [[]] from listsF_nil.symm] at hm
    have hm2 := (kids_none hm).perm (List.perm_middle (l₁ := [_, _, _, _, _, _]) (l₂ := rs)).symm
    have hm3 := (row_nil hm2 91 4).perm (List.perm_middle (l₁ := [_, _, _, _, _, _]) (l₂ := kidsR [] :: rs)).symm
    exact ⟨0, .slice none 0 0, [], [[]], 0, 0, by omega, rfl, by omega, by omega, ⟨ginv_zero l on⟩, ⟨by rw [show (numsOf l on 0).map nat = List.replicate l.length (.int .i64 0) by simp [numsOf, gatherTo, nat]]; exact hm3⟩⟩
  case round =>
    clear M
    obtain ⟨i, pv, items, L, gl, gk, hi, rfl, hgl, hgk, HI, M⟩ := hrel
    by_cases hlt : i < l.length
    · obtain ⟨ad, Ak, ck, rfl, x0, x1, hck, hCk⟩ := node_at (read_at (M.out.pull 3 (by simp))) hlt
      obtain ⟨_, _, eo, _, hcell, _⟩ := row_some (M.out.pull 4 (by simp)).row (by omega)
      simp only [Value.slice.injEq, Option.some.injEq, Addr.mk.injEq, and_true, true_and] at eo
      obtain ⟨rfl, rfl⟩ := eo
      have o0 := hcell i (.bool (on.getD i false)) (by simp [hon, hlt])
      clear hcell
      have n0 : bo < wr.heap.size := World.block_lt_of_cell? wr _ o0
      cases hov : on.getD i false with
      | false =>
        rw [hov] at o0
        have HI2 := Aside0.mk (ginv_off HI.out hlt hov)
        have Hno := Aside0.mk (nums_off hlt hov)
        clear hov
        go_wp2_with fail
        go_roundw
        case rel => exact ⟨i + 1, pv, items, L, gl, gk, by omega, by go_num, by have := edges_up l i; omega, by omega, HI2, by rw [Hno.out]; exact ⟨M.out.alloc _⟩⟩
        case measure => simp [intOf]; omega
      | true =>
        rw [hov] at o0
        obtain ⟨wo, rfl⟩ : ∃ wo : World, wo = wr := ⟨_, rfl⟩
        have Ho := Aside0.mk hov
        clear hov
        obtain ⟨ns, hns⟩ : ∃ ns, ns = (l[i].2.map fun k => (numsOf l on i).getD k 0) := ⟨_, rfl⟩
        have hnsl : ns.length = l[i].2.length := by rw [hns]; simp
        have hn1 : ns.length ≤ l[i].2.length := by omega
        have hn2 : l[i].2.length ≤ ns.length := by omega
        clear hnsl
        have HNs := Aside0.mk hns
        clear hns
        replace M := Aside0.mk (box_fresh (at_ M.out 3 (by simp) (fun _ h => read_cell h _ (fun w' => nodes_cell hlt) x1)) 27 #[.string l[i].1, .slice Ak l[i].2.length ck])
        go_wp2_with fail
        have hfew := HI.out.few
        have hEd := edges_le HE.out i
        have hnle : ns.length ≤ 4194304 := by have := kids_le HE.out hlt; omega
        go_loopw [12, 13, 43] (fun v12 v13 v43 wq => ∃ (j a : Nat) (L' : List (List Nat)) (gl' : Nat), j ≤ ns.length ∧ v43 = .int .i64 j ∧ v13 = .int .i64 a ∧ gl' ≤ 1 + edges l i + j ∧ Aside0 (Inner ns L' a j (1 + edges l i) items) ∧
          Aside0 (Sep W wq (rowR 3 1 v12 j ((ns.take j).map nat) :: boxR wo.heap.size 27 #[.string l[i].1, .slice Ak l[i].2.length ck] :: rowR 3 1 (.slice (some ⟨w.heap.size + 1 + 1, 0, none⟩) l.length l.length) l.length ((numsOf l on i).map nat) :: mapR mQ (w.heap.size + 1) gk items.length (kindsF L' (items.map PartM.part)) :: mapR mL w.heap.size gl' (L'.length - 1) (listsF L') ::
            readR W (fun w' => NodesC (some ad) l w' ∧ w'.cell? ⟨(ad.add (i * 2)).block, (ad.add (i * 2)).off + 1, none⟩ = some (.slice Ak l[i].2.length ck)) :: rowR 4 1 (.slice (some ⟨bo, 0, none⟩) l.length co) l.length (on.map Value.bool) :: boxR p 62 #[pv, mp, lv, fv, sv, cv] :: rowR 91 4 pv items.length (partCells items) :: kidsR items :: rs))) (fun _ _ v43 _ => ns.length - (intOf v43).toNat)
        case atStart => exact ⟨0, 0, L, gl, by omega, rfl, rfl, by omega, ⟨inner_start HI.out ns⟩, ⟨row_nil M.out 3 1⟩⟩
        case round =>
          clear M
          obtain ⟨j, a, L', gl', hj, rfl, rfl, hgl', HIn, M⟩ := hrel
          have hpos := paths_pos HIn.out.paths
          have hfew' := HIn.out.few
          have halt := inner_lt HIn.out
          obtain ⟨A12, c12, e12, hc12⟩ := row_slice M.out.row
          subst e12
          by_cases hjl : j < ns.length
          · have hjl' : j < l[i].2.length := by omega
            obtain ⟨hNC, hNx⟩ := read_at (M.out.pull 5 (by simp))
            obtain ⟨ak, rfl, hk0⟩ := kid_at (kids_of hNC hlt hNx) rfl hjl'
            have hki := HV.out i l[i] (List.getElem?_eq_getElem hlt) _ (List.getElem_mem hjl')
            obtain ⟨_, _, eo, _, hcell, hfz, _⟩ := row_some (M.out.pull 2 (by simp)).row (by omega)
            simp only [Value.slice.injEq, Option.some.injEq, Addr.mk.injEq, and_true, true_and] at eo
            obtain ⟨rfl, hcx⟩ := eo
            clear hcx
            have hnsj : ns[j] = (numsOf l on i).getD l[i].2[j] 0 := by
              have := HNs.out
              subst this
              simp
            have hkl : l[i].2[j] < (numsOf l on i).length := by rw [nums_len]; omega
            have c51 := hcell l[i].2[j] (nat ns[j]) (by rw [List.getElem?_map, List.getElem?_eq_getElem hkl, hnsj, List.getD_eq_getElem?_getD, List.getElem?_eq_getElem hkl]; rfl)
            have n1 := World.block_lt_of_cell? _ _ c51
            have hnk : ((numsOf l on i).map nat)[l[i].2[j]]? = some (nat ns[j]) := by rw [List.getElem?_map, List.getElem?_eq_getElem hkl, hnsj, List.getD_eq_getElem?_getD, List.getElem?_eq_getElem hkl]; rfl
            have hnb : ns[j] ≤ 4194304 := by
              have h1 : ns[j] ∈ numsOf l on i := by
                rw [hnsj, List.getD_eq_getElem?_getD, List.getElem?_eq_getElem hkl]
                exact List.getElem_mem hkl
              have h2 := congrArg List.length HI.out.parts
              rw [List.length_map] at h2
              have := HI.out.less
              rcases HI.out.ok.nums _ h1 with h | h <;> omega
            have hknown := fun m => inner_known (m := m) HIn.out hjl
            have hnew := inner_new HIn.out hjl
            have hmaps := inner_maps HIn.out hjl
            have htk : (ns.take (j + 1)).map nat = (ns.take j).map nat ++ [nat ns[j]] := by rw [List.take_succ_eq_append_getElem hjl, List.map_append]; rfl
            have Hcell := Aside0.mk hcell
            generalize ns[j] = n at c51 hnb hknown hnew hmaps htk hnk
            generalize l[i].2[j] = k at hk0 hki c51 hkl hnk
            have Hnk := Aside0.mk hnk
            clear hnk
            have Htk := Aside0.mk htk
            clear hnsj hcell hNC hNx hfz htk
            replace M := Aside0.mk (box_fresh M.out 87 #[num a, num n])
            have c51' : wr.cell? ⟨w.heap.size + 1 + 1, k, none⟩ = some (.int .i64 (n : Int)) := c51
            clear c51
            cases hlk : listsF L' (a, n) with
            | some m =>
              have HIn2 := Aside0.mk (hknown m hlk)
              have hlook := (map_at (M.out.pull 5 (by simp))).look (m := mL) (s := (a, n)) ⟨by omega, by omega⟩
              rw [hlk] at hlook
              replace hlook : (Instr.lookup 84 (.map (some w.heap.size)) (.agg #[.int .i64 (a : Int), .int .i64 (n : Int)]) true).run Try.prog (wr.alloc (.cells #[num a, num n] 87)) = .ok (.tuple #[.int .i64 (m : Int), .bool true]) (wr.alloc (.cells #[num a, num n] 87)) := hlook
              clear hlk hknown hnew hmaps
              go_wp2_with (at_builtin; refine wp_one ((M.out.pull 1 (by simp)).alloc (Obj.cells #[num n] 3)) rfl (.tmp 68) (.tmp 73) 25 rfl Try.underlying25 info3 rfl rfl rfl (new_cell' _ _ _ (by simp)) rfl (by omega) (by omega) ?_; intro A5 c5 w5 hc5 hm5; clear M; have M := Aside0.mk hm5; clear hm5)
              have hm5 := (M.out.pull 1 (by simp)).tail
              go_wp2_with fail
              go_roundw
              case rel => exact ⟨j + 1, m, L', gl', by omega, by go_num, rfl, by omega, HIn2, ⟨by rw [Htk.out]; exact hm5⟩⟩
              case measure => simp [intOf]; omega
            | none =>
              have HIn2 := Aside0.mk (hnew hlk)
              obtain ⟨hmp1, hmp2⟩ := hmaps hlk
              have Hmp1 := Aside0.mk hmp1
              have Hmp2 := Aside0.mk hmp2
              have hlook := (map_at (M.out.pull 5 (by simp))).look (m := mL) (s := (a, n)) ⟨by omega, by omega⟩
              have Hlk := Aside0.mk hlk
              rw [hlk] at hlook
              replace hlook : (Instr.lookup 84 (.map (some w.heap.size)) (.agg #[.int .i64 (a : Int), .int .i64 (n : Int)]) true).run Try.prog (wr.alloc (.cells #[num a, num n] 87)) = .ok (.tuple #[.int .i64 0, .bool false]) (wr.alloc (.cells #[num a, num n] 87)) := hlook
              have e1 : ((L'.length - 1 : Nat) : Int) + 1 = (L'.length : Int) := by omega
              clear hlk hknown hnew hmaps hmp1 hmp2
              go_wp2_with (first
                | (at_len; refine wp_len (m := mL) rfl (.tmp 61) rfl rfl (map_at (M.out.pull 5 (by simp))) ?_)
                | (at_mapUpdate; refine wp_store (m := mL) (s := (a, n)) (v := L'.length) rfl _ _ _ rfl rfl rfl rfl (map_at (M.out.pull 5 (by simp))) ⟨by omega, by omega⟩ Hlk.out (by unfold maxLen; omega) (by omega) ?_; intro w3 hm3 hg3; clear hlook e1; have hM3 := at_ M.out 5 (by simp) (fun rs h => map_turn h hm3 hg3); clear M; have M := Aside0.mk hM3; have d51 : w3.cell? ⟨w.heap.size + 1 + 1, k, none⟩ = some (.int .i64 (n : Int)) := row_cell (M.out.pull 3 (by simp)) Hnk.out; have d1 := World.block_lt_of_cell? _ _ d51; clear hM3 hm3 hg3)
                | (at_builtin; refine wp_one ((M.out.pull 1 (by simp)).alloc (Obj.cells #[num n] 3)) rfl (.tmp 68) (.tmp 73) 25 rfl Try.underlying25 info3 rfl rfl rfl (new_cell' _ _ _ (by simp)) rfl (by omega) (by omega) ?_; intro A5 c5 w5 hc5 hm5; clear M; have M := Aside0.mk hm5; clear hm5))
              have hm5 := (M.out.pull 1 (by simp)).tail
              go_wp2_with fail
              go_roundw
              case rel => exact ⟨j + 1, L'.length, L' ++ [ns.take (j + 1)], gl' + 1, by omega, by go_num, rfl, by omega, HIn2, ⟨by rw [Htk.out, Hmp2.out, ← Hmp1.out, List.length_append, List.length_singleton, show L'.length + 1 - 1 = L'.length - 1 + 1 by omega]; exact hm5⟩⟩
              case measure => simp [intOf]; omega
          · have hje : j = ns.length := by omega
            subst hje
            have hM0 := M.out
            rw [List.take_length] at hM0
            replace M := Aside0.mk hM0
            clear hM0
            have hks := kinds_here HIn.out l[i].1
            have hlab := HLab.out l[i] (List.getElem_mem hlt)
            obtain ⟨x0, _⟩ := box_cell (M.out.pull 1 (by simp)) (j := 0) rfl
            have hx1 := World.block_lt_of_cell? _ _ x0
            have hlook := (map_at (M.out.pull 3 (by simp))).look (m := mQ) (s := (l[i].1, a)) ⟨hlab, by omega⟩
            have hnf := row_free (M.out.pull 2 (by simp)) h0 i
            cases hfp : findPart (items.map PartM.part) l[i].1 ns with
            | some n =>
              rw [hfp] at hks
              obtain ⟨hG, hN, hnl⟩ := ginv_known HI.out hlt Ho.out HNs.out HIn.out hfp
              have HG := Aside0.mk hG
              have HN := Aside0.mk hN
              rw [hks] at hlook
              replace hlook : (Instr.lookup 85 (.map (some (w.heap.size + 1))) (.agg #[.string l[i].1, .int .i64 (a : Int)]) true).run Try.prog wr = .ok (.tuple #[.int .i64 (n : Int), .bool true]) wr := hlook
              have c9 : ∃ u, wr.cell? ⟨w.heap.size + 1 + 1, i, none⟩ = some u := ⟨_, row_cell (M.out.pull 2 (by simp)) (List.getElem?_eq_getElem (by rw [List.length_map, nums_len]; exact hlt))⟩
              obtain ⟨u9, c9⟩ := c9
              clear hks hfp hG hN
              go_wp2_with fail
              have hm := at_ M.out 2 (by simp) (fun rs h => Sep.stored h (j := i) (u := nat n) hlt rfl)
              have hm2 := at_ hm.tail.tail 3 (by simp) (fun rs h => read_weak (C' := NodesC (some ad) l) h (fun w' hc => hc.1))
              go_roundw
              case rel => exact ⟨i + 1, pv, items, L', gl', gk, by omega, by go_num, by have := edges_succ hlt; omega, by omega, HG, ⟨by rw [HN.out, map_set]; exact hm2⟩⟩
              case measure => simp [intOf]; omega
            | none =>
              rw [hfp] at hks
              have Hfp := Aside0.mk hfp
              have Hks := Aside0.mk hks
              rw [hks] at hlook
              replace hlook : (Instr.lookup 85 (.map (some (w.heap.size + 1))) (.agg #[.string l[i].1, .int .i64 (a : Int)]) true).run Try.prog wr = .ok (.tuple #[.int .i64 0, .bool false]) wr := hlook
              obtain ⟨Ap, cp, ep, hcp⟩ := row_slice (M.out.pull 8 (by simp)).row
              subst ep
              obtain ⟨p0, _⟩ := box_cell (M.out.pull 7 (by simp)) (j := 0) rfl
              have hless := HI.out.less
              clear hks hfp
              go_wp2_with (at_mapUpdate; refine wp_store (m := mQ) (s := (l[i].1, a)) (v := items.length) rfl _ _ _ rfl rfl rfl rfl (map_at (M.out.pull 3 (by simp))) ⟨hlab, by omega⟩ Hks.out (by unfold maxLen; omega) (by omega) ?_; intro w3 hm3 hg3; clear hlook; have hM3 := at_ M.out 3 (by simp) (fun rs h => map_turn h hm3 hg3); clear M; have M := Aside0.mk hM3; clear hM3 hm3 hg3)
              obtain ⟨q0, qf0⟩ := box_cell (M.out.pull 7 (by simp)) (j := 0) rfl
              obtain ⟨y0, _⟩ := box_cell (M.out.pull 1 (by simp)) (j := 0) rfl
              have l1 : p < w3.heap.size := World.block_lt_of_cell? _ _ q0
              have l2 : wo.heap.size < w3.heap.size := World.block_lt_of_cell? _ _ y0
              have g1 : (Value.slice Ap items.length cp).ownBlock ≠ some p := ne_row ((M.out.pull 8 (by simp)).pull 8 (by simp))
              have g2 : (Value.slice Ap items.length cp).ownBlock ≠ some wo.heap.size := ne_row ((M.out.pull 8 (by simp)).pull 2 (by simp))
              obtain ⟨i0, hi0, hz0, hz1, hz2⟩ := info_parts info91
              have hown := (M.out.pull 8 (by simp)).row
              have Hown := Aside0.mk hown
              have Hi0 := Aside0.mk hi0
              have Hz0 := Aside0.mk hz0
              have Hz1 := Aside0.mk hz1
              have Hz2 := Aside0.mk hz2
              clear x0 p0 hown hi0 hz0 hz1 hz2
              have hbd := build91 l[i].1 A12 ns.length c12
              refine start_ (n := 14) (S := fun w' => w'.cell? ⟨p, 0, none⟩ = some (.slice Ap items.length cp) ∧ w'.cell? ⟨wo.heap.size, 0, none⟩ = some (.string l[i].1)) (ds := [13]) #[false, false, false, false, false, false, false, false, false, false, false, false, false, false] (by kernel_rfl) rfl rfl ⟨q0, y0⟩ (fun hHeld => ?_)
              refine pure_ (i := 0) (N := some 98) (v := ?_) (a' := ?_) #[true, false, false, false, false, false, false, false, false, false, false, false, false, false] rfl rfl (by kernel_rfl) (fun _ _ _ h => h) (Or.inl ⟨by rfl, ?_⟩) ?_ ?_
              rotate_left
              · intro w'
                go_simp
                with_reducible rfl
              rotate_left
              · simp only [Act.put, List.setIfInBounds_toArray, List.set_cons_zero, List.set_cons_succ, i64_w, i32_w]
                rfl
              refine pure_ (i := 1) (N := some 99) (v := ?_) (a' := ?_) #[true, true, false, false, false, false, false, false, false, false, false, false, false, false] rfl rfl (by kernel_rfl) (fun _ _ _ h => h) (Or.inl ⟨by rfl, ?_⟩) ?_ ?_
              rotate_left
              · intro w'
                go_simp
                with_reducible rfl
              rotate_left
              · simp only [Act.put, List.setIfInBounds_toArray, List.set_cons_zero, List.set_cons_succ, i64_w, i32_w]
                rfl
              refine pure_ (i := 2) (N := some 100) (v := ?_) (a' := ?_) #[true, true, true, false, false, false, false, false, false, false, false, false, false, false] rfl rfl (by kernel_rfl) (fun _ _ _ h => h) (Or.inl ⟨by rfl, ?_⟩) ?_ ?_
              rotate_left
              · intro w'
                go_simp
                with_reducible rfl
              rotate_left
              · simp only [Act.put, List.setIfInBounds_toArray, List.set_cons_zero, List.set_cons_succ, i64_w, i32_w]
                rfl
              refine pure_ (i := 3) (N := some 101) (v := ?_) (a' := ?_) #[true, true, true, true, false, false, false, false, false, false, false, false, false, false] rfl rfl (by kernel_rfl) (fun _ _ _ h => h) (Or.inl ⟨by rfl, ?_⟩) ?_ ?_
              rotate_left
              · intro w'
                go_simp
                with_reducible rfl
              rotate_left
              · simp only [Act.put, List.setIfInBounds_toArray, List.set_cons_zero, List.set_cons_succ, i64_w, i32_w]
                rfl
              refine take_ (i := 4) (N := some 102) (v := ?_) (a' := ?_) #[true, true, true, true, true, false, false, false, false, false, false, false, false, false] rfl rfl (by kernel_rfl) (fun _ _ _ h => h) (Or.inl ⟨by rfl, ?_⟩) hHeld ?_ ?_
              rotate_left
              · rintro w' ⟨s0, s1⟩
                go_simp
                with_reducible rfl
              rotate_left
              · simp only [Act.put, List.setIfInBounds_toArray, List.set_cons_zero, List.set_cons_succ, i64_w, i32_w]
                rfl
              refine pure_ (i := 5) (N := some 103) (v := ?_) (a' := ?_) #[true, true, true, true, true, true, false, false, false, false, false, false, false, false] rfl rfl (by kernel_rfl) (fun _ _ _ h => h) (Or.inl ⟨by rfl, ?_⟩) ?_ ?_
              rotate_left
              · intro w'
                go_simp
                with_reducible rfl
              rotate_left
              · simp only [Act.put, List.setIfInBounds_toArray, List.set_cons_zero, List.set_cons_succ, i64_w, i32_w]
                rfl
              refine take_ (i := 6) (N := some 104) (v := ?_) (a' := ?_) #[true, true, true, true, true, true, true, false, false, false, false, false, false, false] rfl rfl (by kernel_rfl) (fun _ _ _ h => h) (Or.inl ⟨by rfl, ?_⟩) hHeld ?_ ?_
              rotate_left
              · rintro w' ⟨s0, s1⟩
                go_simp
                with_reducible rfl
              rotate_left
              · simp only [Act.put, List.setIfInBounds_toArray, List.set_cons_zero, List.set_cons_succ, i64_w, i32_w]
                rfl
              refine pure_ (i := 7) (N := some 105) (v := ?_) (a' := ?_) #[true, true, true, true, true, true, true, true, false, false, false, false, false, false] rfl rfl (by kernel_rfl) (fun _ _ _ h => h) (Or.inl ⟨by rfl, ?_⟩) ?_ ?_
              rotate_left
              · intro w'
                go_simp
                with_reducible rfl
              rotate_left
              · simp only [Act.put, List.setIfInBounds_toArray, List.set_cons_zero, List.set_cons_succ, i64_w, i32_w]
                rfl
              refine pure_ (i := 8) (N := some 106) (v := ?_) (a' := ?_) #[true, true, true, true, true, true, true, true, true, false, false, false, false, false] rfl rfl (by kernel_rfl) (fun _ _ _ h => h) (Or.inl ⟨by rfl, ?_⟩) ?_ ?_
              rotate_left
              · intro w'
                go_simp
                with_reducible rfl
              rotate_left
              · simp only [Act.put, List.setIfInBounds_toArray, List.set_cons_zero, List.set_cons_succ, i64_w, i32_w]
                rfl
              refine one_ (i := 9) (N := some 107) #[true, true, true, true, true, true, true, true, true, true, false, false, false, false] rfl rfl (by kernel_rfl) (by decide) (fun K hK => ?_)
              refine value_ (w1 := ?_) (v := ?_) (by rfl) rfl ?_ ?_
              rotate_left
              rotate_left
              · go_simp
                refine ⟨?_, ?_⟩ <;> rfl
              refine hK.out _ _ ⟨?_, ?_⟩ (fun hHeld => ?_)
              · exact (cell_far (a := ⟨p, 0, none⟩) (World.grownBy_alloc w3 (.cells #[.string l[i].1, .slice A12 ns.length c12, num 0, num (-1)] 91) none |>.block p l1 (by simp))).1.trans q0
              · exact (cell_far (a := ⟨wo.heap.size, 0, none⟩) (World.grownBy_alloc w3 (.cells #[.string l[i].1, .slice A12 ns.length c12, num 0, num (-1)] 91) none |>.block wo.heap.size l2 (by simp))).1.trans y0
              clear hK K
              refine one_ (i := 10) (N := some 108) #[true, true, true, true, true, true, true, true, true, true, true, false, false, false] rfl rfl (by kernel_rfl) (by decide) (fun K hK => ?_)
              refine step_append_lies _ rfl _ _ _ rfl 0 91 i0 _ 4 56 Try.underlying60 Hi0.out Hz0.out Hz1.out Hz2.out rfl (by omega) (.slice Ap items.length cp) items.length (partCells items) rfl ((Hown.out.alloc _).drew)
                ⟨w3.heap.size, 0, none⟩ 1 1 [.string l[i].1, .slice A12 ns.length c12, num 0, num (-1)] rfl rfl (World.news_of_block (cs := #[.string l[i].1, .slice A12 ns.length c12, num 0, num (-1)]) (t := 91) (fr := (0, 0)) (heap_alloc_new w3 _)) (by simp [Value.oneCell'])
                (by omega) (by unfold maxLen; omega) (by omega) (Nat.zero_le _) (w3.heap.size + 1) (by simp) ?_
              intro gg cap w4 hown4 hgrow hat hlt4
              have hcc0 := cell_far (a := ⟨p, 0, none⟩) ((hgrow.block p (by simp; omega) (Ne.symm g1)).trans (World.grownBy_alloc w3 (.cells #[.string l[i].1, .slice A12 ns.length c12, num 0, num (-1)] 91) none |>.block p l1 (by simp)))
              have hcc1 := cell_far (a := ⟨wo.heap.size, 0, none⟩) ((hgrow.block wo.heap.size (by simp; omega) (Ne.symm g2)).trans (World.grownBy_alloc w3 (.cells #[.string l[i].1, .slice A12 ns.length c12, num 0, num (-1)] 91) none |>.block wo.heap.size l2 (by simp)))
              have f4 := hcc0.2.trans qf0
              have e4 := hcc0.1.trans q0
              have Hown4 := Aside0.mk hown4
              have Hgrow := Aside0.mk hgrow
              have Hat := Aside0.mk hat
              have Hlt4 := Aside0.mk hlt4
              clear hown4 hgrow hat hlt4
              refine hK.out _ _ ⟨hcc0.1.trans q0, hcc1.1.trans y0⟩ (fun hHeld => ?_)
              clear hK K hcc0 hcc1
              refine pure_ (i := 11) (N := some 109) (v := ?_) (a' := ?_) #[true, true, true, true, true, true, true, true, true, true, true, true, false, false] rfl rfl (by kernel_rfl) (fun _ _ _ h => h) (Or.inl ⟨by rfl, ?_⟩) ?_ ?_
              rotate_left
              · intro w'
                go_simp
                with_reducible rfl
              rotate_left
              · simp only [Act.put, List.setIfInBounds_toArray, List.set_cons_zero, List.set_cons_succ, i64_w, i32_w]
                rfl
              refine pure_ (i := 12) (N := some 110) (v := ?_) (a' := ?_) #[true, true, true, true, true, true, true, true, true, true, true, true, true, false] rfl rfl (by kernel_rfl) (fun _ _ _ h => h) (Or.inl ⟨by rfl, ?_⟩) ?_ ?_
              rotate_left
              · intro w'
                go_simp
                with_reducible rfl
              rotate_left
              · simp only [Act.put, List.setIfInBounds_toArray, List.set_cons_zero, List.set_cons_succ, i64_w, i32_w]
                rfl
              refine last_ (i := 13) (N := none) #[true, true, true, true, true, true, true, true, true, true, true, true, true, true] rfl rfl (by kernel_rfl) (by decide) (fun K hK => ?_)
              refine skip_ (w1 := ?_) (by rfl) rfl ?_ ?_
              rotate_left
              · go_simp
                rfl
              refine hK.out _ _ ?_
              clear hK K
              refine done_ (by kernel_rfl) ?_
              have hm4 : Sep W (w3.alloc (.cells #[.string l[i].1, .slice A12 ns.length c12, num 0, num (-1)] 91)).drew _ := (M.out.alloc _).drawn ⟨1, rfl⟩
              have hm5 := at_ hm4 8 (by simp) (fun rs h => h.appended (m := items.length + 1) (ys := partCells (items ++ [⟨⟨l[i].1, ns, 0⟩, -1, A12, c12⟩])) (by rw [← parts_more]; exact Hown4.out) Hgrow.out (by
                rcases Hat.out with h | h
                · exact .inl h.symm
                · right; rw [h]; simp [Value.ownBlock]))
              have hm6 := at_ hm5 7 (by simp) (fun rs h => box_set h 0 (.slice (some ⟨gg, 0, none⟩) (items.length + 1) cap))
              have hm7 := (hm6.pull 9 (by simp)).swap
              have hm8 := kids_more (q := ⟨⟨l[i].1, ns, 0⟩, -1, A12, c12⟩) hm7
              replace M := Aside0.mk hm8
              have HL3 := Aside0.mk (l3_start HI.out l[i].1 ns A12 c12)
              have hnsok := ns_ok HI.out l[i].2
              rw [← HNs.out] at hnsok
              have Hnsok := Aside0.mk hnsok
              clear hm4 hm5 hm6 hm7 hm8 hnsok
              clear Hown4 Hgrow Hat f4 e4 q0 qf0 y0 g1 g2 l1 l2 hHeld
              go_wp2_with fail
              go_loopw [113] (fun v113 wq => ∃ (j : Nat) (its : List PartM), j ≤ ns.length ∧ v113 = .int .i64 j ∧ Aside0 (L3 l i its (items.map PartM.part) ns l[i].1 j items.length A12 c12) ∧
                Aside0 (Sep W wq (kidsR its :: boxR wo.heap.size 27 #[.string l[i].1, .slice Ak l[i].2.length ck] :: rowR 3 1 (.slice (some ⟨w.heap.size + 1 + 1, 0, none⟩) l.length l.length) l.length ((numsOf l on i).map nat) :: mapR mQ (w.heap.size + 1) (gk + 1) (items.length + 1) (upd (kindsF L' (items.map PartM.part)) (l[i].1, a) items.length) :: mapR mL w.heap.size gl' (L'.length - 1) (listsF L') ::
                  readR W (fun w' => NodesC (some ad) l w' ∧ w'.cell? ⟨(ad.add (i * 2)).block, (ad.add (i * 2)).off + 1, none⟩ = some (.slice Ak l[i].2.length ck)) :: rowR 4 1 (.slice (some ⟨bo, 0, none⟩) l.length co) l.length (on.map Value.bool) :: boxR p 62 #[.slice (some ⟨gg, 0, none⟩) (items.length + 1) cap, mp, lv, fv, sv, cv] :: rowR 91 4 (.slice (some ⟨gg, 0, none⟩) (items.length + 1) cap) (items.length + 1) (partCells its) :: rs))) (fun v113 _ => ns.length - (intOf v113).toNat)
              case atStart => exact ⟨0, _, by omega, rfl, HL3, M⟩
              case round =>
                clear M
                obtain ⟨j, its, hj, rfl, HL, M⟩ := hrel
                obtain ⟨p0, _⟩ := box_cell (M.out.pull 7 (by simp)) (j := 0) rfl
                have hlen := HL.out.len
                by_cases hjl : j < ns.length
                · obtain ⟨q0, hq0, hA, hc, hks⟩ := HL.out.last
                  obtain ⟨b12, hb12, hk12⟩ := kids_cell M.out (List.mem_of_getElem? hq0) (j := j) (by rw [hks]; exact hjl)
                  obtain rfl : A12 = some ⟨b12, 0, none⟩ := hA.symm.trans hb12
                  have ekj : q0.part.kids[j]'(by rw [hks]; exact hjl) = ns[j] := by simp only [hks]
                  rw [ekj] at hk12
                  have hkb : ns[j] < its.length := by
                    rw [hlen]
                    rcases Hnsok.out ns[j] (List.getElem_mem hjl) with h | h <;> omega
                  have HL2 := Aside0.mk (l3_step HL.out hjl)
                  have hpl := HL.out.places its[ns[j]] (List.getElem_mem hkb)
                  have c2 := row_cell (M.out.pull 8 (by simp)) (parts_at its hkb).2.2.1
                  have f2 := row_free (M.out.pull 8 (by simp)) (by omega) (ns[j] * 4 + 2)
                  have hcells := bumpM_cells its hkb
                  have hst := stored_n (j := ns[j] * 4 + 2) (u := num ((its[ns[j]].part.places : Int) + 1)) (M.out.pull 8 (by simp)) (by omega) rfl
                  generalize its[ns[j]].part.places = pl at hpl c2 hcells hst
                  replace hk12 : wr.cell? ⟨b12, j, none⟩ = some (.int .i64 ((ns[j] : Nat) : Int)) := hk12
                  generalize ns[j] = k at hk12 hkb HL2 c2 f2 hcells hst
                  have hm := push (l := _ :: _ :: _ :: _ :: _ :: _ :: _ :: _ :: _ :: rs) hst (by simp)
                  rw [hcells] at hm
                  have hm2 := at_ hm 0 (by simp) (fun rs h => kids_modify h k bumpM (fun q => ⟨rfl, rfl⟩))
                  have M2 := Aside0.mk hm2
                  clear hst hm hm2 hcells hq0 hA hc hks hb12 ekj
                  go_wp2_with fail
                  go_roundw
                  case rel => exact ⟨j + 1, _, by omega, by go_num, HL2, M2⟩
                  case measure => simp [intOf]; omega
                · have hje : j = ns.length := by omega
                  subst hje
                  obtain ⟨hG, hN, hU⟩ := ginv_new HI.out hlt Ho.out HNs.out HIn.out Hfp.out HL.out
                  have HG := Aside0.mk hG
                  have HN := Aside0.mk hN
                  have HU := Aside0.mk hU
                  clear hG hN hU
                  have c9 : ∃ u, wr.cell? ⟨w.heap.size + 1 + 1, i, none⟩ = some u := ⟨_, row_cell (M.out.pull 2 (by simp)) (List.getElem?_eq_getElem (by rw [List.length_map, nums_len]; exact hlt))⟩
                  obtain ⟨u9, c9⟩ := c9
                  have f9 := row_free (M.out.pull 2 (by simp)) h0 i
                  go_wp2_with fail
                  have hm := at_ M.out 2 (by simp) (fun rs h => Sep.stored h (j := i) (u := nat items.length) hlt rfl)
                  have hm2 := at_ hm 5 (by simp) (fun rs h => read_weak (C' := NodesC (some ad) l) h (fun w' hc => hc.1))
                  have hm3 := (hm2.pull 1 (by simp)).tail
                  have hm4 := hm3.perm (List.perm_middle (l₁ := [_, _, _, _, _, _, _]) (l₂ := rs)).symm
                  go_roundw
                  case rel => exact ⟨i + 1, .slice (some ⟨gg, 0, none⟩) (items.length + 1) cap, its, L', gl', gk + 1, by omega, by go_num, by have := edges_succ hlt; omega, by omega, HG, ⟨by rw [HN.out, ← HU.out, map_set, hlen]; exact hm4⟩⟩
                  case measure => simp [intOf]; omega
    · have hie : i = l.length := by omega
      subst hie
      have hnl := nums_len l on l.length
      have c9 := row_cell M.out (j := l.length - 1) (u := nat ((numsOf l on l.length).getD (l.length - 1) 0)) (by
        rw [List.getElem?_map, List.getD_eq_getElem?_getD, List.getElem?_eq_getElem (by rw [hnl]; omega)]
        rfl)
      have hp := HI.out.parts
      have Hp := Aside0.mk hp
      clear hp hnl
      unfold nat at c9
      generalize hgd : (numsOf l on l.length).getD (l.length - 1) 0 = last at c9
      have Hgd := Aside0.mk hgd
      clear hgd
      go_wp2_with fail
      go_ret
      exact ⟨pv, items, by unfold nat; rw [Hgd.out]; rfl, Hp.out, HI.out.fresh, M.out.tail.tail.tail⟩
end Go.Proofs.Ytkonloadedbpkaa.Gather

namespace Go.Proofs.Ytkonloadedbpkaa.Reached
open Go.RowKit Go.Proofs.Ytkonloadedbpkaa.PFoldDoubles Go.Proofs.Ytkonloadedbpkaa.FoldPure Go.Proofs.Ytkonloadedbpkaa.FoldMem Go.Proofs.Ytkonloadedbpkaa.Gather
open Go.Proofs.YtkonloadedbpkaaW.PrintWords
set_option linter.unusedVariables false

def toS (x : Nd) : S27 := ⟨x.1, ints x.2⟩
def markKids (on : List Bool) (ks : List Nat) : List Bool := ks.foldl (fun on k => on.set k true) on
def onDown (l : List Nd) : Nat → List Bool → List Bool
  | 0, on => on
  | i + 1, on => onDown l i (if on.getD i false then markKids on (l.getD i (ByteArray.empty, [])).2 else on)
def onT (l : List Nd) : List Bool := onDown l l.length ((List.replicate l.length false).set (l.length - 1) true)
theorem mark_len (ks : List Nat) : ∀ on : List Bool, (markKids on ks).length = on.length := by
  induction ks with
  | nil => intro on; rfl
  | cons k ks ih =>
    intro on
    show (markKids (on.set k true) ks).length = _
    rw [ih, List.length_set]
theorem down_len (l : List Nd) : ∀ (i : Nat) (on : List Bool), (onDown l i on).length = on.length := by
  intro i
  induction i with
  | zero => intro on; rfl
  | succ i ih =>
    intro on
    unfold onDown
    rw [ih]
    split
    · exact mark_len _ _
    · rfl
theorem on_len (l : List Nd) : (onT l).length = l.length := by
  unfold onT
  rw [down_len]
  simp
theorem wrap_small {i : Int} (h0 : -1 ≤ i) (h : i ≤ 9007199254740992) : wrap64 i = i := by unfold wrap64; omega
theorem reached_l1 (l : List S27) (i : Nat) (ks : List Nat) (hi : i ≤ 8388608) (hks : ∀ k ∈ ks, k < i) (hkl : ks.length ≤ 8388608) (d : Nat) : ∀ (k j : Nat) (on : List Bool), j ≤ ks.length → ks.length - j = d → i < on.length →
    fold_reached.l1 (k + d + 1) l on (i : Int) (ints ks) ((ints ks).length : Int) (j : Int) = fold_reached.l0 k l (markKids on (ks.drop j)) ((i : Int) - 1) := by
  induction d with
  | zero =>
    intro k j on hj hd hon
    have : j = ks.length := by omega
    subst this
    rw [Nat.add_zero]
    simp only [fold_reached.l1]
    rw [if_neg (by simp), wrap_small (by omega) (by omega), List.drop_length]
    rfl
  | succ d ih =>
    intro k j on hj hd hon
    have hlt : j < ks.length := by omega
    have hk := hks ks[j] (List.getElem_mem hlt)
    have hrd : rd (ints ks) (j : Int) = (ks[j] : Int) := by simp [rd, hlt]
    have := ih k (j + 1) (on.set ks[j] true) (by omega) (by omega) (by simpa using hon)
    rw [Int.natCast_add] at this
    simp only [Int.natCast_one] at this
    rw [show k + (d + 1) + 1 = (k + d + 1) + 1 by omega]
    generalize k + d + 1 = K at this ⊢
    conv => lhs; simp only [fold_reached.l1]
    rw [hrd, if_pos (by simp; omega), if_pos (by omega), if_pos (by simp; omega), if_neg (by omega), if_neg (by omega), if_pos (by omega), if_pos (by omega), wrap_small (by omega) (by omega), Int.toNat_natCast]
    rw [this, List.drop_eq_getElem_cons hlt]
    rfl
/-- where the edges end -/
theorem reached_l0 (l : List Nd) (hl : l.length ≤ 4194304) (hv : Valid l) (he : (l.map (·.2.length)).sum ≤ 4194304) (i : Nat) : ∀ (k : Nat) (on : List Bool), i ≤ l.length → on.length = l.length → edges l i + 2 * i < k →
    fold_reached.l0 k (l.map toS) on ((i : Int) - 1) = some (onDown l i on, true) := by
  induction i with
  | zero =>
    intro k on hi hon hk
    obtain ⟨k, rfl⟩ : ∃ k', k = k' + 1 := ⟨k - 1, by omega⟩
    simp only [fold_reached.l0]
    rw [if_neg (by omega)]
    rfl
  | succ i ih =>
    intro k on hi hon hk
    obtain ⟨k, rfl⟩ : ∃ k', k = k' + 1 := ⟨k - 1, by omega⟩
    have hlt : i < l.length := by omega
    have hed := edges_succ hlt
    have hx : ((i + 1 : Nat) : Int) - 1 = (i : Int) := by omega
    rw [hx]
    conv => lhs; simp only [fold_reached.l0]
    have hrb : rdOf false on (i : Int) = on.getD i false := by simp [rdOf]
    have hrt : rd_T27 (l.map toS) (i : Int) = toS l[i] := by
      unfold rd_T27
      rw [Int.toNat_natCast, List.getD_eq_getElem?_getD, List.getElem?_map, List.getElem?_eq_getElem hlt]
      rfl
    rw [if_pos (by omega), if_pos (by omega), if_pos (by omega), hrb, hrt, wrap_small (by omega) (by omega)]
    unfold onDown
    rw [List.getD_eq_getElem?_getD (l := l), List.getElem?_eq_getElem hlt]
    by_cases ho : on.getD i false = true
    · rw [if_pos ho, if_pos (by simp; omega), if_pos ho]
      obtain ⟨k2, rfl⟩ : ∃ k2, k = k2 + l[i].2.length + 1 := ⟨k - l[i].2.length - 1, by omega⟩
      have hkl := kids_le he hlt
      have := reached_l1 (l.map toS) i l[i].2 (by omega) (fun k hk => hv i l[i] (List.getElem?_eq_getElem hlt) k hk) (by omega) l[i].2.length k2 0 on (by omega) (by omega) (by omega)
      rw [List.drop_zero] at this
      refine Eq.trans this ?_
      exact ih k2 _ (by omega) (by rw [mark_len]; exact hon) (by omega)
    · rw [if_neg ho, if_neg ho]
      exact ih k on (by omega) hon (by omega)
theorem reached_f (l : List Nd) (h0 : 0 < l.length) (hl : l.length ≤ 4194304) (hv : Valid l) (he : (l.map (·.2.length)).sum ≤ 4194304) : ∃ k, fold_reached.f k (l.map toS) = some (onT l, true) := by
  refine ⟨edges l l.length + 2 * l.length + 1, ?_⟩
  unfold fold_reached.f
  have e1 : wrap64 (((l.map toS).length : Int) - 1) = (l.length : Int) - 1 := by rw [List.length_map]; exact wrap_small (by omega) (by omega)
  have e2 : (((l.map toS).length : Int)).toNat = l.length := by simp
  have e3 : ((l.length : Int) - 1).toNat = l.length - 1 := by omega
  rw [if_neg (by rw [List.length_map]; omega), if_pos (by omega), e2, if_pos (by omega), Option.bind_some, e1, if_pos (by omega), if_pos (by simp; omega), e3]
  exact reached_l0 l hl hv he l.length _ _ (by omega) (by simp) (by omega)
theorem reached_none (k : Nat) : fold_reached.f k [] = some ([], false) := by
  unfold fold_reached.f
  rfl
/-! ### what is reached -/
theorem mark_true (ks : List Nat) : ∀ (on : List Bool) (i : Nat), i < on.length → (markKids on ks).getD i false = (on.getD i false || decide (i ∈ ks)) := by
  induction ks with
  | nil => intro on i hi; simp [markKids]
  | cons k ks ih =>
    intro on i hi
    show (markKids (on.set k true) ks).getD i false = _
    rw [ih _ _ (by simpa using hi)]
    have : (on.set k true).getD i false = (on.getD i false || decide (i = k)) := by
      rw [List.getD_eq_getElem?_getD, List.getD_eq_getElem?_getD, List.getElem?_set]
      by_cases e : k = i
      · subst e
        simp [hi]
      · have e' : ¬ i = k := fun h => e h.symm
        simp [e, e']
    rw [this]
    simp only [List.mem_cons, Bool.decide_or, Bool.or_assoc]
end Go.Proofs.Ytkonloadedbpkaa.Reached

namespace Go.Proofs.Ytkonloadedbpkaa.NodesPure
open Go.RowKit Go.Proofs.Ytkonloadedbpkaa.FoldPure Go.Proofs.Ytkonloadedbpkaa.FoldRun Go.Proofs.Ytkonloadedbpkaa.Reached
set_option linter.unusedVariables false

def partsL (l : List Nd) : List Part := (gatherTo l (onT l) l.length).1
def rootN (l : List Nd) : Nat := (gatherTo l (onT l) l.length).2.getD (l.length - 1) 0
def atW (f : ByteArray → Option Nat) (s : ByteArray) : Nat := (f s).getD 0
def names0 (P : List Part) (ms : List ByteArray) : NS := ⟨List.replicate P.length false, ix ms, []⟩
def codes0 (P : List Part) : WS := ⟨List.replicate P.length (-1), 0, []⟩
def namesL (ms : List ByteArray) (l : List Nd) : NS := nameT (partsL l) ms.length (rootN l + 1) (rootN l) (names0 (partsL l) ms)
def codesL (ms : List ByteArray) (l : List Nd) : WS := writeT (partsL l) (atW (namesL ms l).at_) (ms.length + (namesL ms l).labels.length) (rootN l + 1) (rootN l) (codes0 (partsL l))
structure Fine (ms : List ByteArray) (l : List Nd) : Prop where
  root : rootN l < (partsL l).length
  few : (partsL l).length ≤ 4194304
  strict : ∀ (i : Nat) (q : Part), (partsL l)[i]? = some q → ∀ k ∈ q.kids, k < i
  labs : ∀ q ∈ partsL l, q.label.size ≤ maxLen
  kids : ∀ q ∈ partsL l, q.kids.length ≤ 4194304
  names : (namesL ms l).labels.length ≤ 4194304
  codes : (codesL ms l).codes.length ≤ 1099511627776
theorem ix_more {l : List ByteArray} {s : ByteArray} (h : s ∈ l) : ix (l ++ [s]) = ix l := by
  funext t
  induction l with
  | nil => simp at h
  | cons x l ih =>
    simp only [List.cons_append, ix]
    by_cases e : x = t
    · simp [e]
    · rw [if_neg e, if_neg e]
      by_cases hs : s ∈ l
      · rw [ih hs]
      · have hx : s = x := by simpa [hs] using h
        congr 1
        subst hx
        rw [ix_snoc hs, if_neg (fun h => e h.symm)]
end Go.Proofs.Ytkonloadedbpkaa.NodesPure
