/- ListsP. -/
import Derived.Test.YtkonloadedbpkaaPTreeListsx2
import Derived.Test.YtkonloadedbpkaaPTreeListsx1
import Derived.Test.YtkonloadedbpkaaZ10
namespace Go.Proofs.Ytkonloadedbpkaa.ListsP
open Go.RowKit Go.Proofs.Ytkonloadedbpkaa.PTreeLists Go.Proofs.Ytkonloadedbpkaa.FoldPure Go.Proofs.Ytkonloadedbpkaa.FoldMem Go.Proofs.Ytkonloadedbpkaa.Gather Go.Proofs.Ytkonloadedbpkaa.TreeW Go.Proofs.Ytkonloadedbpkaa.TreeP
open Go.Proofs.YtkonloadedbpkaaW.PrintWords
set_option linter.unusedVariables false

/-- From some number of rounds on it answers r. -/
def EvS {α : Type} (g : Nat → Option α) (r : α) : Prop := ∃ K, ∀ k, K ≤ k → g k = some r
theorem EvS.step {α : Type} {g h : Nat → Option α} {r : α} (H : EvS h r) (e : ∀ k, g (k + 1) = h k) : EvS g r := by
  obtain ⟨K, hK⟩ := H
  refine ⟨K + 1, fun k hk => ?_⟩
  obtain ⟨k, rfl⟩ : ∃ m, k = m + 1 := ⟨k - 1, by omega⟩
  rw [e]
  exact hK k (by omega)
theorem EvS.some {α : Type} {g : Nat → Option α} {r : α} (e : ∀ k, g (k + 1) = some r) : EvS g r := ⟨1, fun k hk => by
  obtain ⟨k, rfl⟩ : ∃ m, k = m + 1 := ⟨k - 1, by omega⟩
  exact e k⟩
theorem EvS.bind {α β : Type} {g : Nat → Option α} {r : α} (H : EvS g r) {f : Nat → α → Option β} {q : β} (H2 : EvS (fun k => f k r) q) : EvS (fun k => (g k).bind (f k)) q := by
  obtain ⟨K, hK⟩ := H
  obtain ⟨K2, hK2⟩ := H2
  refine ⟨max K K2, fun k hk => ?_⟩
  show (g k).bind (f k) = _
  rw [hK k (by omega)]
  exact hK2 k (by omega)
theorem wrap_in {i : Int} (h0 : -1 ≤ i) (h : i ≤ 9007199254740992) : wrap64 i = i := by unfold wrap64; omega
theorem rd_at (ks : List Int) {j : Nat} (hj : j < ks.length) : rd ks (j : Int) = ks[j] := by simp [rd, hj]
def toL (x : Nd) : S27 := ⟨x.1, ints x.2⟩
def lo (L : List S27) (i : Nat) : List Int := (rd_T27 L (i : Int)).f1
/-! ### none -/
def nodeBad (i : Nat) (ks : List Int) : Bool := ks.any (fun k => decide (k < 0) || decide (k ≥ (i : Int)))
def badFrom (L : List S27) : Nat → Nat → Bool
  | 0, _ => false
  | d + 1, i => nodeBad i (lo L i) || badFrom L d (i + 1)
/-- Is a list of nodes none? -/
def noneB (L : List S27) : Bool := badFrom L L.length 0 || decide (L.length = 0)
theorem none_kids (L : List S27) (i : Nat) (hi : i < L.length) (hl : L.length ≤ 4194304) (hk : (lo L i).length ≤ 4194304) (r : Bool) (h : EvS (fun k => lemmaref13_none.l0 k L ((i + 1 : Nat) : Int)) r) : ∀ (d j : Nat), j ≤ (lo L i).length → (lo L i).length - j = d → EvS (fun k => lemmaref13_none.l1 k L i j) (nodeBad i ((lo L i).drop j) || r) := by
  unfold lo at *
  generalize hks : (rd_T27 L (i : Int)).f1 = ks at hk
  intro d
  induction d with
  | zero =>
    intro j hj hd
    rw [List.drop_eq_nil_of_le (by omega)]
    refine EvS.step h fun k => ?_
    conv => lhs; unfold lemmaref13_none.l1
    rw [hks, if_pos (by omega), if_pos (by omega), if_neg (by omega), wrap_in (by omega) (by omega)]
    rfl
  | succ d ih =>
    intro j hj hd
    have hlt : j < ks.length := by omega
    have e : ks.drop j = ks[j] :: ks.drop (j + 1) := List.drop_eq_getElem_cons hlt
    rw [e]
    have e2 : nodeBad i (ks[j] :: ks.drop (j + 1)) = ((decide (ks[j] < 0) || decide (ks[j] ≥ (i : Int))) || nodeBad i (ks.drop (j + 1))) := rfl
    rw [e2]
    by_cases b1 : ks[j] < 0
    · refine EvS.some fun k => ?_
      conv => lhs; unfold lemmaref13_none.l1
      rw [hks, if_pos (by omega), if_pos (by omega), if_pos (by omega), if_pos (by omega), rd_at ks hlt, if_pos b1]
      simp [b1]
    · by_cases b2 : ks[j] ≥ (i : Int)
      · refine EvS.some fun k => ?_
        conv => lhs; unfold lemmaref13_none.l1
        rw [hks, if_pos (by omega), if_pos (by omega), if_pos (by omega), if_pos (by omega), rd_at ks hlt, if_neg b1, if_pos b2]
        simp [b2]
      · have e3 : ((decide (ks[j] < 0) || decide (ks[j] ≥ (i : Int))) || nodeBad i (ks.drop (j + 1)) || r) = (nodeBad i (ks.drop (j + 1)) || r) := by
          rw [decide_eq_false b1, decide_eq_false b2]
          rfl
        rw [e3]
        refine EvS.step (ih (j + 1) (by omega) (by omega)) fun k => ?_
        conv => lhs; unfold lemmaref13_none.l1
        rw [hks, if_pos (by omega), if_pos (by omega), if_pos (by omega), if_pos (by omega), rd_at ks hlt, if_neg b1, if_neg b2, wrap_in (by omega) (by omega)]
        rfl
theorem none_ev (L : List S27) (hl : L.length ≤ 4194304) (hk : ∀ i, (lo L i).length ≤ 4194304) : ∀ (d i : Nat), i + d = L.length → EvS (fun k => lemmaref13_none.l0 k L i) (badFrom L d i || decide (L.length = 0)) := by
  intro d
  induction d with
  | zero =>
    intro i hd
    refine EvS.some fun k => ?_
    conv => lhs; unfold lemmaref13_none.l0
    rw [if_neg (by omega)]
    show Option.some ((L.length : Int) == 0) = Option.some (false || decide (L.length = 0))
    congr 1
    by_cases h0 : L.length = 0
    · simp [h0]
    · simp [h0]
  | succ d ih =>
    intro i hd
    have h := none_kids L i (by omega) hl (hk i) _ (ih (i + 1) (by omega)) (lo L i).length 0 (by omega) (by omega)
    rw [List.drop_zero] at h
    have e : (badFrom L (d + 1) i || decide (L.length = 0)) = (nodeBad i (lo L i) || (badFrom L d (i + 1) || decide (L.length = 0))) := Bool.or_assoc ..
    rw [e]
    refine EvS.step h fun k => ?_
    conv => lhs; unfold lemmaref13_none.l0
    rw [if_pos (by omega)]
    rfl
theorem none_f (L : List S27) (hl : L.length ≤ 4194304) (hk : ∀ i, (lo L i).length ≤ 4194304) : EvS (fun k => lemmaref13_none.f k L) (noneB L) := none_ev L hl hk L.length 0 (by omega)
/-! ### lists that are some -/
theorem rd27 (l : List Nd) {i : Nat} (hi : i < l.length) : rd_T27 (l.map toL) (i : Int) = toL l[i] := by
  unfold rd_T27
  rw [List.getD_eq_getElem?_getD, Int.toNat_natCast, List.getElem?_map, List.getElem?_eq_getElem hi]
  rfl
theorem lo_at (l : List Nd) {i : Nat} (hi : i < l.length) : lo (l.map toL) i = ints l[i].2 := by
  unfold lo
  rw [rd27 l hi]
  rfl
theorem lo_out (L : List S27) {i : Nat} (hi : L.length ≤ i) : lo L i = [] := by
  unfold lo rd_T27
  rw [List.getD_eq_getElem?_getD, Int.toNat_natCast, List.getElem?_eq_none hi]
  rfl
theorem bad_all {L : List S27} : ∀ {d i : Nat}, badFrom L d i = false ↔ ∀ p, i ≤ p → p < i + d → nodeBad p (lo L p) = false := by
  intro d
  induction d with
  | zero => intro i; exact ⟨fun _ p h1 h2 => by omega, fun _ => rfl⟩
  | succ d ih =>
    intro i
    show (nodeBad i (lo L i) || badFrom L d (i + 1)) = false ↔ _
    rw [Bool.or_eq_false_iff, ih]
    constructor
    · rintro ⟨h1, h2⟩ p hp hq
      by_cases e : p = i
      · subst e
        exact h1
      · exact h2 p (by omega) (by omega)
    · intro h
      exact ⟨h i (Nat.le_refl _) (by omega), fun p hp hq => h p (by omega) (by omega)⟩
theorem node_bad {i : Nat} {ks : List Int} : nodeBad i ks = false ↔ ∀ k ∈ ks, 0 ≤ k ∧ k < (i : Int) := by
  unfold nodeBad
  rw [List.any_eq_false]
  refine forall_congr' fun k => ?_
  refine imp_congr_right fun _ => ?_
  simp only [Bool.or_eq_true, decide_eq_true_eq, not_or]
  omega
theorem some_none {l : List Nd} (hv : Valid l) (h0 : 0 < l.length) : noneB (l.map toL) = false := by
  unfold noneB
  rw [Bool.or_eq_false_iff]
  refine ⟨bad_all.2 fun p _ hp => ?_, decide_eq_false (by rw [List.length_map]; omega)⟩
  rw [List.length_map] at hp
  rw [lo_at l (by omega)]
  refine node_bad.2 fun k hk => ?_
  obtain ⟨n, hn, rfl⟩ := List.mem_map.1 hk
  have := hv p l[p] (List.getElem?_eq_getElem (by omega)) n hn
  omega
theorem of_some {L : List S27} (h : noneB L = false) : ∃ l : List Nd, L = l.map toL ∧ Valid l ∧ 0 < l.length := by
  unfold noneB at h
  rw [Bool.or_eq_false_iff, bad_all] at h
  obtain ⟨h1, h2⟩ := h
  have h2' := of_decide_eq_false h2
  have hnb : ∀ p (hp : p < L.length), ∀ k ∈ L[p].f1, 0 ≤ k ∧ k < (p : Int) := fun p hp => by
    have := h1 p (by omega) (by omega)
    have e : lo L p = L[p].f1 := by
      unfold lo rd_T27
      rw [List.getD_eq_getElem?_getD, Int.toNat_natCast, List.getElem?_eq_getElem hp]
      rfl
    rw [e] at this
    exact node_bad.1 this
  refine ⟨L.map (fun x => (x.f0, x.f1.map Int.toNat)), ?_, ?_, by rw [List.length_map]; omega⟩
  · rw [List.map_map]
    apply List.ext_getElem
    · simp
    · intro p hp hq
      rw [List.getElem_map]
      show L[p] = ⟨L[p].f0, ints (L[p].f1.map Int.toNat)⟩
      have : ints (L[p].f1.map Int.toNat) = L[p].f1 := by
        unfold ints
        rw [List.map_map]
        conv => rhs; rw [← List.map_id L[p].f1]
        refine List.map_congr_left fun k hk => ?_
        have := (hnb p hp k hk).1
        show ((k.toNat : Nat) : Int) = k
        omega
      rw [this]
  · intro i x hx k hk
    rw [List.getElem?_map] at hx
    obtain ⟨y, hy, rfl⟩ := Option.map_eq_some_iff.1 hx
    obtain ⟨hi, rfl⟩ := List.getElem?_eq_some_iff.1 hy
    obtain ⟨n, hn, rfl⟩ := List.mem_map.1 hk
    have := hnb i hi n hn
    omega
/-! ### Sizes, Size -/
def szL (l : List Nd) (i : Nat) : List Int := (List.range i).map (fun p => ((sz l p : Nat) : Int))
theorem szL_len (l : List Nd) (i : Nat) : (szL l i).length = i := by simp [szL]
theorem szL_at (l : List Nd) {i j : Nat} (h : j < i) : rd (szL l i) (j : Int) = ((sz l j : Nat) : Int) := by
  rw [rd_at _ (by rw [szL_len]; exact h)]
  simp [szL]
theorem szL_more (l : List Nd) (i : Nat) : szL l (i + 1) = szL l i ++ [((sz l i : Nat) : Int)] := by simp [szL, List.range_succ]
theorem sz_le {l : List Nd} (hv : Valid l) {i : Nat} (hi : i < l.length) : sz l i ≤ 2001 := by
  rw [sz_len hv (i + 1) i (by omega) hi]
  omega
theorem cap_le (n : Nat) : cap2 n ≤ 2001 := by unfold cap2; split <;> omega
theorem foldc_le : ∀ (ns : List Nat) (a : Nat), a ≤ 2001 → ns.foldl (fun a n => cap2 (a + n)) a ≤ 2001
  | [], _, h => h
  | n :: ns, a, h => foldc_le ns _ (cap_le _)
def accS (l : List Nd) (x : Nd) (j : Nat) : Nat := ((x.2.take j).map (sz l)).foldl (fun a n => cap2 (a + n)) 1
theorem accS_more {l : List Nd} {x : Nd} {j : Nat} (hj : j < x.2.length) : accS l x (j + 1) = cap2 (accS l x j + sz l x.2[j]) := by
  unfold accS
  rw [List.take_succ_eq_append_getElem hj, List.map_append, List.foldl_append]
  rfl
theorem sizes_kids {l : List Nd} (hv : Valid l) (hl : l.length ≤ 4194304) {i : Nat} (hi : i < l.length) (hk : l[i].2.length ≤ 4194304) (r : List Int) (h : EvS (fun k => lemmaref13_Sizes.l0 k (l.map toL) (szL l (i + 1)) ((i + 1 : Nat) : Int)) r) :
    ∀ (d j : Nat), j ≤ l[i].2.length → l[i].2.length - j = d → EvS (fun k => lemmaref13_Sizes.l1 k (l.map toL) (szL l i) i (accS l l[i] j : Nat) j) r := by
  have hrl : ((l.map toL).length : Int) = (l.length : Int) := by rw [List.length_map]
  have hlo : (rd_T27 (l.map toL) (i : Int)).f1 = ints l[i].2 := lo_at l hi
  have hil : (ints l[i].2).length = l[i].2.length := by simp [ints]
  intro d
  induction d with
  | zero =>
    intro j hj hd
    have hje : j = l[i].2.length := by omega
    have e : accS l l[i] j = sz l i := by
      rw [sz_at hv hi, hje]
      unfold accS gSize
      rw [List.take_length]
    refine EvS.step h fun k => ?_
    conv => lhs; unfold lemmaref13_Sizes.l1
    rw [hlo, if_pos (by omega), if_pos (by omega), if_neg (by omega), if_pos (by rw [szL_len]; omega), wrap_in (by omega) (by omega), e, szL_more]
    rfl
  | succ d ih =>
    intro j hj hd
    have hlt : j < l[i].2.length := by omega
    have hkid := hv i l[i] (List.getElem?_eq_getElem hi) _ (List.getElem_mem hlt)
    have hrd : rd (ints l[i].2) (j : Int) = ((l[i].2[j] : Nat) : Int) := by
      rw [rd_at _ (by omega)]
      simp [ints]
    refine EvS.step (ih (j + 1) (by omega) (by omega)) fun k => ?_
    have h1 := sz_le hv (show l[i].2[j] < l.length by omega)
    have h2 : accS l l[i] j ≤ 2001 := foldc_le _ _ (by omega)
    have e : mn (wrap64 ((accS l l[i] j : Int) + ((sz l l[i].2[j] : Nat) : Int))) 2001 = ((accS l l[i] (j + 1) : Nat) : Int) := by
      rw [accS_more hlt, wrap_in (by omega) (by omega)]
      unfold mn cap2
      split <;> split <;> omega
    conv => lhs; unfold lemmaref13_Sizes.l1
    rw [hlo, if_pos (by omega), if_pos (by omega), if_pos (by omega), if_pos (by omega), hrd, if_pos (by omega), if_pos (by rw [szL_len]; omega), szL_at l hkid, e, wrap_in (by omega) (by omega)]
    rfl
theorem sizes_ev {l : List Nd} (hv : Valid l) (hl : l.length ≤ 4194304) (hk : ∀ x ∈ l, x.2.length ≤ 4194304) : ∀ (d i : Nat), i ≤ l.length → l.length - i = d → EvS (fun k => lemmaref13_Sizes.l0 k (l.map toL) (szL l i) i) (szL l l.length) := by
  have hrl : ((l.map toL).length : Int) = (l.length : Int) := by rw [List.length_map]
  intro d
  induction d with
  | zero =>
    intro i hi hd
    have : i = l.length := by omega
    subst this
    refine EvS.some fun k => ?_
    conv => lhs; unfold lemmaref13_Sizes.l0
    rw [if_neg (by omega)]
  | succ d ih =>
    intro i hi hd
    have hlt : i < l.length := by omega
    have h := sizes_kids hv hl hlt (hk _ (List.getElem_mem hlt)) _ (ih (i + 1) (by omega) (by omega)) l[i].2.length 0 (by omega) (by omega)
    refine EvS.step h fun k => ?_
    conv => lhs; unfold lemmaref13_Sizes.l0
    rw [if_pos (by omega)]
    rfl
theorem lo_le {l : List Nd} (hk : ∀ x ∈ l, x.2.length ≤ 4194304) (i : Nat) : (lo (l.map toL) i).length ≤ 4194304 := by
  by_cases hi : i < l.length
  · rw [lo_at l hi]
    have := hk _ (List.getElem_mem hi)
    simpa [ints] using this
  · rw [lo_out _ (by rw [List.length_map]; omega)]
    simp
theorem size_ev {l : List Nd} (hv : Valid l) (h0 : 0 < l.length) (hl : l.length ≤ 4194304) (hk : ∀ x ∈ l, x.2.length ≤ 4194304) : EvS (fun k => lemmaref13_Size.f k (l.map toL)) ((sizeN l : Nat) : Int) := by
  have h1 := none_f (l.map toL) (by rw [List.length_map]; exact hl) (lo_le hk)
  rw [some_none hv h0] at h1
  have h2 := sizes_ev hv hl hk l.length 0 (by omega) (by omega)
  unfold lemmaref13_Size.f
  refine h1.bind (f := fun k t113 => if t113 = true then Option.some 0 else (lemmaref13_Sizes.f k (l.map toL)).bind fun t114 => if 0 ≤ wrap64 ((t114.length : Int) - 1) then (if wrap64 ((t114.length : Int) - 1) < (t114.length : Int) then Option.some (rd t114 (wrap64 ((t114.length : Int) - 1))) else none) else none) ?_
  simp only [Bool.false_eq_true, if_false]
  refine EvS.bind (g := fun k => lemmaref13_Sizes.f k (l.map toL)) (r := szL l l.length) h2 (f := fun k t114 => if 0 ≤ wrap64 ((t114.length : Int) - 1) then (if wrap64 ((t114.length : Int) - 1) < (t114.length : Int) then Option.some (rd t114 (wrap64 ((t114.length : Int) - 1))) else none) else none) ?_
  refine ⟨0, fun k _ => ?_⟩
  have e : wrap64 (((szL l l.length).length : Int) - 1) = ((l.length - 1 : Nat) : Int) := by
    rw [szL_len, wrap_in (by omega) (by omega)]
    omega
  show (if _ then _ else _) = _
  rw [e, if_pos (by omega), if_pos (by rw [szL_len]; omega), szL_at l (by omega)]
  rfl
theorem size_none {L : List S27} (hb : noneB L = true) (hl : L.length ≤ 4194304) (hk : ∀ i, (lo L i).length ≤ 4194304) : EvS (fun k => lemmaref13_Size.f k L) 0 := by
  have h1 := none_f L hl hk
  rw [hb] at h1
  obtain ⟨K, h⟩ := h1
  refine ⟨K, fun k hk => ?_⟩
  have := h k hk
  simp only at this
  show lemmaref13_Size.f k L = _
  unfold lemmaref13_Size.f
  rw [this]
  rfl
/-! ### Depth -/
def dpL (l : List Nd) (i : Nat) : List Int := (List.range i).map (fun p => ((dp l p : Nat) : Int))
theorem dpL_len (l : List Nd) (i : Nat) : (dpL l i).length = i := by simp [dpL]
theorem dpL_at (l : List Nd) {i j : Nat} (h : j < i) : rd (dpL l i) (j : Int) = ((dp l j : Nat) : Int) := by
  rw [rd_at _ (by rw [dpL_len]; exact h)]
  simp [dpL]
theorem dpL_more (l : List Nd) (i : Nat) : dpL l (i + 1) = dpL l i ++ [((dp l i : Nat) : Int)] := by simp [dpL, List.range_succ]
theorem foldm_le {B : Nat} : ∀ (ns : List Nat) (a : Nat), a ≤ B → (∀ n ∈ ns, n ≤ B) → ns.foldl (fun a n => max a n) a ≤ B
  | [], _, h, _ => h
  | n :: ns, a, h, hn => foldm_le ns _ (by have := hn n (by simp); show max a n ≤ B; omega) (fun m hm => hn m (List.mem_cons_of_mem _ hm))
theorem dp_le {l : List Nd} (hv : Valid l) : ∀ (k i : Nat), i < k → i < l.length → dp l i ≤ i + 1 := by
  intro k
  induction k with
  | zero => intro i h; omega
  | succ k ih =>
    intro i h hi
    rw [dp_at hv hi]
    unfold gDepth
    have := foldm_le (B := i) (l[i].2.map (dp l)) 0 (by omega) (fun n hn => by
      obtain ⟨p, hp, rfl⟩ := List.mem_map.1 hn
      have := hv i l[i] (List.getElem?_eq_getElem hi) p hp
      have := ih p (by omega) (by omega)
      omega)
    omega
def accD (l : List Nd) (x : Nd) (j : Nat) : Nat := ((x.2.take j).map (dp l)).foldl (fun a n => max a n) 0
theorem accD_more {l : List Nd} {x : Nd} {j : Nat} (hj : j < x.2.length) : accD l x (j + 1) = max (accD l x j) (dp l x.2[j]) := by
  unfold accD
  rw [List.take_succ_eq_append_getElem hj, List.map_append, List.foldl_append]
  rfl
theorem depth_kids {l : List Nd} (hv : Valid l) (hl : l.length ≤ 4194304) {i : Nat} (hi : i < l.length) (hk : l[i].2.length ≤ 4194304) (r : Int) (h : EvS (fun k => lemmaref13_Depth.l0 k (l.map toL) (dpL l (i + 1)) ((i + 1 : Nat) : Int)) r) :
    ∀ (d j : Nat), j ≤ l[i].2.length → l[i].2.length - j = d → EvS (fun k => lemmaref13_Depth.l1 k (l.map toL) (dpL l i) i (accD l l[i] j : Nat) j) r := by
  have hrl : ((l.map toL).length : Int) = (l.length : Int) := by rw [List.length_map]
  have hlo : (rd_T27 (l.map toL) (i : Int)).f1 = ints l[i].2 := lo_at l hi
  have hil : (ints l[i].2).length = l[i].2.length := by simp [ints]
  intro d
  induction d with
  | zero =>
    intro j hj hd
    have hje : j = l[i].2.length := by omega
    have e : accD l l[i] j + 1 = dp l i := by
      rw [dp_at hv hi, hje]
      unfold accD gDepth
      rw [List.take_length]
    have hd2 := dp_le hv (i + 1) i (by omega) hi
    refine EvS.step h fun k => ?_
    have e2 : wrap64 ((accD l l[i] j : Int) + 1) = ((dp l i : Nat) : Int) := by
      rw [wrap_in (by omega) (by omega)]
      omega
    conv => lhs; unfold lemmaref13_Depth.l1
    rw [hlo, if_pos (by omega), if_pos (by omega), if_neg (by omega), if_pos (by rw [dpL_len]; omega), e2, wrap_in (by omega) (by omega), dpL_more]
    rfl
  | succ d ih =>
    intro j hj hd
    have hlt : j < l[i].2.length := by omega
    have hkid := hv i l[i] (List.getElem?_eq_getElem hi) _ (List.getElem_mem hlt)
    have hrd : rd (ints l[i].2) (j : Int) = ((l[i].2[j] : Nat) : Int) := by
      rw [rd_at _ (by omega)]
      simp [ints]
    refine EvS.step (ih (j + 1) (by omega) (by omega)) fun k => ?_
    have e : mx (accD l l[i] j : Int) ((dp l l[i].2[j] : Nat) : Int) = ((accD l l[i] (j + 1) : Nat) : Int) := by
      rw [accD_more hlt]
      unfold mx
      split <;> omega
    conv => lhs; unfold lemmaref13_Depth.l1
    rw [hlo, if_pos (by omega), if_pos (by omega), if_pos (by omega), if_pos (by omega), hrd, if_pos (by omega), if_pos (by rw [dpL_len]; omega), dpL_at l hkid, e, wrap_in (by omega) (by omega)]
    rfl
theorem depth_l0 {l : List Nd} (hv : Valid l) (h0 : 0 < l.length) (hl : l.length ≤ 4194304) (hk : ∀ x ∈ l, x.2.length ≤ 4194304) : ∀ (d i : Nat), i ≤ l.length → l.length - i = d → EvS (fun k => lemmaref13_Depth.l0 k (l.map toL) (dpL l i) i) ((depthN l : Nat) : Int) := by
  have hrl : ((l.map toL).length : Int) = (l.length : Int) := by rw [List.length_map]
  intro d
  induction d with
  | zero =>
    intro i hi hd
    have : i = l.length := by omega
    subst this
    refine EvS.some fun k => ?_
    have e : wrap64 (((dpL l l.length).length : Int) - 1) = ((l.length - 1 : Nat) : Int) := by
      rw [dpL_len, wrap_in (by omega) (by omega)]
      omega
    conv => lhs; unfold lemmaref13_Depth.l0
    rw [if_neg (by omega), e, if_pos (by omega), if_pos (by rw [dpL_len]; omega), dpL_at l (by omega)]
    rfl
  | succ d ih =>
    intro i hi hd
    have hlt : i < l.length := by omega
    have h := depth_kids hv hl hlt (hk _ (List.getElem_mem hlt)) _ (ih (i + 1) (by omega) (by omega)) l[i].2.length 0 (by omega) (by omega)
    refine EvS.step h fun k => ?_
    conv => lhs; unfold lemmaref13_Depth.l0
    rw [if_pos (by omega)]
    rfl
theorem depth_ev {l : List Nd} (hv : Valid l) (h0 : 0 < l.length) (hl : l.length ≤ 4194304) (hk : ∀ x ∈ l, x.2.length ≤ 4194304) : EvS (fun k => lemmaref13_Depth.f k (l.map toL)) ((depthN l : Nat) : Int) := by
  have h1 := none_f (l.map toL) (by rw [List.length_map]; exact hl) (lo_le hk)
  rw [some_none hv h0] at h1
  unfold lemmaref13_Depth.f
  refine h1.bind (f := fun k t118 => if t118 = true then Option.some 0 else lemmaref13_Depth.l0 k (l.map toL) ([] : List Int) 0) ?_
  simp only [Bool.false_eq_true, if_false]
  exact depth_l0 hv h0 hl hk l.length 0 (by omega) (by omega)
theorem depth_none {L : List S27} (hb : noneB L = true) (hl : L.length ≤ 4194304) (hk : ∀ i, (lo L i).length ≤ 4194304) : EvS (fun k => lemmaref13_Depth.f k L) 0 := by
  have h1 := none_f L hl hk
  rw [hb] at h1
  obtain ⟨K, h⟩ := h1
  refine ⟨K, fun k hk => ?_⟩
  have := h k hk
  simp only at this
  show lemmaref13_Depth.f k L = _
  unfold lemmaref13_Depth.f
  rw [this]
  rfl
/-! ### labels, Labels -/
theorem labels_ev {l : List Nd} (hv : Valid l) (hl : l.length ≤ 4194304) (hk : ∀ x ∈ l, x.2.length ≤ 4194304) : ∀ (n i : Nat), i < n → i < l.length → ∀ out : List ByteArray, out.length + (labF l i).length ≤ 4194304 → EvS (fun k => lemmaref13_labels.f k (l.map toL) i out) (out ++ labF l i) := by
  have hrl : ((l.map toL).length : Int) = (l.length : Int) := by rw [List.length_map]
  intro n
  induction n with
  | zero => intro i h; omega
  | succ n ih =>
    intro i hn hi out ho
    have hlo : (rd_T27 (l.map toL) (i : Int)).f1 = ints l[i].2 := lo_at l hi
    have hf0 : (rd_T27 (l.map toL) (i : Int)).f0 = l[i].1 := by rw [rd27 l hi]; rfl
    have hil : (ints l[i].2).length = l[i].2.length := by simp [ints]
    have hks := hk _ (List.getElem_mem hi)
    have eLab := labF_at hv hi
    have key : ∀ (d j : Nat), j ≤ l[i].2.length → l[i].2.length - j = d → EvS (fun k => lemmaref13_labels.l0 k (l.map toL) i (out ++ ((l[i].2.take j).map (labF l)).flatten) j) (out ++ labF l i) := by
      intro d
      induction d with
      | zero =>
        intro j hj hd
        have hje : j = l[i].2.length := by omega
        subst hje
        refine EvS.some fun k => ?_
        rw [eLab, List.length_append] at ho
        conv => lhs; unfold lemmaref13_labels.l0
        rw [hlo, hf0, if_pos (by omega), if_pos (by omega), if_neg (by omega), List.take_length, if_pos (by rw [List.length_append]; omega), eLab, List.append_assoc]
      | succ d ihd =>
        intro j hj hd
        have hlt : j < l[i].2.length := by omega
        have hkid := hv i l[i] (List.getElem?_eq_getElem hi) _ (List.getElem_mem hlt)
        have hrd : rd (ints l[i].2) (j : Int) = ((l[i].2[j] : Nat) : Int) := by
          rw [rd_at _ (by omega)]
          simp [ints]
        have emore : ((l[i].2.take (j + 1)).map (labF l)).flatten = ((l[i].2.take j).map (labF l)).flatten ++ labF l l[i].2[j] := by
          rw [List.take_succ_eq_append_getElem hlt, List.map_append, List.flatten_append]
          simp only [List.map_cons, List.map_nil, List.flatten_cons, List.flatten_nil, List.append_nil]
        have hle : ((l[i].2.take (j + 1)).map (labF l)).flatten.length ≤ ((l[i].2).map (labF l)).flatten.length := by
          have : (l[i].2).map (labF l) = (l[i].2.take (j + 1)).map (labF l) ++ (l[i].2.drop (j + 1)).map (labF l) := by rw [← List.map_append, List.take_append_drop]
          rw [this, List.flatten_append, List.length_append]
          omega
        rw [eLab, List.length_append] at ho
        rw [emore, List.length_append] at hle
        have h1 := ih l[i].2[j] (by omega) (by omega) (out ++ ((l[i].2.take j).map (labF l)).flatten) (by rw [List.length_append]; omega)
        have h2 := ihd (j + 1) (by omega) (by omega)
        rw [emore, ← List.append_assoc] at h2
        have h3 := h1.bind (f := fun k t130 => lemmaref13_labels.l0 k (l.map toL) i t130 ((j + 1 : Nat) : Int)) h2
        refine EvS.step h3 fun k => ?_
        conv => lhs; unfold lemmaref13_labels.l0
        rw [hlo, if_pos (by omega), if_pos (by omega), if_pos (by omega), if_pos (by omega), hrd, wrap_in (by omega) (by omega)]
        rfl
    have h := key l[i].2.length 0 (by omega) (by omega)
    simp only [List.take_zero, List.map_nil, List.flatten_nil, List.append_nil] at h
    refine EvS.step h fun k => ?_
    conv => lhs; unfold lemmaref13_labels.f
    rfl
def labAns (l : List Nd) : List ByteArray × Bool := if (labN l).length ≤ 2000 then (labN l, true) else ([], false)
theorem labs_ev {l : List Nd} (hv : Valid l) (h0 : 0 < l.length) (hl : l.length ≤ 4194304) (hk : ∀ x ∈ l, x.2.length ≤ 4194304) : EvS (fun k => lemmaref13_Labels.f k (l.map toL)) (labAns l) := by
  have h1 := none_f (l.map toL) (by rw [List.length_map]; exact hl) (lo_le hk)
  rw [some_none hv h0] at h1
  have h2 := size_ev hv h0 hl hk
  have hs := sizeN_len hv h0
  unfold lemmaref13_Labels.f
  refine h1.bind (f := fun k t137 => if t137 = true then Option.some (([] : List ByteArray), false) else (lemmaref13_Size.f k (l.map toL)).bind fun t138 => if t138 > 2000 then Option.some (([] : List ByteArray), false) else (lemmaref13_labels.f k (l.map toL) (wrap64 (((l.map toL).length : Int) - 1)) ([] : List ByteArray)).bind fun t139 => Option.some (t139, true)) ?_
  simp only [Bool.false_eq_true, if_false]
  refine EvS.bind (g := fun k => lemmaref13_Size.f k (l.map toL)) h2 (f := fun k t138 => if t138 > 2000 then Option.some (([] : List ByteArray), false) else (lemmaref13_labels.f k (l.map toL) (wrap64 (((l.map toL).length : Int) - 1)) ([] : List ByteArray)).bind fun t139 => Option.some (t139, true)) ?_
  unfold labAns
  by_cases hb : (labN l).length ≤ 2000
  · rw [if_pos hb]
    have e : wrap64 (((l.map toL).length : Int) - 1) = ((l.length - 1 : Nat) : Int) := by
      rw [List.length_map, wrap_in (by omega) (by omega)]
      omega
    have h3 := labels_ev hv hl hk l.length (l.length - 1) (by omega) (by omega) [] (by
      show 0 + (labN l).length ≤ _
      omega)
    have h4 := h3.bind (f := fun k t139 => Option.some (t139, true)) (q := (labN l, true)) ⟨0, fun k _ => rfl⟩
    obtain ⟨K, h5⟩ := h4
    refine ⟨K, fun k hk => ?_⟩
    have := h5 k hk
    simp only at this ⊢
    rw [if_neg (by omega), e]
    exact this
  · rw [if_neg hb]
    refine ⟨0, fun k _ => ?_⟩
    simp only
    rw [if_pos (by omega)]
theorem labs_none {L : List S27} (hb : noneB L = true) (hl : L.length ≤ 4194304) (hk : ∀ i, (lo L i).length ≤ 4194304) : EvS (fun k => lemmaref13_Labels.f k L) ([], false) := by
  have h1 := none_f L hl hk
  rw [hb] at h1
  obtain ⟨K, h⟩ := h1
  refine ⟨K, fun k hk => ?_⟩
  have := h k hk
  simp only at this
  show lemmaref13_Labels.f k L = _
  unfold lemmaref13_Labels.f
  rw [this]
  rfl
/-! ### equal -/
theorem equal_ev (a b : List Int) (hl : a.length = b.length) (hb : a.length ≤ 4194304) : ∀ (d j : Nat), j ≤ a.length → a.length - j = d → EvS (fun k => lemmaref13_equal.l0 k a b j) (decide (a.drop j = b.drop j)) := by
  intro d
  induction d with
  | zero =>
    intro j hj hd
    refine EvS.some fun k => ?_
    conv => lhs; unfold lemmaref13_equal.l0
    rw [if_neg (by omega), List.drop_eq_nil_of_le (by omega), List.drop_eq_nil_of_le (by omega)]
    simp
  | succ d ih =>
    intro j hj hd
    have hlt : j < a.length := by omega
    have ea : a.drop j = a[j] :: a.drop (j + 1) := List.drop_eq_getElem_cons hlt
    have eb : b.drop j = b[j]'(by omega) :: b.drop (j + 1) := List.drop_eq_getElem_cons (by omega)
    by_cases e : a[j] = b[j]'(by omega)
    · have h := ih (j + 1) (by omega) (by omega)
      refine EvS.step (h := fun k => lemmaref13_equal.l0 k a b ((j + 1 : Nat) : Int)) ?_ fun k => ?_
      · rw [show decide (a.drop j = b.drop j) = decide (a.drop (j + 1) = b.drop (j + 1)) from decide_eq_decide.2 (by rw [ea, eb, List.cons.injEq]; exact ⟨fun h => h.2, fun h => ⟨e, h⟩⟩)]
        exact h
      · conv => lhs; unfold lemmaref13_equal.l0
        rw [if_pos (by omega), if_pos (by omega), if_pos (by omega), rd_at a hlt, rd_at b (by omega), if_pos e, wrap_in (by omega) (by omega)]
        rfl
    · refine EvS.some fun k => ?_
      conv => lhs; unfold lemmaref13_equal.l0
      rw [if_pos (by omega), if_pos (by omega), if_pos (by omega), rd_at a hlt, rd_at b (by omega), if_neg e, decide_eq_false (by rw [ea, eb, List.cons.injEq]; exact fun h => e h.1)]
theorem equal_f (a b : List Int) (hb : a.length ≤ 4194304) : ∃ k, lemmaref13_equal.f k a b = some (decide (a = b)) := by
  by_cases hl : a.length = b.length
  · obtain ⟨K, h⟩ := equal_ev a b hl hb a.length 0 (by omega) (by omega)
    refine ⟨K, ?_⟩
    have := h K (Nat.le_refl _)
    simp only [List.drop_zero] at this
    unfold lemmaref13_equal.f
    rw [if_pos (by omega)]
    exact this
  · refine ⟨0, ?_⟩
    unfold lemmaref13_equal.f
    rw [if_neg (by omega), decide_eq_false (fun e => hl (by rw [e]))]
end Go.Proofs.Ytkonloadedbpkaa.ListsP
