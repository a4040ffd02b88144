/- TreeShares, plain: the list of the law and what Share makes of it. -/
import Derived.Test.YtkonloadedbpkaaSharesP
import Derived.Test.YtkonloadedbpkaaRowsOf
import Derived.Test.YtkonloadedbpkaaNodesIn
namespace Go.Proofs.Ytkonloadedbpkaa.SharesQ
open Go.RowKit Go.Maps Go.Proofs.Ytkonloadedbpkaa.Sep Go.Proofs.Ytkonloadedbpkaa.PTreeShares Go.Proofs.Ytkonloadedbpkaa.FoldPure Go.Proofs.Ytkonloadedbpkaa.FoldMem Go.Proofs.Ytkonloadedbpkaa.Gather Go.Proofs.Ytkonloadedbpkaa.NodeMem Go.Proofs.Ytkonloadedbpkaa.RowsOf Go.Proofs.Ytkonloadedbpkaa.NodesIn Go.Proofs.Ytkonloadedbpkaa.KindsP Go.Proofs.Ytkonloadedbpkaa.KindsW Go.Proofs.Ytkonloadedbpkaa.TreeW Go.Proofs.Ytkonloadedbpkaa.KindsS Go.Proofs.Ytkonloadedbpkaa.ShareP Go.Proofs.Ytkonloadedbpkaa.ShareR Go.Proofs.Ytkonloadedbpkaa.ShareL Go.Proofs.Ytkonloadedbpkaa.SameW Go.Proofs.Ytkonloadedbpkaa.TreeP Go.Proofs.Ytkonloadedbpkaa.SharesP
open Go.Proofs.YtkonloadedbpkaaW.PrintWords
set_option linter.unusedVariables false
set_option linter.unusedSimpArgs false

def rootS : ByteArray := ⟨#[114, 111, 111, 116]⟩
def rootK (n : Nat) : List Nat := [0, n / 2].take (min n 2)
def lawL (l : List S27) : List Nd := boundN l ++ [(rootS, rootK (boundN l).length)]
theorem boundN_len (l : List S27) : (boundN l).length = min l.length 200 := boundTo_len l _
theorem bound_nd (l : List S27) : ∀ (i : Nat) x, (boundN l)[i]? = some x → i < l.length ∧ x = bNode i (rd_T27 l i) := by
  intro i x hx
  have hi := (List.getElem?_eq_some_iff.1 hx).1
  rw [boundN_len] at hi
  have := boundTo_at l (j := i) (i := min l.length 200) hi
  unfold boundN at hx
  rw [this] at hx
  exact ⟨by omega, (Option.some.inj hx).symm⟩
theorem bKids_small (i : Nat) (ks : List Int) : (bKids i ks).length ≤ 3 ∧ ∀ k ∈ bKids i ks, k < i := by
  unfold bKids
  split
  · simp
  · refine ⟨by simp; omega, fun k hk => ?_⟩
    obtain ⟨z, _, rfl⟩ := List.mem_map.1 hk
    exact bKid_lt (by omega) z
theorem rootK_small (n : Nat) : (rootK n).length ≤ 3 ∧ ∀ k ∈ rootK n, k < n := by
  unfold rootK
  match n with
  | 0 => simp
  | 1 => simp
  | n + 2 =>
    have : min (n + 2) 2 = 2 := by omega
    rw [this]
    simp
    omega

/-- What is true of the lists that the law looks at. -/
structure Small (m : List Nd) : Prop where
  valid : Valid m
  pos : 0 < m.length
  few : m.length ≤ 201
  three : ∀ x ∈ m, x.2.length ≤ 3
  labs : ∀ x ∈ m, x.1.size ≤ maxLen
theorem sum_three : ∀ {m : List Nd}, (∀ x ∈ m, x.2.length ≤ 3) → (m.map (·.2.length)).sum ≤ 3 * m.length
  | [], _ => by simp
  | x :: m, h => by
    have h1 := sum_three (m := m) fun y hy => h y (by simp [hy])
    have h2 := h x (by simp)
    simp only [List.map_cons, List.sum_cons, List.length_cons]
    omega
theorem Small.sum {m : List Nd} (h : Small m) : (m.map (·.2.length)).sum ≤ 4194304 := by
  have := sum_three h.three
  have := h.few
  omega
theorem law_small (l : List S27) (hlab : ∀ x ∈ l, x.f0.size ≤ maxLen) : Small (lawL l) := by
  have hb := boundN_len l
  have hnd := bound_nd l
  refine ⟨?_, ?_, ?_, ?_, ?_⟩
  · intro i x hx k hk
    unfold lawL at hx
    rcases Nat.lt_or_ge i (boundN l).length with hlt | hge
    · rw [List.getElem?_append_left hlt] at hx
      obtain ⟨_, rfl⟩ := hnd i x hx
      exact (bKids_small i _).2 k hk
    · rw [List.getElem?_append_right hge] at hx
      have hi : i - (boundN l).length = 0 := by
        have := (List.getElem?_eq_some_iff.1 hx).1
        simpa using this
      rw [hi] at hx
      simp at hx
      subst hx
      have := (rootK_small (boundN l).length).2 k hk
      omega
  · unfold lawL; simp
  · unfold lawL; simp; omega
  · intro x hx
    unfold lawL at hx
    rcases List.mem_append.1 hx with hx | hx
    · obtain ⟨i, hi, rfl⟩ := List.mem_iff_getElem.1 hx
      obtain ⟨_, e⟩ := hnd i _ (List.getElem?_eq_getElem hi)
      rw [e]
      exact (bKids_small i _).1
    · simp at hx
      subst hx
      exact (rootK_small _).1
  · intro x hx
    unfold lawL at hx
    rcases List.mem_append.1 hx with hx | hx
    · obtain ⟨i, hi, rfl⟩ := List.mem_iff_getElem.1 hx
      obtain ⟨hil, e⟩ := hnd i _ (List.getElem?_eq_getElem hi)
      rw [e]
      show (rd_T27 l i).f0.size ≤ maxLen
      unfold rd_T27
      rw [Int.toNat_natCast, List.getD_eq_getElem?_getD, List.getElem?_eq_getElem hil]
      exact hlab _ (List.getElem_mem hil)
    · simp at hx
      subst hx
      show rootS.size ≤ maxLen
      decide
theorem share_small {m : List Nd} (h : Small m) : Small (shareN m) := by
  have hle := share_le h.valid h.pos
  have key : ∀ x ∈ shareN m, ∃ y ∈ m, y.1 = x.1 ∧ y.2.length = x.2.length := by
    intro x hx
    obtain ⟨p, hpl, rfl⟩ := List.mem_iff_getElem.1 hx
    obtain ⟨i, hi⟩ := came_from h.valid h.pos hpl
    obtain ⟨hil, _, e, e2, _⟩ := came_bis h.valid h.pos i p hi
    exact ⟨m[i], List.getElem_mem hil, e, e2⟩
  refine ⟨share_valid h.valid h.pos, share_pos h.valid h.pos, by have := h.few; omega, fun x hx => ?_, fun x hx => ?_⟩
  · obtain ⟨y, hy, _, e⟩ := key x hx
    have := h.three y hy
    omega
  · obtain ⟨y, hy, e, _⟩ := key x hx
    rw [← e]
    exact h.labs y hy
theorem share_size {m : List Nd} (h : Small m) : sizeN m = sizeN (shareN m) := bis_sz (came_bis h.valid h.pos) h.valid (share_small h).valid (came_last h.valid h.pos)
theorem share_depth {m : List Nd} (h : Small m) : depthN m = depthN (shareN m) := bis_dp (came_bis h.valid h.pos) h.valid (share_small h).valid (came_last h.valid h.pos)
theorem share_labs {m : List Nd} (h : Small m) : labN m = labN (shareN m) := bis_lab (came_bis h.valid h.pos) h.valid (share_small h).valid (came_last h.valid h.pos)
theorem share_same {m : List Nd} (h : Small m) : lastA m = lastB m (shareN m) := bis_same (came_bis h.valid h.pos) h.valid (share_small h).valid (came_last h.valid h.pos)
theorem same_share {m : List Nd} (h : Small m) : lastA (shareN m) = lastB (shareN m) m := bis_same (came_bis h.valid h.pos).symm (share_small h).valid h.valid (came_last h.valid h.pos)

/-- bounded, called. -/
def toS2 (z : ByteArray × List Int) : S27 := ⟨z.1, z.2⟩
theorem bounded_calls {W w : World} {rs : List Res} {A : Option Addr} {c : Nat} {zs : List (ByteArray × List Int)} (M : Sep W w rs) (hC : Kd.C kP w A zs.length zs) (hc : zs.length ≤ c) :
    Calls Try.prog 30 #[.slice A zs.length c] w fun e w' => ∃ items A' c', e = .returned (.slice A' items.length c') ∧ items.map nd = boundN (zs.map toS2) ∧ items.length ≤ c' ∧ Sep W w' (rowR 27 2 (.slice A' items.length c') items.length (nodeCells items) :: kidsR items :: rs) := by
  obtain ⟨k, hk⟩ := bound_f (zs.map toS2)
  have hC2 : Kd.C k27 w A (zs.map toS2).length (zs.map toS2) := by
    rw [List.length_map]
    exact iso_C (d := kP) (f := fun x : S27 => (x.f0, x.f1)) (g := toS2) (fun x => rfl) hC
  have h := lemmalaw13_bounded.calls k A c (zs.map toS2) _ w hC2 (by rw [List.length_map]; exact hc) hk
  rw [List.length_map] at h
  refine h.mono ?_
  rintro e w' ⟨v, rfl, hS, hb⟩
  have hR := iso_R (Kd.S_R hS)
  rw [List.map_map] at hR
  have e1 : ((fun x : S27 => (x.f0, x.f1)) ∘ SharesP.toL) = toP := rfl
  rw [e1] at hR
  obtain ⟨items, A', c', rfl, h1, h2, h3, hm⟩ := rows_of M hR hb
  rw [← h2] at h3 hm ⊢
  exact ⟨items, A', c', rfl, h1, h3, hm⟩
/-- The other three, called. -/
theorem texts_calls {w : World} {A B : Option Addr} {ca cb : Nat} {a : List ByteArray} (hA : Kd.C Kd.string w A a.length a) (ha : a.length ≤ ca) (hB : Kd.C Kd.string w B a.length a) (hb : a.length ≤ cb) (hn : a.length ≤ 9007199254740991) :
    Calls Try.prog 25 #[.slice A a.length ca, .slice B a.length cb] w fun e w' => e = .returned (.bool true) ∧ Drawn0 w w' := by
  obtain ⟨k, hk⟩ := texts_f a hn
  exact lemmalaw13_texts.calls k A ca a B cb a true w hA ha hB hb hk
theorem ints_calls {w : World} {A B : Option Addr} {ca cb : Nat} {a b : List Int} (hA : Kd.C (Kd.int .i64) w A a.length a) (ha : a.length ≤ ca) (hB : Kd.C (Kd.int .i64) w B b.length b) (hb : b.length ≤ cb) (hn : a.length ≤ 9007199254740991) :
    Calls Try.prog 31 #[.slice A a.length ca, .slice B b.length cb] w fun e w' => e = .returned (.bool (decide (a = b))) ∧ Drawn0 w w' := by
  obtain ⟨k, hk⟩ := ints_f a b hn
  exact lemmalaw13_ints.calls k A ca a B cb b _ w hA ha hB hb hk
theorem nodes_same {w : World} {A B : Option Addr} {ca cb : Nat} {m : List Nd} (hm : Small m) (hA : NodesC A m w) (ha : m.length ≤ ca) (hB : NodesC B m w) (hb : m.length ≤ cb) :
    Calls Try.prog 26 #[.slice A m.length ca, .slice B m.length cb] w fun e w' => e = .returned (.bool true) ∧ Drawn0 w w' := by
  have hl : (m.map SharesP.toL).length = m.length := List.length_map ..
  have hf := hm.few
  obtain ⟨k, hk⟩ := nodes_f (m.map SharesP.toL) (by omega) (fun i => by
    unfold rd_T27
    rw [Int.toNat_natCast, List.getD_eq_getElem?_getD, List.getElem?_map]
    cases hz : m[i]? with
    | none => simp [z27]
    | some z =>
      simp only [Option.map_some, Option.getD_some]
      have := hm.three z (List.mem_of_getElem? hz)
      show (ints z.2).length ≤ _
      simp
      omega)
  have hC2 : ∀ {X : Option Addr}, NodesC X m w → Kd.C k27 w X (m.map SharesP.toL).length (m.map SharesP.toL) := fun {X} h => by
    rw [hl]
    have h2 := iso_C (d := kP) (f := fun x : S27 => (x.f0, x.f1)) (g := toS2) (fun x => rfl) h
    rw [List.map_map] at h2
    exact h2
  have h := lemmalaw13_nodes.calls k A ca (m.map SharesP.toL) B cb (m.map SharesP.toL) true w (hC2 hA) (by omega) (hC2 hB) (by omega) hk
  rw [hl] at h
  exact h
end Go.Proofs.Ytkonloadedbpkaa.SharesQ
