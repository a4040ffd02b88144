/- ShareAll. -/
import Derived.Test.YtkonloadedbpkaaY7
import Derived.Test.YtkonloadedbpkaaY0
import Derived.Test.YtkonloadedbpkaaY4
import Derived.Test.YtkonloadedbpkaaWLast
import Derived.Deep.AppendLies
import Derived.Deep.RegionHeld3
import Derived.Deep.DeepCutAuto
import Derived.Deep.DrawnRows
import Derived.Test.YtkonloadedbpkaaY5
import Derived.Laws.EntriesVeiled
namespace Go.Proofs.Ytkonloadedbpkaa.ShareP
open Go.Proofs.Ytkonloadedbpkaa.FoldPure Go.Proofs.Ytkonloadedbpkaa.KindsP Go.Proofs.Ytkonloadedbpkaa.KindsS Go.Proofs.Ytkonloadedbpkaa.FMaps
set_option linter.unusedVariables false

structure ShS where
  place : Nat → Option Nat
  out : List Nd
def nodeAt (l : List Nd) (i : Nat) : Nd := l.getD i (ByteArray.empty, [])
theorem nodeAt_eq {l : List Nd} {i : Nat} (h : i < l.length) : nodeAt l i = l[i] := by
  unfold nodeAt
  rw [List.getD_eq_getElem?_getD, List.getElem?_eq_getElem h]
  rfl
def kidsT (f : Nat → ShS → ShS × Nat) (s : ShS) (ks : List Nat) : ShS × List Nat := ks.foldl (fun p j => ((f j p.1).1, p.2 ++ [(f j p.1).2])) (s, [])
def putT (s : ShS) (n : Nat) (x : Nd) : ShS := ⟨upd s.place n s.out.length, s.out ++ [x]⟩
def shT (l : List Nd) (kd : List Nat) : Nat → Nat → ShS → ShS × Nat
  | 0, i, s => (s, 0)
  | k + 1, i, s => match s.place (kd.getD i 0) with
    | some a => (s, a)
    | none => (putT (kidsT (shT l kd k) s (nodeAt l i).2).1 (kd.getD i 0) ((nodeAt l i).1, (kidsT (shT l kd k) s (nodeAt l i).2).2), (kidsT (shT l kd k) s (nodeAt l i).2).1.out.length)
theorem kidsT_succ (f : Nat → ShS → ShS × Nat) (s : ShS) (ks : List Nat) {j : Nat} (h : j < ks.length) :
    kidsT f s (ks.take (j + 1)) = ((f ks[j] (kidsT f s (ks.take j)).1).1, (kidsT f s (ks.take j)).2 ++ [(f ks[j] (kidsT f s (ks.take j)).1).2]) := by
  unfold kidsT
  rw [List.take_succ_eq_append_getElem h, List.foldl_append]
  rfl
/-- What a fold over the kids keeps. -/
theorem kidsT_inv {f : Nat → ShS → ShS × Nat} (I : ShS → Prop) {ks : List Nat} (hf : ∀ j ∈ ks, ∀ s, I s → I (f j s).1) {s : ShS} (h : I s) : I (kidsT f s ks).1 := by
  unfold kidsT
  have : ∀ (ks' : List Nat) (p : ShS × List Nat), (∀ j ∈ ks', j ∈ ks) → I p.1 → I (ks'.foldl (fun p j => ((f j p.1).1, p.2 ++ [(f j p.1).2])) p).1 := by
    intro ks'
    induction ks' with
    | nil => intro p _ h; exact h
    | cons j ks' ih => intro p hm h; exact ih _ (fun x hx => hm x (by simp [hx])) (hf j (hm j (by simp)) _ h)
  exact this ks (s, []) (fun _ h => h) h
/-- Numbers of kids are less than the node's own. -/
def StrictN (l : List Nd) (kd : List Nat) : Prop := ∀ i (hi : i < l.length), ∀ k ∈ l[i].2, kd.getD k 0 < kd.getD i 0
theorem shT_far {l : List Nd} {kd : List Nat} (hS : StrictN l kd) (hv : Valid l) : ∀ (k i : Nat) (s : ShS) (n : Nat), i < l.length → kd.getD i 0 < n → (shT l kd k i s).1.place n = s.place n := by
  intro k
  induction k with
  | zero => intro i s n _ _; rfl
  | succ k ih =>
    intro i s n hi hn
    unfold shT
    split
    · rfl
    · unfold putT
      simp only
      unfold upd
      rw [if_neg (by omega)]
      refine kidsT_inv (I := fun s' => s'.place n = s.place n) (fun j hj s' hs' => ?_) rfl
      rw [nodeAt_eq hi] at hj
      have h1 := hv i l[i] (List.getElem?_eq_getElem hi) j hj
      have h2 := hS i hi j hj
      rw [ih j s' n (by omega) (by omega)]
      exact hs'
theorem kids_far {l : List Nd} {kd : List Nat} (hS : StrictN l kd) (hv : Valid l) (k i : Nat) (s : ShS) (hi : i < l.length) : (kidsT (shT l kd k) s l[i].2).1.place (kd.getD i 0) = s.place (kd.getD i 0) := by
  refine kidsT_inv (I := fun s' => s'.place (kd.getD i 0) = s.place (kd.getD i 0)) (fun j hj s' hs' => ?_) rfl
  have h1 := hv i l[i] (List.getElem?_eq_getElem hi) j hj
  rw [shT_far hS hv k j s' _ (by omega) (hS i hi j hj)]
  exact hs'
end Go.Proofs.Ytkonloadedbpkaa.ShareP

namespace Go.Proofs.Ytkonloadedbpkaa.ShareW
open Go.RowKit Go.Maps Go.Proofs.Ytkonloadedbpkaa.Sep Go.Proofs.Ytkonloadedbpkaa.FMaps Go.Proofs.Ytkonloadedbpkaa.FoldPure Go.Proofs.Ytkonloadedbpkaa.FoldMem Go.Proofs.Ytkonloadedbpkaa.Gather Go.Proofs.Ytkonloadedbpkaa.KindsP Go.Proofs.Ytkonloadedbpkaa.KindsS Go.Proofs.Ytkonloadedbpkaa.ShareP Go.Proofs.Ytkonloadedbpkaa.NodesMem Go.Proofs.Ytkonloadedbpkaa.NodeMem Go.Proofs.Ytkonloadedbpkaa.KindsW Go.Proofs.Ytkonloadedbpkaa.TreeW
open Go.Proofs.YtkonloadedbpkaaW.PrintWords
open Go.Proofs.YtkonloadedbpkaaW.PrintLast
set_option linter.unusedVariables false
set_option linter.unusedSimpArgs false
attribute [local go_sem ↓] Go.wp_at_zero Go.wp_at_succ
set_option maxRecDepth 100000

/-- What Share's closure has captured and does not write. -/
structure ShC (A : Option Addr) (l : List Nd) (kd : List Nat) (c kb nb pb lb vb ob mp : Nat) (w : World) : Prop where
  ckb : w.cell? ⟨kb, 0, none⟩ = some (.slice (some ⟨nb, 0, none⟩) l.length l.length)
  cks : ∀ j (h : j < kd.length), w.cell? ⟨nb, j, none⟩ = some (nat kd[j])
  clb : w.cell? ⟨lb, 0, none⟩ = some (.slice A l.length c)
  cnodes : NodesC A l w
  cvb : w.cell? ⟨vb, 0, none⟩ = some (.func (.func 50) #[] #[.pointer (some ⟨pb, 0, none⟩), .pointer (some ⟨kb, 0, none⟩), .pointer (some ⟨lb, 0, none⟩), .pointer (some ⟨vb, 0, none⟩), .pointer (some ⟨ob, 0, none⟩)])
  cpb : w.cell? ⟨pb, 0, none⟩ = some (.map (some mp))
end Go.Proofs.Ytkonloadedbpkaa.ShareW

namespace Go.Proofs.Ytkonloadedbpkaa.ShareQ
open Go.Proofs.Ytkonloadedbpkaa.FoldPure Go.Proofs.Ytkonloadedbpkaa.KindsP Go.Proofs.Ytkonloadedbpkaa.KindsS Go.Proofs.Ytkonloadedbpkaa.ShareP Go.Proofs.Ytkonloadedbpkaa.FMaps
set_option linter.unusedVariables false

structure Ext (s s' : ShS) : Prop where
  out : ∃ t, s'.out = s.out ++ t
  place : ∀ n p, s.place n = some p → s'.place n = some p
theorem Ext.refl (s : ShS) : Ext s s := ⟨⟨[], by simp⟩, fun _ _ h => h⟩
theorem Ext.trans {a b c : ShS} (h : Ext a b) (k : Ext b c) : Ext a c := by
  obtain ⟨t, ht⟩ := h.out
  obtain ⟨u, hu⟩ := k.out
  exact ⟨⟨t ++ u, by rw [hu, ht, List.append_assoc]⟩, fun n p hp => k.place n p (h.place n p hp)⟩
theorem Ext.get {s s' : ShS} (h : Ext s s') {p : Nat} {x : Nd} (hp : s.out[p]? = some x) : s'.out[p]? = some x := by
  obtain ⟨t, ht⟩ := h.out
  rw [ht, List.getElem?_append_left (List.getElem?_eq_some_iff.1 hp).1]
  exact hp
theorem Ext.len {s s' : ShS} (h : Ext s s') : s.out.length ≤ s'.out.length := by
  obtain ⟨t, ht⟩ := h.out
  rw [ht, List.length_append]
  omega
def placesOf (kd : List Nat) (s : ShS) (ks : List Nat) : List (Option Nat) := ks.map (fun k => s.place (kd.getD k 0))
theorem places_mono {kd : List Nat} {s s' : ShS} (h : ∀ n p, s.place n = some p → s'.place n = some p) : ∀ {ks ps : List Nat}, placesOf kd s ks = ps.map some → placesOf kd s' ks = ps.map some
  | [], ps, e => by simpa [placesOf] using e
  | k :: ks, ps, e => by
    cases ps with
    | nil => simp [placesOf] at e
    | cons p ps =>
      simp only [placesOf, List.map_cons, List.cons.injEq] at e ⊢
      exact ⟨h _ _ e.1, places_mono h e.2⟩
structure InvS (l : List Nd) (kd : List Nat) (s : ShS) : Prop where
  here : ∀ i (hi : i < l.length) p, s.place (kd.getD i 0) = some p → ∃ x, s.out[p]? = some x ∧ x.1 = l[i].1 ∧ placesOf kd s l[i].2 = x.2.map some ∧ ∀ q ∈ x.2, q < p
  from_ : ∀ p, p < s.out.length → ∃ i, i < l.length ∧ s.place (kd.getD i 0) = some p
  inj : ∀ n m p, s.place n = some p → s.place m = some p → n = m
  dom : ∀ n p, s.place n = some p → ∃ i, i < l.length ∧ kd.getD i 0 = n
theorem InvS.lt {l : List Nd} {kd : List Nat} {s : ShS} (h : InvS l kd s) {n p : Nat} (hp : s.place n = some p) : p < s.out.length := by
  obtain ⟨i, hi, rfl⟩ := h.dom n p hp
  obtain ⟨x, hx, _⟩ := h.here i hi p hp
  exact (List.getElem?_eq_some_iff.1 hx).1
/-- Same numbers: same labels, same kids' numbers. -/
def Kinds (l : List Nd) (kd : List Nat) : Prop := ∀ i j (hi : i < l.length) (hj : j < l.length), kd.getD i 0 = kd.getD j 0 → l[i].1 = l[j].1 ∧ kidsK kd l[i] = kidsK kd l[j]
theorem places_kids {l : List Nd} {kd : List Nat} {s : ShS} {i j : Nat} (hi : i < l.length) (hj : j < l.length) (h : kidsK kd l[i] = kidsK kd l[j]) : placesOf kd s l[i].2 = placesOf kd s l[j].2 := by
  have e : ∀ x : Nd, placesOf kd s x.2 = (kidsK kd x).map s.place := fun x => by simp [placesOf, kidsK]
  rw [e, e, h]
theorem inv_put {l : List Nd} {kd : List Nat} {s : ShS} {i : Nat} {ps : List Nat} (hK : Kinds l kd) (hS : StrictN l kd) (h : InvS l kd s) (hi : i < l.length) (hn : s.place (kd.getD i 0) = none) (hps : placesOf kd s l[i].2 = ps.map some) :
    InvS l kd (putT s (kd.getD i 0) (l[i].1, ps)) ∧ Ext s (putT s (kd.getD i 0) (l[i].1, ps)) := by
  have hmono : ∀ n p, s.place n = some p → (putT s (kd.getD i 0) (l[i].1, ps)).place n = some p := by
    intro n p hp
    show upd _ _ _ _ = _
    unfold upd
    rw [if_neg]
    · exact hp
    · rintro rfl
      rw [hn] at hp
      cases hp
  have hext : Ext s (putT s (kd.getD i 0) (l[i].1, ps)) := ⟨⟨_, rfl⟩, hmono⟩
  have hpq : ∀ q ∈ ps, q < s.out.length := by
    intro q hq
    have : some q ∈ placesOf kd s l[i].2 := by rw [hps]; exact List.mem_map_of_mem hq
    obtain ⟨k, _, hk⟩ := List.mem_map.1 this
    exact h.lt hk
  have hplace : ∀ n p, (putT s (kd.getD i 0) (l[i].1, ps)).place n = some p → (n = kd.getD i 0 ∧ p = s.out.length) ∨ (n ≠ kd.getD i 0 ∧ s.place n = some p) := by
    intro n p hp
    change upd _ _ _ _ = _ at hp
    unfold upd at hp
    split at hp
    · exact .inl ⟨by assumption, (Option.some.inj hp).symm⟩
    · exact .inr ⟨by assumption, hp⟩
  refine ⟨⟨fun j hj p hp => ?_, fun p hp => ?_, fun n m p h1 h2 => ?_, fun n p hp => ?_⟩, hext⟩
  · rcases hplace _ _ hp with ⟨e, rfl⟩ | ⟨_, hp⟩
    · obtain ⟨e1, e2⟩ := hK j i hj hi e
      refine ⟨(l[i].1, ps), ?_, e1.symm, ?_, hpq⟩
      · show (s.out ++ [_])[s.out.length]? = _
        simp
      · rw [places_kids hj hi e2]
        exact places_mono hmono hps
    · obtain ⟨x, h1, h2, h3, h4⟩ := h.here j hj p hp
      exact ⟨x, hext.get h1, h2, places_mono hmono h3, h4⟩
  · have : p < s.out.length + 1 := by simpa [putT] using hp
    by_cases e : p = s.out.length
    · subst e
      refine ⟨i, hi, ?_⟩
      show upd _ _ _ _ = _
      unfold upd
      rw [if_pos rfl]
    · obtain ⟨j, hj, hjp⟩ := h.from_ p (by omega)
      exact ⟨j, hj, hmono _ _ hjp⟩
  · rcases hplace _ _ h1 with ⟨e1, e2⟩ | ⟨_, h1⟩ <;> rcases hplace _ _ h2 with ⟨e3, e4⟩ | ⟨_, h2⟩
    · rw [e1, e3]
    · have := h.lt h2
      omega
    · have := h.lt h1
      omega
    · exact h.inj n m p h1 h2
  · rcases hplace _ _ hp with ⟨e, _⟩ | ⟨_, hp⟩
    · exact ⟨i, hi, e.symm⟩
    · exact h.dom n p hp
/-- What a visit does. -/
structure Vis (l : List Nd) (kd : List Nat) (i : Nat) (s : ShS) (r : ShS × Nat) : Prop where
  ext : Ext s r.1
  inv : InvS l kd r.1
  at_ : r.1.place (kd.getD i 0) = some r.2
  led : ∀ p, s.out.length ≤ p → p < r.1.out.length → p = r.2 ∨ ∃ x ∈ r.1.out, p ∈ x.2
  last : s.place (kd.getD i 0) = none → r.2 + 1 = r.1.out.length
structure VisK (l : List Nd) (kd : List Nat) (ks : List Nat) (s : ShS) (r : ShS × List Nat) : Prop where
  ext : Ext s r.1
  inv : InvS l kd r.1
  at_ : placesOf kd r.1 ks = r.2.map some
  led : ∀ p, s.out.length ≤ p → p < r.1.out.length → p ∈ r.2 ∨ ∃ x ∈ r.1.out, p ∈ x.2
theorem vis_kids {l : List Nd} {kd : List Nat} {f : Nat → ShS → ShS × Nat} {ks : List Nat} {s : ShS} (h : InvS l kd s) (hf : ∀ k ∈ ks, ∀ s, InvS l kd s → Vis l kd k s (f k s)) : ∀ j, j ≤ ks.length → VisK l kd (ks.take j) s (kidsT f s (ks.take j)) := by
  intro j
  induction j with
  | zero => exact fun _ => ⟨Ext.refl s, h, by simp [placesOf, kidsT], fun p h1 h2 => by simp [kidsT] at h2; omega⟩
  | succ j ih =>
    intro hj
    have hlt : j < ks.length := by omega
    have a := ih (by omega)
    have v := hf ks[j] (List.getElem_mem hlt) _ a.inv
    rw [kidsT_succ f s ks hlt, List.take_succ_eq_append_getElem hlt]
    refine ⟨a.ext.trans v.ext, v.inv, ?_, fun p h1 h2 => ?_⟩
    · unfold placesOf
      rw [List.map_append, List.map_append]
      congr 1
      · exact places_mono v.ext.place a.at_
      · simp only [List.map_cons, List.map_nil, List.cons.injEq, and_true]
        exact v.at_
    · rcases Nat.lt_or_ge p (kidsT f s (ks.take j)).1.out.length with hlt2 | hge
      · rcases a.led p h1 hlt2 with h3 | ⟨x, hx, hp⟩
        · exact .inl (List.mem_append_left _ h3)
        · obtain ⟨t, ht⟩ := v.ext.out
          exact .inr ⟨x, by rw [ht]; exact List.mem_append_left _ hx, hp⟩
      · rcases v.led p hge h2 with rfl | h3
        · exact .inl (List.mem_append_right _ (by simp))
        · exact .inr h3
theorem visit {l : List Nd} {kd : List Nat} (hv : Valid l) (hK : Kinds l kd) (hS : StrictN l kd) : ∀ (k i : Nat) (s : ShS), i < k → i < l.length → InvS l kd s → Vis l kd i s (shT l kd k i s) := by
  intro k
  induction k with
  | zero => intro i s h; omega
  | succ k ih =>
    intro i s hik hi h
    unfold shT
    cases hp : s.place (kd.getD i 0) with
    | some a => exact ⟨Ext.refl s, h, hp, fun p h1 h2 => by simp only at h2; omega, fun h => by rw [hp] at h; cases h⟩
    | none =>
      simp only
      rw [nodeAt_eq hi]
      have a := vis_kids (f := shT l kd k) (ks := l[i].2) h (fun j hj s' hs' => by
        have := hv i l[i] (List.getElem?_eq_getElem hi) j hj
        exact ih j s' (by omega) (by omega) hs') l[i].2.length (Nat.le_refl _)
      rw [List.take_length] at a
      have hn : (kidsT (shT l kd k) s l[i].2).1.place (kd.getD i 0) = none := by rw [kids_far hS hv k i s hi]; exact hp
      obtain ⟨h1, h2⟩ := inv_put hK hS a.inv hi hn a.at_
      refine ⟨a.ext.trans h2, h1, ?_, fun p hp1 hp2 => ?_, fun _ => by simp [putT]⟩
      · show upd _ _ _ _ = _
        unfold upd
        rw [if_pos rfl]
      · have hp3 : p < (kidsT (shT l kd k) s l[i].2).1.out.length + 1 := by simpa [putT] using hp2
        by_cases e : p = (kidsT (shT l kd k) s l[i].2).1.out.length
        · exact .inl e
        · right
          rcases a.led p hp1 (by omega) with h3 | ⟨x, hx, hp⟩
          · exact ⟨_, List.mem_append_right _ (List.mem_singleton.2 rfl), h3⟩
          · exact ⟨x, List.mem_append_left _ hx, hp⟩

/-! ### two runs side by side -/
/-- The state of the run over what is made: the first n nodes are there. -/
def half (m : List Nd) (n : Nat) : ShS := ⟨fun q => if q < n then some q else none, m.take n⟩
end Go.Proofs.Ytkonloadedbpkaa.ShareQ

namespace Go.Proofs.Ytkonloadedbpkaa.ShareR
open Go.Proofs.Ytkonloadedbpkaa.FoldPure Go.Proofs.Ytkonloadedbpkaa.KindsP Go.Proofs.Ytkonloadedbpkaa.KindsS Go.Proofs.Ytkonloadedbpkaa.ShareP Go.Proofs.Ytkonloadedbpkaa.ShareQ Go.Proofs.Ytkonloadedbpkaa.FMaps Go.Proofs.Ytkonloadedbpkaa.FoldSame
set_option linter.unusedVariables false

/-- Two lists of nodes with nodes that are alike: labels the same, kids alike, place by place. -/
def Bis (a b : List Nd) (R : Nat → Nat → Prop) : Prop := ∀ i p, R i p → ∃ (hi : i < a.length) (hp : p < b.length), a[i].1 = b[p].1 ∧ a[i].2.length = b[p].2.length ∧ ∀ t (h1 : t < a[i].2.length) (h2 : t < b[p].2.length), R a[i].2[t] b[p].2[t]
theorem Bis.symm {a b : List Nd} {R : Nat → Nat → Prop} (h : Bis a b R) : Bis b a (fun p i => R i p) := by
  intro p i hr
  obtain ⟨hi, hp, h1, h2, h3⟩ := h i p hr
  exact ⟨hp, hi, h1.symm, h2.symm, fun t k1 k2 => h3 t k2 k1⟩
/-! ### how many -/
/-! ### once more -/
end Go.Proofs.Ytkonloadedbpkaa.ShareR

namespace Go.Proofs.Ytkonloadedbpkaa.ShareL
open Go.RowKit Go.Maps Go.Proofs.Ytkonloadedbpkaa.Sep Go.Proofs.Ytkonloadedbpkaa.FMaps Go.Proofs.Ytkonloadedbpkaa.FoldPure Go.Proofs.Ytkonloadedbpkaa.FoldMem Go.Proofs.Ytkonloadedbpkaa.Gather Go.Proofs.Ytkonloadedbpkaa.KindsP Go.Proofs.Ytkonloadedbpkaa.KindsS Go.Proofs.Ytkonloadedbpkaa.ShareP Go.Proofs.Ytkonloadedbpkaa.ShareR Go.Proofs.Ytkonloadedbpkaa.NodesMem Go.Proofs.Ytkonloadedbpkaa.NodeMem Go.Proofs.Ytkonloadedbpkaa.KindsW Go.Proofs.Ytkonloadedbpkaa.TreeW Go.Proofs.Ytkonloadedbpkaa.ShareW
open Go.Proofs.YtkonloadedbpkaaW.PrintWords
open Go.Proofs.YtkonloadedbpkaaW.PrintLast
set_option linter.unusedVariables false
set_option linter.unusedSimpArgs false
attribute [local go_sem ↓] Go.wp_at_zero Go.wp_at_succ
set_option maxRecDepth 100000

end Go.Proofs.Ytkonloadedbpkaa.ShareL
