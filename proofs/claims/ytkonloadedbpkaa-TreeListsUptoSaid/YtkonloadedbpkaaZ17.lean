/- SharesP, SharesQ, SharesW. -/
import Derived.Test.YtkonloadedbpkaaZ16
import Derived.Test.YtkonloadedbpkaaZ10
import Derived.Test.YtkonloadedbpkaaZ7
import Derived.Test.YtkonloadedbpkaaZ11
import Derived.Test.YtkonloadedbpkaaZ4
import Derived.Deep.AppendLies
import Derived.Deep.RegionHeld3
import Derived.Deep.DeepCutAuto
import Derived.Deep.DrawnRows
namespace Go.Proofs.Ytkonloadedbpkaa.SharesP
open Go.RowKit Go.Proofs.Ytkonloadedbpkaa.PTreeShares Go.Proofs.Ytkonloadedbpkaa.FoldPure Go.Proofs.Ytkonloadedbpkaa.FoldMem Go.Proofs.Ytkonloadedbpkaa.Gather
open Go.Proofs.YtkonloadedbpkaaW.PrintWords
set_option linter.unusedVariables false

/-- From some number of rounds on it answers r. -/
def EvS {α : Type} (g : Nat → Option α) (r : α) : Prop := ∃ K, ∀ k, K ≤ k → g k = some r
theorem EvS.step {α : Type} {g h : Nat → Option α} {r : α} (H : EvS h r) (e : ∀ k, g (k + 1) = h k) : EvS g r := by
  obtain ⟨K, hK⟩ := H
  refine ⟨K + 1, fun k hk => ?_⟩
  obtain ⟨k, rfl⟩ : ∃ m, k = m + 1 := ⟨k - 1, by omega⟩
  rw [e]
  exact hK k (by omega)
theorem EvS.some {α : Type} {g : Nat → Option α} {r : α} (e : ∀ k, g (k + 1) = some r) : EvS g r := ⟨1, fun k hk => by
  obtain ⟨k, rfl⟩ : ∃ m, k = m + 1 := ⟨k - 1, by omega⟩
  exact e k⟩
theorem wrap_in {i : Int} (h0 : -1 ≤ i) (h : i ≤ 9007199254740992) : wrap64 i = i := by unfold wrap64; omega
theorem rd_at (ks : List Int) {j : Nat} (hj : j < ks.length) : rd ks (j : Int) = ks[j] := by simp [rd, hj]
def toL (x : Nd) : S27 := ⟨x.1, ints x.2⟩
/-! ### texts, ints, nodes -/
theorem texts_ev (a b : List ByteArray) (hl : a.length = b.length) (hb : a.length ≤ 9007199254740991) (h : a = b) : ∀ (d j : Nat), j ≤ a.length → a.length - j = d → EvS (fun k => lemmalaw13_texts.l0 k a b j) true := by
  subst h
  intro d
  induction d with
  | zero =>
    intro j hj hd
    refine EvS.some fun k => ?_
    conv => lhs; unfold lemmalaw13_texts.l0
    rw [if_neg (by omega)]
  | succ d ih =>
    intro j hj hd
    refine (ih (j + 1) (by omega) (by omega)).step fun k => ?_
    conv => lhs; unfold lemmalaw13_texts.l0
    rw [if_pos (by omega), if_pos (by omega), if_pos (by omega), if_pos rfl, wrap_in (by omega) (by omega)]
    rfl
theorem texts_f (a : List ByteArray) (hb : a.length ≤ 9007199254740991) : ∃ k, lemmalaw13_texts.f k a a = some true := by
  obtain ⟨K, h⟩ := texts_ev a a rfl hb rfl a.length 0 (by omega) (by omega)
  exact ⟨K, by unfold lemmalaw13_texts.f; rw [if_pos rfl]; exact h K (Nat.le_refl _)⟩
theorem ints_ev (a b : List Int) (hl : a.length = b.length) (hb : a.length ≤ 9007199254740991) : ∀ (d j : Nat), j ≤ a.length → a.length - j = d → EvS (fun k => lemmalaw13_ints.l0 k a b j) (decide (a.drop j = b.drop j)) := by
  intro d
  induction d with
  | zero =>
    intro j hj hd
    refine EvS.some fun k => ?_
    conv => lhs; unfold lemmalaw13_ints.l0
    rw [if_neg (by omega), List.drop_eq_nil_of_le (by omega), List.drop_eq_nil_of_le (by omega)]
    simp
  | succ d ih =>
    intro j hj hd
    have hlt : j < a.length := by omega
    have ea : a.drop j = a[j] :: a.drop (j + 1) := List.drop_eq_getElem_cons hlt
    have eb : b.drop j = b[j]'(by omega) :: b.drop (j + 1) := List.drop_eq_getElem_cons (by omega)
    by_cases e : a[j] = b[j]'(by omega)
    · have h := ih (j + 1) (by omega) (by omega)
      refine EvS.step (h := fun k => lemmalaw13_ints.l0 k a b ((j + 1 : Nat) : Int)) ?_ fun k => ?_
      · rw [show decide (a.drop j = b.drop j) = decide (a.drop (j + 1) = b.drop (j + 1)) from decide_eq_decide.2 (by rw [ea, eb, List.cons.injEq]; exact ⟨fun h => h.2, fun h => ⟨e, h⟩⟩)]
        exact h
      · conv => lhs; unfold lemmalaw13_ints.l0
        rw [if_pos (by omega), if_pos (by omega), if_pos (by omega), rd_at a hlt, rd_at b (by omega), if_pos e, wrap_in (by omega) (by omega)]
        rfl
    · refine EvS.some fun k => ?_
      conv => lhs; unfold lemmalaw13_ints.l0
      rw [if_pos (by omega), if_pos (by omega), if_pos (by omega), rd_at a hlt, rd_at b (by omega), if_neg e, decide_eq_false (by rw [ea, eb, List.cons.injEq]; exact fun h => e h.1)]
theorem ints_evs (a b : List Int) (hb : a.length ≤ 9007199254740991) : EvS (fun k => lemmalaw13_ints.f k a b) (decide (a = b)) := by
  by_cases hl : a.length = b.length
  · obtain ⟨K, h⟩ := ints_ev a b hl hb a.length 0 (by omega) (by omega)
    refine ⟨K, fun k hk => ?_⟩
    have := h k hk
    simp only [List.drop_zero] at this
    show lemmalaw13_ints.f k a b = _
    unfold lemmalaw13_ints.f
    rw [if_pos (by omega)]
    exact this
  · refine ⟨0, fun k _ => ?_⟩
    show lemmalaw13_ints.f k a b = _
    unfold lemmalaw13_ints.f
    rw [if_neg (by omega), decide_eq_false (fun e => hl (by rw [e]))]
theorem ints_f (a b : List Int) (hb : a.length ≤ 9007199254740991) : ∃ k, lemmalaw13_ints.f k a b = some (decide (a = b)) := by
  obtain ⟨K, h⟩ := ints_evs a b hb
  exact ⟨K, h K (Nat.le_refl _)⟩
theorem EvS.bind {α β : Type} {g : Nat → Option α} {r : α} (H : EvS g r) {f : Nat → α → Option β} {q : β} (H2 : EvS (fun k => f k r) q) : EvS (fun k => (g k).bind (f k)) q := by
  obtain ⟨K, hK⟩ := H
  obtain ⟨K2, hK2⟩ := H2
  refine ⟨max K K2, fun k hk => ?_⟩
  show (g k).bind (f k) = _
  rw [hK k (by omega)]
  exact hK2 k (by omega)
theorem nodes_ev (a : List S27) (hb : a.length ≤ 9007199254740991) (hk : ∀ i, (rd_T27 a (i : Nat)).f1.length ≤ 9007199254740991) : ∀ (d j : Nat), j ≤ a.length → a.length - j = d → EvS (fun k => lemmalaw13_nodes.l0 k a a j) true := by
  intro d
  induction d with
  | zero =>
    intro j hj hd
    refine EvS.some fun k => ?_
    conv => lhs; unfold lemmalaw13_nodes.l0
    rw [if_neg (by omega)]
  | succ d ih =>
    intro j hj hd
    have h := ih (j + 1) (by omega) (by omega)
    have h2 := (ints_evs (rd_T27 a j).f1 (rd_T27 a j).f1 (hk j)).bind (f := fun k t141 => if t141 = true then lemmalaw13_nodes.l0 k a a ((j + 1 : Nat) : Int) else Option.some false) (q := true) (by simpa using h)
    refine h2.step fun k => ?_
    conv => lhs; unfold lemmalaw13_nodes.l0
    rw [if_pos (by omega), if_pos (by omega), if_pos (by omega), if_pos rfl, wrap_in (by omega) (by omega)]
    rfl
theorem nodes_f (a : List S27) (hb : a.length ≤ 9007199254740991) (hk : ∀ i, (rd_T27 a (i : Nat)).f1.length ≤ 9007199254740991) : ∃ k, lemmalaw13_nodes.f k a a = some true := by
  obtain ⟨K, h⟩ := nodes_ev a hb hk a.length 0 (by omega) (by omega)
  exact ⟨K, by unfold lemmalaw13_nodes.f; rw [if_pos rfl]; exact h K (Nat.le_refl _)⟩

/-! ### bounded -/
end Go.Proofs.Ytkonloadedbpkaa.SharesP

namespace Go.Proofs.Ytkonloadedbpkaa.SharesQ
open Go.RowKit Go.Maps Go.Proofs.Ytkonloadedbpkaa.Sep Go.Proofs.Ytkonloadedbpkaa.PTreeShares Go.Proofs.Ytkonloadedbpkaa.FoldPure Go.Proofs.Ytkonloadedbpkaa.FoldMem Go.Proofs.Ytkonloadedbpkaa.Gather Go.Proofs.Ytkonloadedbpkaa.NodeMem Go.Proofs.Ytkonloadedbpkaa.RowsOf Go.Proofs.Ytkonloadedbpkaa.NodesIn Go.Proofs.Ytkonloadedbpkaa.KindsP Go.Proofs.Ytkonloadedbpkaa.KindsW Go.Proofs.Ytkonloadedbpkaa.TreeW Go.Proofs.Ytkonloadedbpkaa.KindsS Go.Proofs.Ytkonloadedbpkaa.ShareP Go.Proofs.Ytkonloadedbpkaa.ShareR Go.Proofs.Ytkonloadedbpkaa.ShareL Go.Proofs.Ytkonloadedbpkaa.SameW Go.Proofs.Ytkonloadedbpkaa.TreeP Go.Proofs.Ytkonloadedbpkaa.SharesP
open Go.Proofs.YtkonloadedbpkaaW.PrintWords
set_option linter.unusedVariables false
set_option linter.unusedSimpArgs false

/-- What is true of the lists that the law looks at. -/
structure Small (m : List Nd) : Prop where
  valid : Valid m
  pos : 0 < m.length
  few : m.length ≤ 201
  three : ∀ x ∈ m, x.2.length ≤ 3
  labs : ∀ x ∈ m, x.1.size ≤ maxLen
theorem sum_three : ∀ {m : List Nd}, (∀ x ∈ m, x.2.length ≤ 3) → (m.map (·.2.length)).sum ≤ 3 * m.length
  | [], _ => by simp
  | x :: m, h => by
    have h1 := sum_three (m := m) fun y hy => h y (by simp [hy])
    have h2 := h x (by simp)
    simp only [List.map_cons, List.sum_cons, List.length_cons]
    omega
theorem Small.sum {m : List Nd} (h : Small m) : (m.map (·.2.length)).sum ≤ 4194304 := by
  have := sum_three h.three
  have := h.few
  omega
/-- bounded, called. -/
def toS2 (z : ByteArray × List Int) : S27 := ⟨z.1, z.2⟩
/-- The other three, called. -/
theorem texts_calls {w : World} {A B : Option Addr} {ca cb : Nat} {a : List ByteArray} (hA : Kd.C Kd.string w A a.length a) (ha : a.length ≤ ca) (hB : Kd.C Kd.string w B a.length a) (hb : a.length ≤ cb) (hn : a.length ≤ 9007199254740991) :
    Calls Try.prog 25 #[.slice A a.length ca, .slice B a.length cb] w fun e w' => e = .returned (.bool true) ∧ Drawn0 w w' := by
  obtain ⟨k, hk⟩ := texts_f a hn
  exact lemmalaw13_texts.calls k A ca a B cb a true w hA ha hB hb hk
theorem ints_calls {w : World} {A B : Option Addr} {ca cb : Nat} {a b : List Int} (hA : Kd.C (Kd.int .i64) w A a.length a) (ha : a.length ≤ ca) (hB : Kd.C (Kd.int .i64) w B b.length b) (hb : b.length ≤ cb) (hn : a.length ≤ 9007199254740991) :
    Calls Try.prog 31 #[.slice A a.length ca, .slice B b.length cb] w fun e w' => e = .returned (.bool (decide (a = b))) ∧ Drawn0 w w' := by
  obtain ⟨k, hk⟩ := ints_f a b hn
  exact lemmalaw13_ints.calls k A ca a B cb b _ w hA ha hB hb hk
end Go.Proofs.Ytkonloadedbpkaa.SharesQ

namespace Go.Proofs.Ytkonloadedbpkaa.SharesW
open Go.RowKit Go.Maps Go.Proofs.Ytkonloadedbpkaa.Sep Go.Proofs.Ytkonloadedbpkaa.FMaps Go.Proofs.Ytkonloadedbpkaa.FoldPure Go.Proofs.Ytkonloadedbpkaa.FoldMem Go.Proofs.Ytkonloadedbpkaa.Gather Go.Proofs.Ytkonloadedbpkaa.FoldSame Go.Proofs.Ytkonloadedbpkaa.NodeMem Go.Proofs.Ytkonloadedbpkaa.RowsOf Go.Proofs.Ytkonloadedbpkaa.NodesIn Go.Proofs.Ytkonloadedbpkaa.KindsP Go.Proofs.Ytkonloadedbpkaa.KindsW Go.Proofs.Ytkonloadedbpkaa.TreeW Go.Proofs.Ytkonloadedbpkaa.KindsS Go.Proofs.Ytkonloadedbpkaa.ShareP Go.Proofs.Ytkonloadedbpkaa.ShareR Go.Proofs.Ytkonloadedbpkaa.ShareL Go.Proofs.Ytkonloadedbpkaa.SameW Go.Proofs.Ytkonloadedbpkaa.TreeP Go.Proofs.Ytkonloadedbpkaa.LabX Go.Proofs.Ytkonloadedbpkaa.Lits Go.Proofs.Ytkonloadedbpkaa.SharesP Go.Proofs.Ytkonloadedbpkaa.SharesQ
open Go.Proofs.YtkonloadedbpkaaW.PrintWords Go.Proofs.YtkonloadedbpkaaW.PrintLast Go.Proofs.YtkonloadedbpkaaW.PrintMore
set_option linter.unusedVariables false
set_option linter.unusedSimpArgs false
set_option maxRecDepth 100000
attribute [local go_sem] max2_int min2_int max_two min_two

theorem read_both {W w : World} {C D : World → Prop} {rs : List Res} (h : Sep W w (readR W C :: readR W D :: rs)) : Sep W w (readR W (fun w' => C w' ∧ D w') :: rs) :=
  h.join fun f g hf hg w' h1 h2 => ⟨hf w' h1 fun k hk hl => h2 k (.inl hk) hl, hg w' h1 fun k hk hl => h2 k (.inr hk) hl⟩
/-- What is marked: the last, the kids of those behind, and the first so many kids of the one at hand. -/
def Marks (s : List Nd) (i k : Nat) (xs : List Nat) : Prop := xs[s.length - 1]? = some 1 ∧ (∀ p x, i ≤ p → s[p]? = some x → ∀ j ∈ x.2, xs[j]? = some 1) ∧ (0 < i → ∀ x, s[i - 1]? = some x → ∀ j ∈ x.2.take k, xs[j]? = some 1)
theorem marked {s : List Nd} {i : Nat} {xs : List Nat} (hv : Valid s) (hr : AllLed s) (h : Marks s (i + 1) 0 xs) (hi : i < s.length) (hx : xs.length = s.length) : xs[i]? = some 1 := by
  by_cases e : i + 1 = s.length
  · have := h.1
    rw [show s.length - 1 = i by omega] at this
    exact this
  · obtain ⟨r, hr2, hj⟩ := hr i (by omega)
    have hlt := hv r s[r] (List.getElem?_eq_getElem hr2) i hj
    exact h.2.1 r s[r] (by omega) (List.getElem?_eq_getElem hr2) i hj
theorem ints_inj {a b : List Nat} (h : ints a = ints b) : a = b := (List.map_inj_right (fun x y e => by omega)).1 h
theorem toList_inj {s t : ByteArray} (h : s.toList = t.toList) : s = t := by
  rw [ByteArray.toList_eq, ByteArray.toList_eq] at h
  exact ByteArray.ext (Array.toList_inj.1 h)
end Go.Proofs.Ytkonloadedbpkaa.SharesW
