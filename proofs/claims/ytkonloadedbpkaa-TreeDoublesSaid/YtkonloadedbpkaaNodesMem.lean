/- Nodes: what it reads and what it is told, in memory. -/
import Derived.Test.YtkonloadedbpkaaNodesPure
import Derived.Test.YtkonloadedbpkaaNameW
import Derived.Test.YtkonloadedbpkaaWriteW
namespace Go.Proofs.Ytkonloadedbpkaa.NodesMem
open Go.RowKit Go.Maps Go.Proofs.Ytkonloadedbpkaa.Sep Go.Proofs.Ytkonloadedbpkaa.FMaps Go.Proofs.Ytkonloadedbpkaa.FoldPure Go.Proofs.Ytkonloadedbpkaa.FoldMem Go.Proofs.Ytkonloadedbpkaa.FoldRun Go.Proofs.Ytkonloadedbpkaa.Reached Go.Proofs.Ytkonloadedbpkaa.NodesPure Go.Proofs.Ytkonloadedbpkaa.NameW Go.Proofs.Ytkonloadedbpkaa.WriteW
open Go.Proofs.Ytkonloadedbpkaa.PFoldDoubles
open Go.Proofs.YtkonloadedbpkaaW.PrintWords
set_option linter.unusedVariables false

theorem nodes_27 {w : World} {A : Option Addr} {l : List Nd} (h : NodesC A l w) : Kd.C k27 w A (l.map toS).length (l.map toS) := by
  rw [List.length_map]
  obtain ⟨h1, h2, h3⟩ := h
  refine ⟨by simp, h2, fun hn => ?_⟩
  obtain ⟨ad, e, hc⟩ := h3 hn
  refine ⟨ad, e, fun j p hp => ?_⟩
  rw [List.getElem?_map] at hp
  obtain ⟨x, hx, rfl⟩ := Option.map_eq_some_iff.1 hp
  exact hc j (toP x) (by rw [List.getElem?_map, hx]; rfl)
theorem reps_bool (P : Bool → List Value → Prop) (hP : ∀ b cs, P b cs → cs = [.bool b]) : ∀ (xs : List Bool) (cs : List Value), Reps P 1 xs cs → cs = xs.map Value.bool := by
  intro xs cs h
  apply List.ext_getElem?
  intro j
  rw [List.getElem?_map]
  have hl : cs.length = xs.length := by have := h.1; omega
  cases hx : xs[j]? with
  | none =>
    have := List.getElem?_eq_none_iff.1 hx
    exact List.getElem?_eq_none (by omega)
  | some b =>
    have h2 := hP _ _ (h.2 j b hx)
    have hj := (List.getElem?_eq_some_iff.1 hx).1
    rw [Nat.mul_one] at h2
    have h3 : cs[j]? = some (.bool b) := by
      have := congrArg (·[0]?) h2
      simp only [List.getElem?_take, List.getElem?_drop] at this
      simpa using this
    rw [h3]
    rfl
/-- What is told, a list of truths of one's own. -/
theorem on_row {W w w' : World} {rs : List Res} (M : Sep W w rs) {v : Value} {xs : List Bool} (h : Kd.R Kd.bool 4 w' w.heap.size (fun _ => True) v xs) (hb : Below w.heap.size w w') : Sep W w' (rowR 4 1 v xs.length (xs.map Value.bool) :: rs) := by
  obtain ⟨_, inner, ho, hr⟩ := h
  have e := reps_bool _ (fun b cs h => h) xs inner hr
  subst e
  exact M.fresh (f := fun k => w.heap.size ≤ k) ⟨hb.os, hb.tape, hb.output, hb.size, fun k hk _ => hb.block k hk⟩ ⟨owns_zero ho, fun k hk => own_base ho k hk⟩ (fun _ hk => hk)
/-- reached, called with valid nodes. -/
theorem reached_calls {W w : World} {rs : List Res} {A : Option Addr} {c : Nat} {l : List Nd} (M : Sep W w rs) (hN : NodesC A l w) (h0 : 0 < l.length) (hl : l.length ≤ 4194304) (hv : Valid l) (he : (l.map (·.2.length)).sum ≤ 4194304) (hc : l.length ≤ c) :
    Calls Try.prog 35 #[.slice A l.length c] w fun e w' => ∃ v0, e = .returned (.tuple #[v0, .bool true]) ∧ Sep W w' (rowR 4 1 v0 l.length ((onT l).map Value.bool) :: rs) := by
  obtain ⟨k, hk⟩ := reached_f l h0 hl hv he
  have h := fold_reached.calls k A c (l.map toS) (onT l) true w (nodes_27 hN) (by simpa using hc) hk
  rw [List.length_map] at h
  refine h.mono ?_
  rintro e w' ⟨v0, rfl, hr, hb⟩
  refine ⟨v0, rfl, ?_⟩
  have := on_row M hr hb
  rw [on_len] at this
  exact this

/-! ### the mandatory hypotheses -/
/-- The labels of hypotheses (four cells each). -/
def MandC (A : Option Addr) (ms : List ByteArray) (w : World) : Prop := ∀ i (hi : i < ms.length), ∃ (ad : Addr) (b : Bool) (n : Int) (Ae : Option Addr) (k c : Nat), A = some ad ∧
  w.cell? (ad.add (i * 4)) = some (.string ms[i]) ∧ w.cell? ⟨(ad.add (i * 4)).block, (ad.add (i * 4)).off + 1, none⟩ = some (.bool b) ∧ w.cell? ⟨(ad.add (i * 4)).block, (ad.add (i * 4)).off + 2, none⟩ = some (.int .i64 n) ∧ w.cell? ⟨(ad.add (i * 4)).block, (ad.add (i * 4)).off + 3, none⟩ = some (.slice Ae k c)
theorem mand_nil (A : Option Addr) (w : World) : MandC A [] w := fun i hi => absurd hi (Nat.not_lt_zero _)
theorem build62 (b n : Nat) (w : World) : (Instr.build 62 #[(1, .map (some b)), (3, .int .i64 (n : Int))]).run Try.prog w = .ok (.agg #[.slice none 0 0, .map (some b), .slice none 0 0, .int .i64 (n : Int), .int .i64 0, .slice none 0 0]) w := by kernel_rfl

/-! ### orders -/
theorem pull7 {W w : World} {a b c d e f g x : Res} {rs : List Res} (h : Sep W w (a :: b :: c :: d :: e :: f :: g :: x :: rs)) : Sep W w (x :: a :: b :: c :: d :: e :: f :: g :: rs) := h.pull 7 (by simp)
theorem to_gather {W w : World} {a b c d e f : Res} {rs : List Res} (h : Sep W w (a :: b :: c :: d :: e :: f :: rs)) : Sep W w (e :: c :: a :: b :: d :: f :: rs) := by
  have h1 : Sep W w (c :: a :: b :: d :: e :: f :: rs) := h.pull 2 (by simp)
  exact h1.pull 4 (by simp)
theorem to_name {W w : World} {s n o p r k m q d : Res} {rs : List Res} (h : Sep W w (s :: n :: o :: p :: r :: k :: m :: q :: d :: rs)) : Sep W w (p :: r :: k :: m :: rowR 9 1 (.slice none 0 0) 0 [] :: s :: n :: o :: q :: d :: rs) :=
  pull7 (pull7 (pull7 (pull7 (row_nil h 9 1))))
theorem sink5 {W w : World} {a b c d e x : Res} {rs : List Res} (h : Sep W w (x :: a :: b :: c :: d :: e :: rs)) : Sep W w (a :: b :: c :: d :: e :: x :: rs) :=
  h.perm ((List.perm_middle (l₁ := [a, b, c, d, e]) (l₂ := rs)).symm)
theorem withNums_same : ∀ (items : List PartM), (∀ q ∈ items, q.number = -1) → withNums items (List.replicate items.length (-1)) = items := by
  intro items h
  induction items with
  | nil => rfl
  | cons q l ih =>
    have hq := h q (by simp)
    have := ih (fun r hr => h r (by simp [hr]))
    unfold withNums at this ⊢
    simp only [List.length_cons, List.replicate_succ, List.zipWith_cons_cons, this]
    obtain ⟨pt, nm, A, c⟩ := q
    simp only at hq
    subst hq
    rfl
theorem wok_start (n : Nat) : WOk ⟨List.replicate n (-1), 0, []⟩ := ⟨by simp, fun x hx => by
  have := List.eq_of_mem_replicate hx
  subst this
  simp⟩
theorem names_of {ms : List ByteArray} {l : List Nd} {items : List PartM} (h : partsOf items = partsL l) : namesL ms l = nameT (partsOf items) ms.length (rootN l + 1) (rootN l) ⟨List.replicate items.length false, ix ms, []⟩ := by
  unfold namesL names0
  rw [← h]
  simp [partsOf]
theorem codes_of {ms : List ByteArray} {l : List Nd} {items : List PartM} (h : partsOf items = partsL l) : codesL ms l = writeT (partsOf items) (atN (namesL ms l).at_) (ms.length + (namesL ms l).labels.length) (rootN l + 1) (rootN l) ⟨List.replicate items.length (-1), 0, []⟩ := by
  unfold codesL codes0
  rw [← h]
  simp [partsOf]
  rfl
theorem part_in {l : List Nd} {items : List PartM} (h : partsOf items = partsL l) {i : Nat} {q : PartM} (hq : items[i]? = some q) : (partsL l)[i]? = some q.part := by
  rw [← h]
  simp [partsOf, hq]
theorem part_mem {l : List Nd} {items : List PartM} (h : partsOf items = partsL l) {q : PartM} (hq : q ∈ items) : q.part ∈ partsL l := by
  rw [← h]
  exact List.mem_map_of_mem hq
end Go.Proofs.Ytkonloadedbpkaa.NodesMem
