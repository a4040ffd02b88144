/- What name and write make of parts: plain functions. -/
import Derived.Test.YtkonloadedbpkaaFoldPure
namespace Go.Proofs.Ytkonloadedbpkaa.FoldRun
open Go.Proofs.Ytkonloadedbpkaa.FoldPure
set_option linter.unusedVariables false

def setF {κ : Type} [DecidableEq κ] (f : κ → Option Nat) (s : κ) (n : Nat) : κ → Option Nat := fun t => if t = s then some n else f t
def partOf (P : List Part) (n : Nat) : Part := P.getD n ⟨ByteArray.empty, [], 0⟩

/-! ### name -/
structure NS where
  seen : List Bool
  at_ : ByteArray → Option Nat
  labels : List ByteArray
def nameLabel (first : Nat) (lab : ByteArray) (s : NS) : NS := if (s.at_ lab).isSome then s else { s with at_ := setF s.at_ lab (first + s.labels.length), labels := s.labels ++ [lab] }
def nameT (P : List Part) (first : Nat) : Nat → Nat → NS → NS
  | 0, _, s => s
  | k + 1, n, s => if s.seen.getD n false then s else nameLabel first (partOf P n).label ((partOf P n).kids.foldl (fun s j => nameT P first k j s) { s with seen := s.seen.set n true })
theorem foldl_inv {α β : Type} (I : β → Prop) (f : β → α → β) (hf : ∀ b a, I b → I (f b a)) : ∀ (l : List α) (b : β), I b → I (l.foldl f b)
  | [], b, h => h
  | a :: l, b, h => foldl_inv I f hf l (f b a) (hf b a h)
theorem nameLabel_grows (first : Nat) (lab : ByteArray) (s : NS) : ∃ t, (nameLabel first lab s).labels = s.labels ++ t := by
  unfold nameLabel
  split
  · exact ⟨[], by simp⟩
  · exact ⟨[lab], rfl⟩
theorem nameLabel_seen (first : Nat) (lab : ByteArray) (s : NS) : (nameLabel first lab s).seen = s.seen := by
  unfold nameLabel
  split <;> rfl
theorem nameT_grows (P : List Part) (first : Nat) : ∀ (k n : Nat) (s : NS), ∃ t, (nameT P first k n s).labels = s.labels ++ t := by
  intro k
  induction k with
  | zero => intro n s; exact ⟨[], by simp [nameT]⟩
  | succ k ih =>
    intro n s
    unfold nameT
    split
    · exact ⟨[], by simp⟩
    · have h := foldl_inv (fun s' : NS => ∃ t, s'.labels = s.labels ++ t) (fun s j => nameT P first k j s) (fun b a ⟨t, ht⟩ => by
        obtain ⟨t', ht'⟩ := ih a b
        exact ⟨t ++ t', by rw [ht', ht, List.append_assoc]⟩) (partOf P n).kids { s with seen := s.seen.set n true } ⟨[], by simp⟩
      obtain ⟨t, ht⟩ := h
      obtain ⟨t', ht'⟩ := nameLabel_grows first (partOf P n).label ((partOf P n).kids.foldl (fun s j => nameT P first k j s) { s with seen := s.seen.set n true })
      exact ⟨t ++ t', by rw [ht', ht, List.append_assoc]⟩
theorem foldl_grows (P : List Part) (first k : Nat) (l : List Nat) (s : NS) : ∃ t, (l.foldl (fun s j => nameT P first k j s) s).labels = s.labels ++ t :=
  foldl_inv (fun s' : NS => ∃ t, s'.labels = s.labels ++ t) _ (fun b a ⟨t, ht⟩ => by
    obtain ⟨t', ht'⟩ := nameT_grows P first k a b
    exact ⟨t ++ t', by rw [ht', ht, List.append_assoc]⟩) l s ⟨[], by simp⟩
theorem nameT_len (P : List Part) (first : Nat) : ∀ (k n : Nat) (s : NS), (nameT P first k n s).seen.length = s.seen.length := by
  intro k
  induction k with
  | zero => intro n s; rfl
  | succ k ih =>
    intro n s
    unfold nameT
    split
    · rfl
    · rw [nameLabel_seen]
      have := foldl_inv (fun s' : NS => s'.seen.length = s.seen.length) (fun s j => nameT P first k j s) (fun b a h => by rw [ih, h]) (partOf P n).kids { s with seen := s.seen.set n true } (by simp)
      exact this

/-! ### write -/
structure WS where
  nums : List Int
  saves : Nat
  codes : List Int
def isSaved (q : Part) : Bool := decide (0 < q.kids.length) && decide (1 < q.places)
def writeEnd (at_ : ByteArray → Nat) (q : Part) (n : Nat) (s : WS) : WS :=
  if isSaved q then ⟨s.nums.set n s.saves, s.saves + 1, s.codes ++ [(at_ q.label : Int)] ++ [-1]⟩ else { s with codes := s.codes ++ [(at_ q.label : Int)] }
def writeT (P : List Part) (at_ : ByteArray → Nat) (base : Nat) : Nat → Nat → WS → WS
  | 0, _, s => s
  | k + 1, n, s => if 0 ≤ s.nums.getD n (-1) then { s with codes := s.codes ++ [(base : Int) + s.nums.getD n (-1)] } else
    writeEnd at_ (partOf P n) n ((partOf P n).kids.foldl (fun s j => writeT P at_ base k j s) s)
theorem writeEnd_grows (at_ : ByteArray → Nat) (q : Part) (n : Nat) (s : WS) : ∃ t, (writeEnd at_ q n s).codes = s.codes ++ t := by
  unfold writeEnd
  split
  · exact ⟨[(at_ q.label : Int), -1], by simp⟩
  · exact ⟨[(at_ q.label : Int)], rfl⟩
theorem writeT_grows (P : List Part) (at_ : ByteArray → Nat) (base : Nat) : ∀ (k n : Nat) (s : WS), ∃ t, (writeT P at_ base k n s).codes = s.codes ++ t := by
  intro k
  induction k with
  | zero => intro n s; exact ⟨[], by simp [writeT]⟩
  | succ k ih =>
    intro n s
    unfold writeT
    split
    · exact ⟨_, rfl⟩
    · have h := foldl_inv (fun s' : WS => ∃ t, s'.codes = s.codes ++ t) (fun s j => writeT P at_ base k j s) (fun b a ⟨t, ht⟩ => by
        obtain ⟨t', ht'⟩ := ih a b
        exact ⟨t ++ t', by rw [ht', ht, List.append_assoc]⟩) (partOf P n).kids s ⟨[], by simp⟩
      obtain ⟨t, ht⟩ := h
      obtain ⟨t', ht'⟩ := writeEnd_grows at_ (partOf P n) n ((partOf P n).kids.foldl (fun s j => writeT P at_ base k j s) s)
      exact ⟨t ++ t', by rw [ht', ht, List.append_assoc]⟩
theorem wfoldl_grows (P : List Part) (at_ : ByteArray → Nat) (base k : Nat) (l : List Nat) (s : WS) : ∃ t, (l.foldl (fun s j => writeT P at_ base k j s) s).codes = s.codes ++ t :=
  foldl_inv (fun s' : WS => ∃ t, s'.codes = s.codes ++ t) _ (fun b a ⟨t, ht⟩ => by
    obtain ⟨t', ht'⟩ := writeT_grows P at_ base k a b
    exact ⟨t ++ t', by rw [ht', ht, List.append_assoc]⟩) l s ⟨[], by simp⟩
theorem writeEnd_len (at_ : ByteArray → Nat) (q : Part) (n : Nat) (s : WS) : (writeEnd at_ q n s).nums.length = s.nums.length := by
  unfold writeEnd
  split
  · simp
  · rfl
theorem writeT_len (P : List Part) (at_ : ByteArray → Nat) (base : Nat) : ∀ (k n : Nat) (s : WS), (writeT P at_ base k n s).nums.length = s.nums.length := by
  intro k
  induction k with
  | zero => intro n s; rfl
  | succ k ih =>
    intro n s
    unfold writeT
    split
    · rfl
    · rw [writeEnd_len]
      exact foldl_inv (fun s' : WS => s'.nums.length = s.nums.length) (fun s j => writeT P at_ base k j s) (fun b a h => by rw [ih, h]) (partOf P n).kids s rfl
theorem take_foldl {α β : Type} (f : β → α → β) (l : List α) (b : β) {j : Nat} (h : j < l.length) : (l.take (j + 1)).foldl f b = f ((l.take j).foldl f b) l[j] := by
  rw [List.take_succ_eq_append_getElem h, List.foldl_append]
  rfl
theorem foldl_split {α β : Type} (f : β → α → β) (l : List α) (b : β) (j : Nat) : l.foldl f b = (l.drop j).foldl f ((l.take j).foldl f b) := by
  rw [← List.foldl_append, List.take_append_drop]
end Go.Proofs.Ytkonloadedbpkaa.FoldRun
