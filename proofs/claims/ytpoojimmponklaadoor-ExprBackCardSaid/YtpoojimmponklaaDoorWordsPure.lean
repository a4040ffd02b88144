/- The document's numerals are Itoa's; what Print writes. -/
import Derived.Test.YtpoojimmponklaaDoorWordsNum
import Derived.Test.YtpoojimmponklaaDoorTabAll
import Derived.Lib.ItoaMem
import Derived.Lib.ItoaLen
import Derived.Lib.Join
namespace Go.Proofs.YtpoojimmponklaaDoor.WordsPure
open Go.RowKit Go.Proofs.YtpoojimmponklaaDoorW.PrintWords Go.Proofs.YtpoojimmponklaaDoor.PExprWords Go.Proofs.YtpoojimmponklaaDoor.SymTab
set_option linter.unusedVariables false
def bytesOf (l : List UInt8) : ByteArray := ⟨l.toArray⟩
theorem bytes_append (a b : List UInt8) : bytesOf a ++ bytesOf b = bytesOf (a ++ b) := by
  apply ByteArray.ext
  simp [bytesOf]
theorem bytes_size (a : List UInt8) : (bytesOf a).size = a.length := by simp [bytesOf, ByteArray.size]
theorem bytes_list (s : ByteArray) : bytesOf s.data.toList = s := by
  apply ByteArray.ext
  simp [bytesOf]
def digs (u : Nat) : List UInt8 := if u = 0 then [] else Lib.decDigits u
theorem digs_step (u : Nat) : Lib.decDigits u = digs (u / 10) ++ [UInt8.ofNat (48 + u % 10)] := by
  unfold digs
  by_cases h : u < 10
  · rw [Lib.decDigits, dif_pos h, if_pos (by omega)]
    simp [Nat.mod_eq_of_lt h]
  · rw [if_neg (by omega), Lib.decDigits, dif_neg h]
theorem tmod_neg (u : Nat) : Int.tmod (-(u : Int)) 10 = -((u % 10 : Nat) : Int) := by
  rw [Int.neg_tmod]
  rfl
theorem tdiv_neg (u : Nat) : Int.tdiv (-(u : Int)) 10 = -((u / 10 : Nat) : Int) := by
  rw [Int.neg_tdiv]
  rfl
theorem one_digit (u : Nat) : strOfNums [(wrap64 (48 - (Int.tmod (-(u : Int)) 10))) % 256] = bytesOf [UInt8.ofNat (48 + u % 10)] := by
  rw [tmod_neg]
  have e : (wrap64 (48 - -((u % 10 : Nat) : Int))) % 256 = ((48 + u % 10 : Nat) : Int) := by unfold wrap64; omega
  rw [e]
  unfold strOfNums bytesOf
  simp only [List.map_cons, List.map_nil, Int.toNat_natCast]
theorem digs_l0 (d : Nat) : ∀ (k u : Nat) (t : List UInt8), u < 10 ^ d → d < k → u ≤ 9223372036854775808 → t.length + d ≤ 1000 → lemmaref03_digits.l0 k (-(u : Int)) (bytesOf t) = some (bytesOf (digs u ++ t)) := by
  induction d with
  | zero =>
    intro k u t hu hk _ _
    obtain ⟨k, rfl⟩ : ∃ k', k = k' + 1 := ⟨k - 1, by omega⟩
    have : u = 0 := by simpa using hu
    subst this
    simp only [lemmaref03_digits.l0]
    rw [if_pos (by omega)]
    simp [digs]
  | succ d ih =>
    intro k u t hu hk hu2 ht
    obtain ⟨k, rfl⟩ : ∃ k', k = k' + 1 := ⟨k - 1, by omega⟩
    simp only [lemmaref03_digits.l0]
    by_cases h0 : u = 0
    · subst h0
      rw [if_pos (by omega)]
      simp [digs]
    · rw [if_neg (by omega)]
      simp only [Option.bind_some]
      rw [one_digit, bytes_size, bytes_size, if_pos (by simp; omega), bytes_append, tdiv_neg]
      have e : wrap64 (-((u / 10 : Nat) : Int)) = -((u / 10 : Nat) : Int) := by unfold wrap64; omega
      rw [e, ih k (u / 10) _ (by rw [Nat.pow_succ] at hu; omega) (by omega) (by omega) (by simp; omega)]
      congr 2
      have : digs u = Lib.decDigits u := by unfold digs; rw [if_neg h0]
      rw [this, digs_step]
      simp
theorem digits_f (u : Nat) (hu : u ≤ 9223372036854775808) : lemmaref03_digits.f 21 (-(u : Int)) = some (bytesOf (Lib.decDigits u)) := by
  unfold lemmaref03_digits.f
  rw [one_digit, tdiv_neg]
  have e : wrap64 (-((u / 10 : Nat) : Int)) = -((u / 10 : Nat) : Int) := by unfold wrap64; omega
  rw [e, digs_l0 20 21 (u / 10) _ (by omega) (by omega) (by omega) (by simp), ← digs_step]
theorem digits_len (u : Nat) (hu : u ≤ 9223372036854775808) : (Lib.decDigits u).length ≤ 100 := by
  rw [Lib.decDigits_length]
  have := Lib.nDigits_le20 u (by omega)
  omega
theorem decimal_f (n : Int) (h0 : -9223372036854775808 ≤ n) (h1 : n ≤ 9223372036854775807) : lemmaref03_Decimal.f 21 n = some (bytesOf (Lib.itoa n)) := by
  unfold lemmaref03_Decimal.f Lib.itoa
  by_cases h : n < 0
  · rw [if_pos h, if_pos h]
    have e : n = -((n.natAbs : Nat) : Int) := by omega
    have hd := digits_f n.natAbs (by omega)
    rw [← e] at hd
    have hl := digits_len n.natAbs (by omega)
    rw [hd]
    simp only [Option.bind_some]
    rw [if_pos (by rw [bytes_size]; omega)]
    congr 1
  · rw [if_neg h, if_neg h]
    have e : wrap64 (-n) = -((n.toNat : Nat) : Int) := by unfold wrap64; omega
    rw [e, digits_f n.toNat (by omega)]
    rfl

/-! ### what Print writes -/
def wordOf (T : Tab) (n : Int) : List UInt8 := if nameT T n = ByteArray.empty then 36 :: Lib.itoa n else (nameT T n).data.toList
def blank : List UInt8 := [32]
def textTo (T : Tab) (e : List Int) : List UInt8 := Lib.join (e.map (wordOf T)) blank
theorem join_snoc (xs : List (List UInt8)) (y sep : List UInt8) : Lib.join (xs ++ [y]) sep = if xs = [] then y else Lib.join xs sep ++ sep ++ y := by
  cases xs with
  | nil => simp [Lib.join_one]
  | cons x r =>
    rw [if_neg (by simp), List.cons_append, Lib.join_cons, Lib.join_cons]
    simp [Lib.joinTail, List.append_assoc]
theorem text_succ (T : Tab) (e : List Int) {k : Nat} (h : k < e.length) : textTo T (e.take (k + 1)) = if k = 0 then wordOf T e[k] else textTo T (e.take k) ++ blank ++ wordOf T e[k] := by
  unfold textTo
  rw [List.take_succ_eq_append_getElem h, List.map_append, List.map_cons, List.map_nil, join_snoc]
  by_cases h0 : k = 0
  · subst h0
    simp
  · rw [if_neg h0, if_neg (by
      intro hx
      have := congrArg List.length hx
      rw [List.length_map, List.length_take, List.length_nil] at this
      omega)]
theorem name_small {T : Tab} (hw : WF T) (n : Int) : (nameT T n).size ≤ 32 := by
  unfold nameT
  split
  · rename_i h
    unfold there at h
    simp only [Bool.and_eq_true, decide_eq_true_eq] at h
    have hlt : n.toNat < T.syms.length := by omega
    have hm := hw.ok T.syms[n.toNat] (List.getElem_mem hlt)
    unfold nameOf
    rw [List.getD_eq_getElem?_getD, List.getElem?_eq_getElem hlt]
    unfold symOk at hm
    simp only [Bool.and_eq_true, decide_eq_true_eq] at hm
    exact hm.2
  · simp
theorem itoa_small (n : Int) (h0 : -9223372036854775808 ≤ n) (h1 : n ≤ 9223372036854775807) : (Lib.itoa n).length ≤ 21 := Lib.itoa_length_le n h0 h1
def Fits (e : List Int) : Prop := ∀ n ∈ e, -9223372036854775808 ≤ n ∧ n ≤ 9223372036854775807
theorem word_small {T : Tab} (hw : WF T) {n : Int} (h0 : -9223372036854775808 ≤ n) (h1 : n ≤ 9223372036854775807) : (wordOf T n).length ≤ 40 := by
  unfold wordOf
  split
  · have := itoa_small n h0 h1
    simp
    omega
  · have := name_small hw n
    have e : (nameT T n).data.toList.length = (nameT T n).size := Array.length_toList
    omega
theorem text_small {T : Tab} (hw : WF T) {e : List Int} (he : Fits e) : ∀ k, k ≤ e.length → (textTo T (e.take k)).length ≤ 41 * k := by
  intro k
  induction k with
  | zero => intro _; simp [textTo, Lib.join, List.intercalate]
  | succ k ih =>
    intro hk
    have h1 := he e[k] (List.getElem_mem (by omega))
    have h2 := word_small hw h1.1 h1.2
    have := ih (by omega)
    rw [text_succ T e (by omega)]
    split
    · omega
    · simp only [List.length_append]
      have : blank.length = 1 := rfl
      omega
end Go.Proofs.YtpoojimmponklaaDoor.WordsPure
