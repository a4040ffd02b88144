/- The program's Print. -/
import Derived.Test.YtpoojimmponklaaDoorWordsAll
import Derived.Test.YtpoojimmponklaaDoorWordsLib
namespace Go.Proofs.YtpoojimmponklaaDoor.WordsOut
open Go.Proofs.YtpoojimmponklaaDoor.SymHeap hiding num
open Go.RowKit Go.Maps Go.Proofs.YtpoojimmponklaaDoor.SymTab Go.Proofs.YtpoojimmponklaaDoor.SymReads Go.Proofs.YtpoojimmponklaaDoor.SymApi Go.Proofs.YtpoojimmponklaaDoor.KeepsFuns Go.Proofs.YtpoojimmponklaaDoor.KeepsLast Go.Proofs.YtpoojimmponklaaDoor.WordsPrint
open Go.Proofs.YtpoojimmponklaaDoor.WordsPure (wordOf textTo Fits word_small text_small bytes_size bytes_append bytes_list itoa_small)
open Go.Proofs.YtpoojimmponklaaDoorW.PrintWords
open Go.Proofs.YtpoojimmponklaaDoorW.PrintLast
open Go.Proofs.YtpoojimmponklaaDoor.KeepsLib (num)
set_option linter.unusedVariables false
set_option linter.unusedSimpArgs false

abbrev Pows (w : World) : Prop := Lib.TabIs Tryd.prog w "internal/strconv.uint64pow10" .u64 Lib.pow10Tab
theorem Pows.below {w w' : World} (h : Pows w) (hb : Below w.heap.size w w') : Pows w' := by
  unfold Pows Lib.TabIs World.var? at *
  cases hg : Tryd.prog.globalNamed "internal/strconv.uint64pow10" with
  | none => simp [hg] at h
  | some g =>
    simp only [hg, Option.bind_some] at h ⊢
    have hlt : g < w.heap.size := by
      rcases Nat.lt_or_ge g w.heap.size with h' | h'
      · exact h'
      · rw [Array.getElem?_eq_none h'] at h; simp at h
    rw [hb.block g hlt]
    exact h
theorem grow_below (w : World) (k : Nat) (os : Array Obj) : Below w.heap.size w (Go.Sort.grow (w.drewN k) os) :=
  ⟨rfl, rfl, rfl, by show w.heap.size ≤ (w.heap ++ os).size; simp, fun i hi => by
    show (w.heap ++ os)[i]? = w.heap[i]?
    rw [Array.getElem?_append_left hi]⟩
/-- The words of a text, as they lie in a list. -/
def wordsOf (T : Tab) (e : List Int) : List ByteArray := e.map fun n => WordsPure.bytesOf (wordOf T n)
theorem words_text (T : Tab) (e : List Int) : Lib.join ((wordsOf T e).map (·.data.toList)) WordsPure.blank = textTo T e := by
  unfold wordsOf textTo
  rw [List.map_map]
  rfl
theorem words_succ (T : Tab) (e : List Int) {k : Nat} (h : k < e.length) : wordsOf T (e.take (k + 1)) = wordsOf T (e.take k) ++ [WordsPure.bytesOf (wordOf T e[k])] := by
  unfold wordsOf
  rw [List.take_succ_eq_append_getElem h, List.map_append]
  rfl
set_option maxHeartbeats 8000000 in
set_option maxRecDepth 100000 in
theorem print_calls {w : World} {p g : Nat} {T : Tab} {fp : Nat → Prop} (h : TabIs w p g T fp) (hfp : ∀ k, fp k → k < w.heap.size) (hpow : Pows w) (A : Option Addr) (c : Nat) (e : List Int) (hC : CI w A e) (hl : e.length ≤ 1048576) (hf : Fits e) :
    Calls Tryd.prog 56 #[.pointer (some ⟨p, 0, none⟩), .slice A e.length c] w fun ed w' => ed = .returned (.string (WordsPure.bytesOf (textTo T e))) ∧ Below w.heap.size w w' := by
  have HT := Aside0.mk h
  have HP := Aside0.mk hpow
  have HC := Aside0.mk hC
  have HF := Aside0.mk hf
  have HW := Aside0.mk h.1
  clear h hC hf hpow
  obtain ⟨i9, hi9, hz0, hz1, hz2⟩ := info_parts SymNew.info9
  have Hi9 := Aside0.mk hi9
  have Hz09 := Aside0.mk hz0
  have Hz19 := Aside0.mk hz1
  have Hz29 := Aside0.mk hz2
  clear hi9 hz0 hz1 hz2
  go_enter Tryd.func56, Tryd.ntmps56
  go_wp2_with (at_make; refine wpList_make_own _ rfl _ _ 38 rfl w.heap.size 9 i9 (.string .empty) 1 Tryd.underlying38 Hi9.out Hz09.out Hz19.out .i64 .i64 (e.length : Int) e.length rfl rfl rfl (by rw [Hz29.out]; omega) (by unfold maxLen; omega) (Nat.le_refl _) ?_; intro w2 ho2 hg2; have HO2 := Aside0.mk ho2; have HB2 := Aside0.mk ((Below.refl _ w).grown hg2 (Nat.le_refl _) (fun _ hk => by cases hk)); clear ho2 hg2)
  go_loopw [5, 14] (fun v5 v14 wr => ∃ (k : Nat), k ≤ e.length ∧ v14 = .int .i64 k ∧ Aside0 (wr.ownsRow w.heap.size 9 1 v5 k ((wordsOf T (e.take k)).map Value.string)) ∧ Aside0 (Below w.heap.size w wr)) (fun _ v14 _ => e.length - (intOf v14).toNat)
  case atStart => exact ⟨0, by omega, rfl, HO2, HB2⟩
  case round =>
    clear HO2 HB2
    obtain ⟨k, hk, rfl, HO, HB⟩ := hrel
    by_cases hlt : k < e.length
    · obtain ⟨ad, rfl, hx⟩ := Kd.at_int (Kd.C_below HC.out HB.out) (k : Int) (by omega) (by omega)
      rw [rd_of hlt, Int.toNat_natCast] at hx
      have hfx := HF.out e[k] (List.getElem_mem hlt)
      have hsucc := words_succ T e hlt
      have hws := word_small HW.out hfx.1 hfx.2
      generalize e[k] = x at hx hfx hsucc hws
      have Hs := Aside0.mk hsucc
      clear hsucc
      have HN := Aside0.mk (SymReads.name_calls (HT.out.move (fun j hj => HB.out.block j (hfp j hj))) x)
      obtain ⟨m, hm⟩ : ∃ m, m = nameT T x := ⟨_, rfl⟩
      have hword : m.toList.isEmpty = true ∧ wordOf T x = 36 :: Lib.itoa x ∨ m.toList.isEmpty = false ∧ WordsPure.bytesOf (wordOf T x) = m := by
        by_cases he : nameT T x = ByteArray.empty
        · left
          rw [hm, he]
          exact ⟨by rw [isEmpty_eq]; rfl, by unfold wordOf; rw [if_pos he]⟩
        · right
          rw [hm]
          exact ⟨by rw [isEmpty_eq]; simpa using he, by unfold wordOf; rw [if_neg he]; exact bytes_list _⟩
      rw [← hm] at HN
      clear hm
      generalize wordOf T x = wd at hws Hs hword
      obtain ⟨A5, c5, e5, _⟩ := row_slice HO.out
      subst e5
      rcases hword with ⟨h1, h2⟩ | ⟨h1, h2⟩
      · have it := itoa_small x hfx.1 hfx.2
        have join3 : (⟨#[36]⟩ : ByteArray) ++ ⟨(Lib.itoa x).toArray⟩ = WordsPure.bytesOf wd := by rw [h2]; exact bytes_append [36] (Lib.itoa x)
        have z3 : ¬ 9223372036854775807 < 1 + (⟨(Lib.itoa x).toArray⟩ : ByteArray).size := by rw [show (⟨(Lib.itoa x).toArray⟩ : ByteArray).size = (Lib.itoa x).length from bytes_size _]; omega
        have HI := Aside0.mk (WordsLib.itoa_calls x hfx.1 hfx.2 wr (HP.out.below HB.out))
        clear it h2
        go_wp2_with fail
        refine HN.out.mono ?_
        rintro ed w2 ⟨rfl, rfl⟩
        clear HN
        go_wp2_with fail
        refine HI.out.mono ?_
        rintro ed w3 ⟨rfl, kq, os, hw3⟩
        have hbl := grow_below w2 kq os
        rw [← hw3] at hbl
        have HB3 := Aside0.mk (below_step HB.out hbl)
        have HO3 := Aside0.mk (own_move HO.out (fun j hj => hbl.block j (HO.out.lt j hj).2))
        clear hbl hw3 HI HB HO
        have hlt5 := HB3.out.size
        go_wp2_with (at_builtin; refine wpList_append_own_at _ rfl (.tmp 26) (.tmp 28) 38 rfl w.heap.size 9 i9 (.string .empty) 1 16 Tryd.underlying38 Hi9.out Hz09.out Hz19.out Hz29.out rfl (by decide) _ k ((wordsOf T (e.take k)).map Value.string) rfl (HO3.out.alloc _) ⟨w3.heap.size, 0, none⟩ 1 1 [.string (WordsPure.bytesOf wd)] rfl rfl (cell_one_new _ _ _) ?c2 (by unfold maxLen; omega) (by omega) ?c3 ?_)
        case c2 => intro u hu; simp at hu; subst hu; rfl
        case c3 => simp; omega
        intro v7 w7 hown7 hgrow7 hnil7 hat7
        have HO7 := Aside0.mk hown7
        have HB7 := Aside0.mk ((HB3.out.alloc HB3.out.size (.cells #[.string (WordsPure.bytesOf wd)] 9)).grown hgrow7 (by simp; omega) (fun b hb => (HO3.out.lt b hb).1))
        clear hown7 hgrow7 hnil7 hat7 HO3 HB3
        go_wp2_with fail
        go_roundw
        case rel => exact ⟨k + 1, by omega, by go_num, by rw [Hs.out, List.map_append]; exact HO7, HB7⟩
        case measure => simp [intOf]; omega
      · have HB3 := HB
        have HO3 := HO
        rw [h2] at Hs
        go_wp2_with fail
        refine HN.out.mono ?_
        rintro ed w3 ⟨rfl, rfl⟩
        clear HN HB HO
        have hlt5 := HB3.out.size
        go_wp2_with (at_builtin; refine wpList_append_own_at _ rfl (.tmp 26) (.tmp 28) 38 rfl w.heap.size 9 i9 (.string .empty) 1 16 Tryd.underlying38 Hi9.out Hz09.out Hz19.out Hz29.out rfl (by decide) _ k ((wordsOf T (e.take k)).map Value.string) rfl (HO3.out.alloc _) ⟨w3.heap.size, 0, none⟩ 1 1 [.string m] rfl rfl (cell_one_new _ _ _) ?c2 (by unfold maxLen; omega) (by omega) ?c3 ?_)
        case c2 => intro u hu; simp at hu; subst hu; rfl
        case c3 => simp; omega
        intro v7 w7 hown7 hgrow7 hnil7 hat7
        have HO7 := Aside0.mk hown7
        have HB7 := Aside0.mk ((HB3.out.alloc HB3.out.size (.cells #[.string m] 9)).grown hgrow7 (by simp; omega) (fun b hb => (HO3.out.lt b hb).1))
        clear hown7 hgrow7 hnil7 hat7 HO3 HB3
        go_wp2_with fail
        go_roundw
        case rel => exact ⟨k + 1, by omega, by go_num, by rw [Hs.out, List.map_append]; exact HO7, HB7⟩
        case measure => simp [intOf]; omega
    · have hi' : k = e.length := by omega
      subst hi'
      have hsm := text_small HW.out HF.out e.length (Nat.le_refl _)
      rw [List.take_length] at hsm
      have hO := HO.out
      rw [List.take_length] at hO
      have hJ : Calls Tryd.prog 75 #[u5, .string ⟨#[32]⟩] wr fun ed w' => ed = .returned (.string (WordsPure.bytesOf (textTo T e))) ∧ Below wr.heap.size wr w' := by
        by_cases h0 : 0 < e.length
        · obtain ⟨b, cap, eb, hcap, hcell, _, _⟩ := row_some hO h0
          subst eb
          have hlen : (wordsOf T e).length = e.length := by simp [wordsOf]
          have := WordsLib.join_calls b 0 cap (wordsOf T e) ⟨#[32]⟩ wr (fun j x hj => by rw [Nat.zero_add]; exact hcell j _ (by simp [hj])) (hO.lt b rfl).2 (by omega) (by omega) (by rw [show (⟨#[32]⟩ : ByteArray).data.toList = WordsPure.blank from rfl, words_text]; omega)
          rw [show (⟨#[32]⟩ : ByteArray).data.toList = WordsPure.blank from rfl, words_text, hlen] at this
          exact this
        · obtain ⟨A5, c5, e5, _⟩ := row_slice hO
          subst e5
          have he : e = [] := List.eq_nil_of_length_eq_zero (by omega)
          subst he
          exact (WordsLib.join_none A5 c5 ⟨#[32]⟩ wr).mono fun ed w' ⟨h1, h2⟩ => ⟨h1, by rw [h2]; exact Below.refl _ _⟩
      have HJ := Aside0.mk hJ
      clear hJ hO hsm
      go_wp2_with fail
      refine HJ.out.mono ?_
      rintro ed w2 ⟨rfl, hb2⟩
      have HB2 := Aside0.mk (below_step HB.out hb2)
      clear hb2 HJ
      go_wp2_with fail
      go_ret
      exact ⟨rfl, HB2.out⟩
end Go.Proofs.YtpoojimmponklaaDoor.WordsOut
