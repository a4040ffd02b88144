/- begun: a table with a constant 0 and a variable 1, both active. -/
import Derived.Test.YtpoojimmponklaaDoorApi
namespace Go.Proofs.YtpoojimmponklaaDoor.SymBegun
open Go.RowKit Go.Maps Go.Proofs.YtpoojimmponklaaDoor.SymTab Go.Proofs.YtpoojimmponklaaDoor.SymHeap Go.Proofs.YtpoojimmponklaaDoor.SymReads Go.Proofs.YtpoojimmponklaaDoor.SymScan Go.Proofs.YtpoojimmponklaaDoor.SymApi Go.Proofs.YtpoojimmponklaaDoor.SymNew
open Go.Proofs.YtpoojimmponklaaDoorW.PrintWords (Aside0 Drawn0)
set_option linter.unusedVariables false

def c0 : ByteArray := ⟨#[99, 48]⟩
def v0 : ByteArray := ⟨#[118, 48]⟩
theorem ne_cv : v0 ≠ c0 := by decide
theorem ok_c0 : symOk c0 = true := by decide
theorem ok_v0 : symOk v0 = true := by decide
def T1 : Tab := ⟨[(c0, false)], upd (fun _ => none) c0 0, [], []⟩
def T2 : Tab := ⟨[(c0, false), (v0, true)], upd (upd (fun _ => none) c0 0) v0 1, [], []⟩
theorem const_c0 : constT empty c0 = (T1, 0, 0) := by
  unfold constT
  simp [empty, ok_c0, idx, added, T1]
theorem var_v0 : varT T1 v0 = (T2, 1, 0) := by
  have h1 : idx T1.syms v0 = none := by simp [T1, idx, Ne.symm ne_cv]
  have h2 : T1.act v0 = none := by simp [T1, upd, ne_cv]
  unfold varT
  rw [ok_v0, h1, h2]
  simp [T1, T2, activate, added, addLast]
theorem count_T2 : T2.syms.length = 2 := rfl
theorem act_0 : activeT T2 0 = true := by
  simp [activeT, there, T2, nameOf, upd, Ne.symm ne_cv]
theorem act_1 : activeT T2 1 = true := by
  simp [activeT, there, T2, nameOf, upd]
theorem var_0 : isVarT T2 0 = false := by simp [isVarT, there, T2]
theorem var_1 : isVarT T2 1 = true := by simp [isVarT, there, T2]

theorem blanks_lt {w : World} (h : Blanks w) : 0 < w.heap.size := h.lt
set_option maxHeartbeats 2000000 in
set_option maxRecDepth 100000 in
theorem begun_calls {w : World} (hb : Blanks w) :
    Calls Tryd.prog 13 #[] w fun e w' => ∃ p, e = .returned (.tuple #[.pointer (some ⟨p, 0, none⟩), .bool true]) ∧ TabIs w' p 4 T2 (fun k => w.heap.size ≤ k) ∧ Turns None w w' := by
  have Hb := Lib.hid hb
  clear hb
  have d1 : ((1 : Int) == 1) = true := rfl
  go_enter Tryd.func13, Tryd.ntmps13
  go_wp2_with fail
  refine new_api.mono ?_
  rintro e w1 ⟨p, rfl, h1, t1⟩
  have hb1 := blanks_turns Hb.out t1 (fun h => h)
  have ha := const_api hb1 h1 c0 (by decide) (by unfold maxLen; omega)
  rw [const_c0] at ha
  have Ha := Lib.hid ha
  have HB1 := Lib.hid hb1
  have X1 := Lib.hid t1
  clear ha hb1 h1 t1
  go_wp2_with fail
  refine Ha.out.mono ?_
  rintro e w2 ⟨rfl, h2, t2⟩
  have hp := blanks_lt Hb.out
  have hb2 := blanks_turns HB1.out t2 (by omega)
  have ha2 := var_api hb2 h2 v0 (by decide) (by unfold maxLen; omega)
  rw [var_v0] at ha2
  have Ha2 := Lib.hid ha2
  have X2 := Lib.hid t2
  clear Ha ha2 hb2 h2 t2 HB1
  go_wp2_with fail
  refine Ha2.out.mono ?_
  rintro e w3 ⟨rfl, h3, t3⟩
  have H3 := Lib.hid h3
  have X3 := Lib.hid t3
  clear Ha2 h3 t3
  have k4 := count_calls H3.out 
  rw [count_T2] at k4
  go_wp2_with fail
  refine k4.mono ?_
  rintro e w4 ⟨rfl, hd4⟩
  have H4 := Lib.hid (tab_drawn H3.out hd4)
  have D4 := Lib.hid hd4
  clear k4 hd4
  have k5 := active_calls H4.out 0
  rw [act_0] at k5
  go_wp2_with fail
  refine k5.mono ?_
  rintro e w5 ⟨rfl, hd5⟩
  have H5 := Lib.hid (tab_drawn H4.out hd5)
  have D5 := Lib.hid hd5
  clear k5 hd5
  have k6 := active_calls H5.out 1
  rw [act_1] at k6
  go_wp2_with fail
  refine k6.mono ?_
  rintro e w6 ⟨rfl, hd6⟩
  have H6 := Lib.hid (tab_drawn H5.out hd6)
  have D6 := Lib.hid hd6
  clear k6 hd6
  have k7 := isVar_calls H6.out 0
  rw [var_0] at k7
  go_wp2_with fail
  refine k7.mono ?_
  rintro e w7 ⟨rfl, hd7⟩
  have H7 := Lib.hid (tab_drawn H6.out hd7)
  have D7 := Lib.hid hd7
  clear k7 hd7
  have k8 := isVar_calls H7.out 1
  rw [var_1] at k8
  go_wp2_with fail
  refine k8.mono ?_
  rintro e w8 ⟨rfl, hd8⟩
  have H8 := Lib.hid (tab_drawn H7.out hd8)
  have D8 := Lib.hid hd8
  clear k8 hd8
  go_wp2_with fail
  go_ret2
  refine ⟨p, rfl, ?_, ?_⟩
  · refine H8.out.mono (fun k hk => ?_)
    have s1 := X1.out.size
    have s2 := X2.out.size
    rcases hk with (hk | hk) | hk
    · exact hk
    · omega
    · omega
  · have s1 := X1.out.size
    have s2 := X2.out.size
    have drew : ∀ {a b : World}, Drawn0 a b → Turns None a b := fun {a b} hd => by
      obtain ⟨n, rfl⟩ := hd
      exact Turns.drewN a n
    refine Turns.trans (Turns.trans (Turns.trans (Turns.trans (Turns.trans (Turns.trans (Turns.trans X1.out X2.out (fun k hk => .inr hk)) X3.out ?_) (drew D4.out) (fun _ h => h.elim)) (drew D5.out) (fun _ h => h.elim)) (drew D6.out) (fun _ h => h.elim)) (drew D7.out) (fun _ h => h.elim)) (drew D8.out) (fun _ h => h.elim)
    intro k hk
    right
    rcases hk with hk | hk
    · exact hk
    · omega
end Go.Proofs.YtpoojimmponklaaDoor.SymBegun
