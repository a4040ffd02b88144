/- KeepsLast, Handed, ReadW, KeepsMore, KeepsLaw: in one text. -/
import Derived.Test.YtpoojimmponklaaDoorKeepsWalk
import Derived.Test.YtpoojimmponklaaDoorTabAll
import Derived.Test.YtpoojimmponklaaDoorPExprKeepsx3
import Derived.Laws.AppendOwnNone
namespace Go.Proofs.YtpoojimmponklaaDoor.KeepsLast
open Go.RowKit Go.Proofs.YtpoojimmponklaaDoor.PExprKeeps Go.Proofs.YtpoojimmponklaaDoorW.PrintWords Go.Proofs.YtpoojimmponklaaDoor.KeepsPure Go.Proofs.YtpoojimmponklaaDoor.KeepsFuns Go.Proofs.YtpoojimmponklaaDoor.KeepsLib Go.Proofs.YtpoojimmponklaaDoor.KeepsWalk
set_option linter.unusedVariables false

abbrev CI (w : World) (A : Option Addr) (xs : List Int) : Prop := Kd.C (Kd.int .i64) w A xs.length xs
theorem C_take {w : World} {A : Option Addr} {c n : Nat} {xs : List Int} (h : CI w A xs) (hc : xs.length ≤ c) (hn : n ≤ xs.length) : CI w A (xs.take n) := by
  obtain ⟨i0, hi0, _, hsz, _⟩ := info_parts info3
  obtain ⟨_, hA, _⟩ := print_take_of (P := Tryd.prog) (Value.int .i64) 0 57 3 .i64 Tryd.underlying57 hi0 hsz A c xs (n : Int) (by omega) (by omega) hc
  have := hA w (Kd.reads_of_C h)
  rw [Int.toNat_natCast] at this
  exact Kd.C_of_reads (h1 := fun _ => rfl) this
abbrev room (l : List Int) : List Int := l ++ [-71, -72, -73]
end Go.Proofs.YtpoojimmponklaaDoor.KeepsLast

namespace Go.Proofs.YtpoojimmponklaaDoor.Handed
open Go.Proofs.YtpoojimmponklaaDoor.SymHeap hiding num
open Go.RowKit Go.Maps Go.Proofs.YtpoojimmponklaaDoor.SymTab Go.Proofs.YtpoojimmponklaaDoor.SymReads Go.Proofs.YtpoojimmponklaaDoor.SymApi Go.Proofs.YtpoojimmponklaaDoor.SymSep Go.Proofs.YtpoojimmponklaaDoor.PExprKeeps Go.Proofs.YtpoojimmponklaaDoor.KeepsPure Go.Proofs.YtpoojimmponklaaDoor.KeepsFuns Go.Proofs.YtpoojimmponklaaDoor.KeepsLast
open Go.Proofs.YtpoojimmponklaaDoor.SymAdd (cells_two_new)
open Go.Proofs.YtpoojimmponklaaDoorW.PrintWords
open Go.Proofs.YtpoojimmponklaaDoorW.PrintLast
open Go.Proofs.YtpoojimmponklaaDoor.KeepsLib (num)
set_option linter.unusedVariables false
set_option linter.unusedSimpArgs false

theorem owns_zero {w : World} {b e size n : Nat} {v : Value} {xs : List Value} (h : w.ownsRow b e size v n xs) : w.ownsRow 0 e size v n xs := by
  refine ⟨h.1, ?_⟩
  rcases h.2 with h2 | ⟨g, cap, cur, e1, hb, r⟩
  · exact .inl h2
  · exact .inr ⟨g, cap, cur, e1, Nat.zero_le _, r⟩
theorem s_blanks {W w : World} {rs : List Res} (h : Sep W w rs) (hb : SymScan.Blanks W) : SymScan.Blanks w := hb.move (h.1.block 0 hb.lt)
theorem RowAt.move {w w' : World} {e size n : Nat} {v : Value} {xs : List Value} {f : Nat → Prop} (h : RowAt w e size v n xs f) (hm : ∀ k, f k → w'.heap[k]? = w.heap[k]?) : RowAt w' e size v n xs f := ⟨own_move h.1 (fun k hk => hm k (h.2 k hk)), h.2⟩
theorem RowAt.mono {w : World} {e size n : Nat} {v : Value} {xs : List Value} {f g : Nat → Prop} (h : RowAt w e size v n xs f) (hm : ∀ k, f k → g k) : RowAt w e size v n xs g := ⟨h.1, fun k hk => hm k (h.2 k hk)⟩
theorem RowAt.bound {w : World} {e size n : Nat} {v : Value} {xs : List Value} {f : Nat → Prop} (h : RowAt w e size v n xs f) : RowAt w e size v n xs (fun k => f k ∧ k < w.heap.size) := ⟨h.1, fun k hk => ⟨h.2 k hk, (h.1.lt k hk).2⟩⟩

def full (n : Nat) (m : Int) : List Int := List.replicate n m
def long (n : Nat) (m : Int) : List Int := full n m ++ [m + 1, m + 2]
/-- A list that was handed out, written full, and the same lengthened: they may share their memory. -/
def HandAt (w : World) (L G : Value) (n : Nat) (m : Int) (f : Nat → Prop) : Prop := RowAt w 3 1 L n ((full n m).map num) f ∧ RowAt w 3 1 G (n + 2) ((long n m).map num) f
theorem HandAt.move {w w' : World} {L G : Value} {n : Nat} {m : Int} {f : Nat → Prop} (h : HandAt w L G n m f) (hm : ∀ k, f k → w'.heap[k]? = w.heap[k]?) : HandAt w' L G n m f := ⟨RowAt.move h.1 hm, RowAt.move h.2 hm⟩
theorem HandAt.mono {w : World} {L G : Value} {n : Nat} {m : Int} {f g : Nat → Prop} (h : HandAt w L G n m f) (hm : ∀ k, f k → g k) : HandAt w L G n m g := ⟨RowAt.mono h.1 hm, RowAt.mono h.2 hm⟩
def handR (L G : Value) (n : Nat) (m : Int) : Res :=
  ⟨fun w f => HandAt w L G n m f, fun h hm => h.move hm, fun h hm => h.mono hm, fun h => ⟨RowAt.bound h.1, RowAt.bound h.2⟩⟩

theorem own_take {w : World} {b n m c : Nat} {xs ys : List Value} (h : w.ownsRow 0 3 1 (.slice (some ⟨b, 0, none⟩) (n + m) c) (n + m) (xs ++ ys)) (hx : xs.length = n) : w.ownsRow 0 3 1 (.slice (some ⟨b, 0, none⟩) n c) n xs := by
  refine ⟨by simp [hx], .inr ?_⟩
  rcases h.2 with ⟨e1, _⟩ | ⟨g', cap', cur, e1, hb, hgg, hn, hc, hsz, htk⟩
  · cases e1
  · simp only [Value.slice.injEq, Option.some.injEq, Addr.mk.injEq, and_true, true_and] at e1
    obtain ⟨rfl, rfl⟩ := e1
    refine ⟨b, c, cur, rfl, hb, hgg, by omega, hc, hsz, ?_⟩
    have h2 := congrArg (List.take (n * 1)) htk
    rw [List.take_take, show min (n * 1) ((n + m) * 1) = n * 1 by omega] at h2
    rw [h2, List.take_append_of_le_length (by omega), List.take_of_length_le (by omega)]
theorem info3' : (Tryd.prog.info? 3).map (fun i => (i.zero, i.size, i.bytes)) = some (some (.int .i64 0), 1, 8) := by kernel_rfl
theorem two_of {W w w' : World} {rs : List Res} {v v' : Value} {n : Nat} {m : Int} (h : Sep W w (rowR 3 1 v n ((full n m).map num) :: rs))
    (hx : w'.ownsRow 0 3 1 v n ((full n m).map num) ∧ w'.ownsRow 0 3 1 v' (n + 2) ((full n m).map num ++ [num (m + 1), num (m + 2)]) ∧ w.grownBy w' v.ownBlock ∧
      (∀ k, v'.ownBlock = some k → v.ownBlock = some k ∨ w.heap.size ≤ k)) : Sep W w' (handR v v' n m :: rs) := by
  obtain ⟨x1, x2, x3, x4⟩ := hx
  refine h.turn fun f ⟨h1, h2⟩ => ⟨⟨⟨x1, fun k hk => .inl (h2 k hk)⟩, ⟨by simpa [long] using x2, fun k hk => ?_⟩⟩, Turns.of_grown x3 (fun k hk => h2 k hk)⟩
  rcases x4 k hk with e | e
  · exact .inl (h2 _ e)
  · exact .inr e
end Go.Proofs.YtpoojimmponklaaDoor.Handed

namespace Go.Proofs.YtpoojimmponklaaDoor.ReadW
open Go.Proofs.YtpoojimmponklaaDoor.SymHeap hiding num
open Go.RowKit Go.Maps Go.Proofs.YtpoojimmponklaaDoor.SymTab Go.Proofs.YtpoojimmponklaaDoor.SymReads Go.Proofs.YtpoojimmponklaaDoor.SymApi Go.Proofs.YtpoojimmponklaaDoor.SymSep Go.Proofs.YtpoojimmponklaaDoor.KeepsPure Go.Proofs.YtpoojimmponklaaDoor.KeepsFuns Go.Proofs.YtpoojimmponklaaDoor.KeepsLast Go.Proofs.YtpoojimmponklaaDoor.Handed
open Go.Proofs.YtpoojimmponklaaDoorW.PrintWords
open Go.Proofs.YtpoojimmponklaaDoorW.PrintLast
open Go.Proofs.YtpoojimmponklaaDoor.KeepsLib (num)
set_option linter.unusedVariables false
set_option linter.unusedSimpArgs false

def readGo (T : Tab) : List ByteArray → Nat → List Int → List Int × Nat × Nat
  | [], _, out => (out, 0, 0)
  | s :: ws, i, out => if i = 200 then ([], i, 31) else match T.act s with
    | none => ([], i, 30)
    | some n => readGo T ws (i + 1) (out ++ [(n : Int)])
def readT (T : Tab) (ws : List ByteArray) : List Int × Nat × Nat := readGo T ws 0 []
theorem rdOf_of {xs : List ByteArray} {n : Nat} (h : n < xs.length) : rdOf ByteArray.empty xs (n : Int) = xs[n] := by
  unfold rdOf
  simp [h]
theorem info3' : (Tryd.prog.info? 3).map (fun i => (i.zero, i.size, i.bytes)) = some (some (.int .i64 0), 1, 8) := by kernel_rfl

set_option maxHeartbeats 4000000 in
theorem read_calls {w : World} {p g : Nat} {T : Tab} {fp : Nat → Prop} (h : TabIs w p g T fp) (hfp : ∀ k, fp k → k < w.heap.size) (A : Option Addr) (c : Nat) (ws : List ByteArray) (hC : Kd.C Kd.string w A ws.length ws) (hl : ws.length ≤ 1048576 * 4) (hs : ∀ s ∈ ws, s.size ≤ maxLen) :
    Calls Tryd.prog 50 #[.pointer (some ⟨p, 0, none⟩), .slice A ws.length c] w fun ed w' => ∃ v, ed = .returned (.tuple #[v, .int .i64 (readT T ws).2.1, .int .i64 (readT T ws).2.2]) ∧ w'.ownsRow w.heap.size 3 1 v (readT T ws).1.length ((readT T ws).1.map num) ∧ Below w.heap.size w w' := by
  have HT := Aside0.mk h
  have HC := Aside0.mk hC
  clear h hC
  go_enter Tryd.func50, Tryd.ntmps50
  go_wp2_with fail
  go_loopw [7, 14] (fun v7 v14 wr => ∃ (i : Nat) (out : List Int), i ≤ ws.length ∧ i ≤ 200 ∧ v14 = .int .i64 i ∧ out.length = i ∧ Aside0 (readGo T (ws.drop i) i out = readT T ws) ∧ Aside0 (wr.ownsRow w.heap.size 3 1 v7 i (out.map num)) ∧ Aside0 (Below w.heap.size w wr)) (fun _ v14 _ => ws.length - (intOf v14).toNat)
  case atStart => exact ⟨0, [], by omega, by omega, rfl, rfl, ⟨rfl⟩, ⟨World.ownsRow_nil _ _ _ _⟩, ⟨Below.refl _ _⟩⟩
  case round =>
    obtain ⟨i, out, hi, hi2, rfl, hout, HG, HO, HB⟩ := hrel
    by_cases hlt : i < ws.length
    · obtain ⟨ad, rfl, hx⟩ := Kd.at_string (Kd.C_below HC.out HB.out) (i : Int) (by omega) (by omega)
      rw [rdOf_of hlt, Int.toNat_natCast] at hx
      have hG := HG.out
      rw [List.drop_eq_getElem_cons hlt, readGo] at hG
      have hsz := hs ws[i] (List.getElem_mem hlt)
      generalize ws[i] = s at hx hG hsz
      by_cases h200 : i = 200
      · rw [if_pos h200] at hG
        have e200 : ((i : Int) == 200) = true := by simpa using (by omega : (i : Int) = 200)
        have HG' := Aside0.mk hG
        clear h200 hi2
        clear hG HG
        go_wp2_with fail
        go_ret3
        refine ⟨.slice none 0 0, ?_, ?_, HB.out⟩
        · rw [← HG'.out]; rfl
        · rw [← HG'.out]; exact World.ownsRow_nil _ _ _ _
      · rw [if_neg h200] at hG
        have e200 : ((i : Int) == 200) = false := by simpa using (by omega : ¬ (i : Int) = 200)
        clear HG
        have hTb := HT.out.move (fun k hk => HB.out.block k (hfp k hk))
        have hf := find_api hTb s hsz
        unfold findT at hf
        clear hTb
        cases hact : T.act s with
        | none =>
          rw [hact] at hG hf
          have HG' := Aside0.mk hG
          have Hf := Aside0.mk hf
          clear hG hf
          go_wp2_with fail
          refine Hf.out.mono ?_
          rintro ed w2 ⟨rfl, nq, rfl⟩
          clear Hf
          go_wp2_with fail
          go_ret3
          refine ⟨.slice none 0 0, ?_, ?_, pw_below_drewN HB.out nq⟩
          · rw [← HG'.out]; rfl
          · rw [← HG'.out]; exact World.ownsRow_nil _ _ _ _
        | some n =>
          rw [hact] at hG hf
          have HG' := Aside0.mk hG
          have Hf := Aside0.mk hf
          clear hG hf
          obtain ⟨A5, c5, e5, _⟩ := row_slice HO.out
          subst e5
          obtain ⟨i3, hi3, hz0, hz1, hz2⟩ := info_parts info3'
          have Hi3 := Aside0.mk hi3
          have Hz03 := Aside0.mk hz0
          have Hz13 := Aside0.mk hz1
          have Hz23 := Aside0.mk hz2
          clear hi3 hz0 hz1 hz2
          go_wp2_with fail
          refine Hf.out.mono ?_
          rintro ed w2 ⟨rfl, nq, rfl⟩
          clear Hf
          have HO2 := Aside0.mk (show (wr.drewN nq).ownsRow w.heap.size 3 1 (.slice A5 i c5) i (out.map num) from HO.out)
          have HB2 := Aside0.mk (pw_below_drewN HB.out nq)
          obtain ⟨w2, hw2⟩ : ∃ w2, w2 = wr.drewN nq := ⟨_, rfl⟩
          rw [← hw2] at HO2 HB2 ⊢
          clear hw2 HO HB
          go_wp2_with (at_builtin; refine wpList_append_own_at _ rfl (.tmp 31) (.tmp 33) 57 rfl w.heap.size 3 i3 (.int .i64 0) 1 8 Tryd.underlying57 Hi3.out Hz03.out Hz13.out Hz23.out rfl (by decide) _ i (out.map num) rfl (HO2.out.alloc _) ⟨w2.heap.size, 0, none⟩ 1 1 [num (n : Int)] rfl rfl (cell_one_new _ _ _) ?c2 (by unfold maxLen; omega) (by omega) ?c3 ?_)
          case c2 => intro u hu; simp at hu; subst hu; rfl
          case c3 => have := HB2.out.size; simp; omega
          intro v7 w7 hown7 hgrow7 hnil7 hat7
          have HO7 := Aside0.mk hown7
          have HB7 := Aside0.mk ((HB2.out.alloc HB2.out.size (.cells #[num (n : Int)] 3)).grown hgrow7 (by have := HB2.out.size; simp; omega) (fun b hb => (HO2.out.lt b hb).1))
          clear hown7 hgrow7 hnil7 hat7
          go_wp2_with fail
          go_roundw
          case rel => exact ⟨i + 1, out ++ [(n : Int)], by omega, by omega, by go_num, by simp [hout], HG', by simpa using HO7, HB7⟩
          case measure => simp [intOf]; omega
    · have hi' : i = ws.length := by omega
      have hG := HG.out
      rw [List.drop_of_length_le (by omega), readGo] at hG
      have HG' := Aside0.mk hG
      clear hG HG
      obtain ⟨A5, c5, e5, _⟩ := row_slice HO.out
      subst e5
      go_wp2_with fail
      go_ret3
      refine ⟨.slice A5 i c5, ?_, ?_, HB.out⟩
      · rw [← HG'.out]; rfl
      · rw [← HG'.out]; simpa [hout] using HO.out
end Go.Proofs.YtpoojimmponklaaDoor.ReadW

namespace Go.Proofs.YtpoojimmponklaaDoor.KeepsMore
open Go.Proofs.YtpoojimmponklaaDoor.SymHeap hiding num
open Go.RowKit Go.Maps Go.Proofs.YtpoojimmponklaaDoor.SymTab Go.Proofs.YtpoojimmponklaaDoor.SymReads Go.Proofs.YtpoojimmponklaaDoor.SymApi Go.Proofs.YtpoojimmponklaaDoor.SymSep Go.Proofs.YtpoojimmponklaaDoor.KeepsPure Go.Proofs.YtpoojimmponklaaDoor.KeepsFuns Go.Proofs.YtpoojimmponklaaDoor.KeepsLast Go.Proofs.YtpoojimmponklaaDoor.Handed Go.Proofs.YtpoojimmponklaaDoor.ReadW Go.Proofs.YtpoojimmponklaaDoor.PExprKeeps
open Go.Proofs.YtpoojimmponklaaDoorW.PrintWords
open Go.Proofs.YtpoojimmponklaaDoorW.PrintLast
open Go.Proofs.YtpoojimmponklaaDoor.KeepsLib (num)
set_option linter.unusedVariables false
set_option linter.unusedSimpArgs false

theorem C_nil (w : World) : CI w none [] := ⟨rfl, by simp, fun h => absurd h (by simp)⟩

/-! ### what is kept -/
structure Hand1 where
  L : Value
  G : Value
  n : Nat
  m : Int
def cells1 (it : Hand1) : List Value := [it.L, it.G, num it.m]
def cellsOf (items : List Hand1) : List Value := items.flatMap cells1
/-! ### do they stand? -/
theorem row_reads {w : World} {b : Nat} {v : Value} {xs : List Int} (h : w.ownsRow b 3 1 v xs.length (xs.map num)) : ∃ A c, v = .slice A xs.length c ∧ xs.length ≤ c ∧ CI w A xs :=
  Kd.R_reads (Kd.R_of_own (enc := Value.int .i64) (h1 := fun _ => rfl) (ok := fun _ => True) h (fun _ _ => trivial))
/-! ### a new list; the table -/
theorem s_new {W w w' : World} {rs : List Res} {v : Value} {n : Nat} {xs : List Value} (h : Sep W w rs) (hb : Below w.heap.size w w') (ho : w'.ownsRow w.heap.size 3 1 v n xs) : Sep W w' (rowR 3 1 v n xs :: rs) :=
  h.fresh (f := fun k => w.heap.size ≤ k) ⟨hb.os, hb.tape, hb.output, hb.size, fun k hk _ => hb.block k hk⟩ ⟨owns_zero ho, fun k hk => (ho.lt k hk).1⟩ (fun _ hk => hk)
theorem s_read {W w : World} {rs : List Res} {p g : Nat} {T : Tab} (h : Sep W w (tabR p g T :: rs)) (A : Option Addr) (c : Nat) (ws : List ByteArray) (hC : Kd.C Kd.string w A ws.length ws) (hl : ws.length ≤ 1048576 * 4) (hs : ∀ s ∈ ws, s.size ≤ maxLen) {out : List Int} {i f : Nat} (hr : readT T ws = (out, i, f)) :
    Calls Tryd.prog 50 #[.pointer (some ⟨p, 0, none⟩), .slice A ws.length c] w fun e w' => ∃ v, e = .returned (.tuple #[v, .int .i64 i, .int .i64 f]) ∧ Sep W w' (rowR 3 1 v out.length (out.map num) :: tabR p g T :: rs) ∧ Below w.heap.size w w' := by
  obtain ⟨fp, h1, h2⟩ := h.head
  refine (read_calls h1 (fun k hk => (h2 k hk).2) A c ws hC hl hs).mono fun e w' ⟨v, he, ho, hb⟩ => ?_
  rw [hr] at he ho
  exact ⟨v, he, s_new h hb ho, hb⟩
theorem s_const {W w : World} {rs : List Res} {p g : Nat} {T : Tab} (hb : SymScan.Blanks W) (h : Sep W w (tabR p g T :: rs)) {s : ByteArray} (hs : s.size ≤ maxLen) (hg : g + 2 < maxLen) {T' : Tab} {n c : Nat} (hc : constT T s = (T', n, c)) :
    Calls Tryd.prog 18 #[.pointer (some ⟨p, 0, none⟩), .string s] w fun e w' => e = .returned (.tuple #[.int .i64 (n : Int), .int .i64 (c : Int)]) ∧ Sep W w' (tabR p (g + 2) T' :: rs) := by
  refine h.calls fun F1 h1 => ?_
  have := const_api (s_blanks h hb) h1 s hs hg
  rw [hc] at this
  exact this
theorem s_tab {W w : World} {rs : List Res} (h : Sep W w rs) : Calls Tryd.prog 33 #[] w fun e w' => ∃ p, e = .returned (.pointer (some ⟨p, 0, none⟩)) ∧ Sep W w' (tabR p 0 empty :: rs) :=
  new_api.mono fun e w' ⟨p, he, h1, ht⟩ => ⟨p, he, h.fresh (f := fun k => w.heap.size ≤ k) ht h1 (fun _ hk => hk)⟩

/-! ### the table of the law -/
def cc : ByteArray := ⟨#[99]⟩
end Go.Proofs.YtpoojimmponklaaDoor.KeepsMore

namespace Go.Proofs.YtpoojimmponklaaDoor.KeepsLaw
open Go.Proofs.YtpoojimmponklaaDoor.SymHeap hiding num
open Go.RowKit Go.Maps Go.Proofs.YtpoojimmponklaaDoor.SymTab Go.Proofs.YtpoojimmponklaaDoor.SymReads Go.Proofs.YtpoojimmponklaaDoor.SymApi Go.Proofs.YtpoojimmponklaaDoor.SymSep Go.Proofs.YtpoojimmponklaaDoor.KeepsPure Go.Proofs.YtpoojimmponklaaDoor.KeepsFuns Go.Proofs.YtpoojimmponklaaDoor.KeepsLast Go.Proofs.YtpoojimmponklaaDoor.KeepsWalk Go.Proofs.YtpoojimmponklaaDoor.Handed Go.Proofs.YtpoojimmponklaaDoor.ReadW Go.Proofs.YtpoojimmponklaaDoor.KeepsMore Go.Proofs.YtpoojimmponklaaDoor.PExprKeeps
open Go.Proofs.YtpoojimmponklaaDoorW.PrintWords
open Go.Proofs.YtpoojimmponklaaDoorW.PrintLast
open Go.Proofs.YtpoojimmponklaaDoor.KeepsLib (num)
set_option linter.unusedVariables false
set_option linter.unusedSimpArgs false

end Go.Proofs.YtpoojimmponklaaDoor.KeepsLaw
