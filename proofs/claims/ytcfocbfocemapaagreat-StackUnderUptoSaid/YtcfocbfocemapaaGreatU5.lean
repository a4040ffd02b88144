/- DistA, IterA, IterB. -/
import Derived.Test.YtcfocbfocemapaaGreatU2
import Derived.Test.YtcfocbfocemapaaGreatU4
import Derived.RangeFuncSeq
import Derived.RangeFuncGives
import Derived.Sort.MapsRangeIn
import Derived.Sort.KeysCollected
import Derived.Maps.AppendAt
import Derived.OwnWalkIn
import Derived.TacticsInMore
import Derived.RegionIn
import Derived.LoopNIn
import Derived.LoopIn
import Derived.ChangeKeysEq
import Derived.RangeFuncKeeps
import Derived.RangeFuncBound
import Derived.RangeFuncLeaves
import Derived.Shelf.Abstract
import Derived.Laws.EntriesVeiled
namespace Go.Proofs.YtcfocbfocemapaaGreat.DistA
open Go.RowKit Go.Maps Go.Proofs.YtcfocbfocemapaaGreat.Sep Go.Proofs.YtcfocbfocemapaaGreat.Mem Go.Proofs.YtcfocbfocemapaaGreat.Sets Go.Proofs.YtcfocbfocemapaaGreat.PlayP Go.Proofs.YtcfocbfocemapaaGreat.PStackPlays
open Go.Proofs.YtcfocbfocemapaaGreatW.PrintWords
set_option linter.unusedVariables false
set_option linter.unusedSimpArgs false
set_option maxRecDepth 100000

def turnP (p : Int × Int) : Int × Int := if p.1 > p.2 then (p.2, p.1) else p
def putS (f : Int × Int → Bool) (p : Int × Int) : Int × Int → Bool := if p.1 = p.2 then f else upd f (turnP p)
theorem turned_calls (a b : Int) (w : World) : Calls Tryz.prog 84 #[.agg #[.int .i64 a, .int .i64 b]] w fun e w' => e = .returned (.agg #[.int .i64 (turnP (a, b)).1, .int .i64 (turnP (a, b)).2]) ∧ Below w.heap.size w w' := by
  unfold turnP
  by_cases h : a > b
  · have := dist_turned.calls a b b a w (by unfold dist_turned.f; rw [if_pos h])
    simp only [h, if_true]
    exact this
  · have := dist_turned.calls a b a b w (by unfold dist_turned.f; rw [if_neg h])
    simp only [h, if_false]
    exact this
theorem turn_ok {p : Int × Int} (h : IntOK p.1 ∧ IntOK p.2) : IntOK (turnP p).1 ∧ IntOK (turnP p).2 := by
  unfold turnP
  split
  · exact ⟨h.2, h.1⟩
  · exact h
set_option maxHeartbeats 4000000 in
theorem put_calls {W w : World} {rs : List Res} {b g : Nat} {f : Int × Int → Bool} (hM : Sep W w (setR sP b g f :: rs)) (hg : g < maxLen) (p : Int × Int) (hp : IntOK p.1 ∧ IntOK p.2) :
    Calls Tryz.prog 82 #[.map (some b), .agg #[.int .i64 p.1, .int .i64 p.2]] w fun e w' => e = .returned (.tuple #[]) ∧ Sep W w' (setR sP b (g + 1) (putS f p) :: rs) := by
  have M := Aside0.mk hM
  have HP := Aside0.mk hp
  clear hM hp
  obtain ⟨p1, p2⟩ := p
  have h84 := fun w => turned_calls p1 p2 w
  go_enter Tryz.func82, Tryz.ntmps82
  by_cases he : p1 = p2
  · go_wp2_with fail
    go_end0
    refine ⟨rfl, ?_⟩
    have e : putS f (p2, p2) = f := if_pos rfl
    rw [e]
    exact (M.out.alloc _).told fun F hF => ⟨hF.1.more (by omega), hF.2⟩
  · go_wp2_with fail
    refine (h84 _).mono ?_
    clear h84
    rintro e w1 ⟨rfl, hb⟩
    have M1 := (M.out.alloc (Obj.cells #[Value.int IntKind.i64 p1, Value.int IntKind.i64 p2] 50)).below hb
    clear M hb
    have M := Aside0.mk M1
    clear M1
    go_wp2_with (at_mapUpdate; refine wp_put (m := sP) (s := turnP (p1, p2)) rfl _ _ _ rfl rfl rfl rfl (set_at M.out) (turn_ok HP.out) hg ?_; intro w3 hm3 hg3; have hM3 := set_turn M.out hm3 hg3; clear M hm3 hg3)
    go_end0
    refine ⟨rfl, ?_⟩
    have e : putS f (p1, p2) = upd f (turnP (p1, p2)) := if_neg he
    rw [e]
    exact hM3
end Go.Proofs.YtcfocbfocemapaaGreat.DistA

namespace Go.Proofs.YtcfocbfocemapaaGreat.IterA
open Go.RowKit Go.Maps Go.Sort Go.Shelf Go.Proofs.YtcfocbfocemapaaGreat.Sep Go.Proofs.YtcfocbfocemapaaGreat.Mem Go.Proofs.YtcfocbfocemapaaGreat.Sets Go.Proofs.YtcfocbfocemapaaGreat.DistA
open Go.Proofs.YtcfocbfocemapaaGreatW.PrintWords (Aside0 Drawn0 own_move)
set_option linter.unusedVariables false
set_option linter.unusedSimpArgs false
attribute [local go_sem] Oper.semAt_some
set_option maxRecDepth 100000

abbrev PI := Int × Int
/-- A pair of numbers of the kind int. -/
def PairOK (x : PI) : Prop := IntOK x.1 ∧ IntOK x.2
def encP (x : PI) : Value := .agg #[.int .i64 x.1, .int .i64 x.2]
theorem lits3 {d : Nat} {c : Value} {l : List Lit} (h : Tryz.prog.keyLits d 3 [c] = some l) : ∃ n, c = .int .i64 n ∧ IntOK n := by
  obtain ⟨n, hn, _⟩ := keyLits_int' Tryz.underlying3 h
  simp only [List.cons.injEq, and_true] at hn
  subst hn
  refine ⟨n, rfl, ?_⟩
  cases d with
  | zero => simp [Program.keyLits] at h
  | succ d =>
    simp only [Program.keyLits, Tryz.underlying3, true_and] at h
    split at h
    · assumption
    · cases h
/-- What reads as a key of a set of pairs. -/
theorem key50_inv {v : Value} {kl : Lit} (h : keyOf Tryz.prog 50 v = some kl) : ∃ x : PI, v = encP x ∧ PairOK x := by
  unfold keyOf at h
  rw [Tryz.underlying50] at h
  simp only at h
  split at h
  case isFalse => cases h
  case isTrue hc =>
    simp only [Bool.and_eq_true] at hc
    obtain ⟨_, hf⟩ := hc
    obtain ⟨ls, hls, _⟩ := Option.map_eq_some_iff.1 h
    have hcl : Tryz.prog.cellsOf 50 = 2 := by kernel_rfl
    have hc3 : Tryz.prog.cellsOf 3 = 1 := by kernel_rfl
    cases v with
    | agg cs =>
      have hsz : cs.size = 2 := by
        unfold Value.formed at hf
        rw [Tryz.underlying50] at hf
        simpa [hcl] using hf
      obtain ⟨l⟩ := cs
      match l, hsz with
      | [c0, c1], _ =>
        have hd : ∃ d, Tryz.prog.types.size = d + 1 := ⟨Tryz.prog.types.size - 1, by have : 0 < Tryz.prog.types.size := Nat.lt_of_lt_of_le (by decide) (Nat.le_of_lt row50); omega⟩
        obtain ⟨d, hd⟩ := hd
        rw [hd] at hls
        unfold Program.keyLits at hls
        rw [Tryz.underlying50] at hls
        simp only [Value.cells, hcl] at hls
        split at hls
        case isFalse => cases hls
        case isTrue =>
          obtain ⟨lss, hm, rfl⟩ := Option.map_eq_some_iff.1 hls
          simp only [hc3, List.mapM_cons, List.mapM_nil, List.drop, List.take, Option.bind_eq_bind, Option.pure_def, Option.bind_eq_some_iff] at hm
          obtain ⟨l0, h0, _, ⟨l1, h1, _⟩, _⟩ := hm
          obtain ⟨a, rfl, ha⟩ := lits3 h0
          obtain ⟨b, rfl, hb⟩ := lits3 h1
          exact ⟨(a, b), rfl, ha, hb⟩
    | _ => simp [Value.formed, Tryz.underlying50] at hf

/-! ### what has come -/
theorem pair_key {x : PI} (h : PairOK x) : keyOf Tryz.prog 50 (encP x) = some (sP.key x) := sP.hkey (k := x) h
/-- No key twice; a key is on the list just where the set has it and it is no longer to come. -/
def Came (D0 : DataW Unit) (left : Lit → Bool) (ss : List PI) : Prop := ss.Nodup ∧ (∀ x ∈ ss, PairOK x) ∧ ∀ x, PairOK x → (x ∈ ss ↔ (Maps.has D0 (sP.key x) = true ∧ left (sP.key x) = false))
theorem Came.start (D0 : DataW Unit) : Came D0 (Maps.has D0) [] := ⟨List.nodup_nil, by simp, fun x _ => by cases Maps.has D0 (sP.key x) <;> simp⟩
theorem same_key {x y : PI} (hx : PairOK x) (hy : PairOK y) : (sP.key y).sameKey (sP.key x) = decide (y = x) := by
  by_cases e : y = x
  · subst e
    have : (sP.key y).sameKey (sP.key y) = true := by
      have hk := sP.isKey (k := y) hy
      generalize sP.key y = l at hk
      cases l <;> simp [WideAt.IsKeyLit] at hk <;> simp [Lit.sameKey]
    rw [this]
    simp
  · rw [sameKey_ne (fun h => e (sP.key_inj (a := y) (b := x) hy hx h))]
    simp [e]
theorem Came.step {D0 : DataW Unit} {left : Lit → Bool} {ss : List PI} (h : Came D0 left ss) {x : PI} (hx : PairOK x) {y : DataW Unit} (hlk : left (sP.key x) = true) (hat : ∀ zd, D0.atKey (sP.key x) zd = y) : Came D0 (fun z => left z && !z.sameKey (sP.key x)) (ss ++ [x]) := by
  have hhas : Maps.has D0 (sP.key x) = true := has_true_of_atKey hat
  have hnew : x ∉ ss := fun hm => by have := ((h.2.2 x hx).1 hm).2; rw [hlk] at this; cases this
  refine ⟨List.nodup_append.2 ⟨h.1, by simp, fun a ha b hb => by simp at hb; subst hb; exact fun e => hnew (e ▸ ha)⟩, fun a ha => ?_, fun y hy => ?_⟩
  · rcases List.mem_append.1 ha with ha | ha
    · exact h.2.1 a ha
    · obtain rfl := List.mem_singleton.1 ha
      exact hx
  · have hs := same_key hx hy
    by_cases e : y = x
    · subst e
      simp [hhas, hs]
    · simp [h.2.2 y hy, e, hs]

/-- A row of pairs, flat. -/
def pairCells (ss : List PI) : List Value := ss.flatMap fun x => [.int .i64 x.1, .int .i64 x.2]
theorem pairCells_len (ss : List PI) : (pairCells ss).length = ss.length * 2 := by
  induction ss with
  | nil => rfl
  | cons a l ih =>
    show ([_, _] ++ pairCells l).length = _
    rw [List.length_append, ih]
    simp
    omega
theorem pairCells_more (ss : List PI) (x : PI) : pairCells (ss ++ [x]) = pairCells ss ++ [.int .i64 x.1, .int .i64 x.2] := by simp [pairCells]
set_option maxHeartbeats 2000000 in
/-- The iterator of maps.Keys over a set of pairs: the keys come, each once. -/
theorem keys1_in (F : Fence) (n : Nat) (h118 : F.fn 118) (hro : F.round = none) (hn : 1 ≤ n) (l Bm b nn : Nat) (D0 : DataW Unit) (N : Nat) (hN : Maps.size D0 ≤ N) (J : List PI → World → Prop)
    (hY : ∀ pre x W, J pre W → pre.length < N → YieldAt F (n - 1) Tryz.prog l #[encP x] W fun e W' => e = .returned (.bool true) ∧ J (pre ++ [x]) W' ∧ KeepsWalks W W')
    (W : World) (hJ : AbidesFrom W.heap.size J) (hm : W.cell? ⟨Bm, 0, none⟩ = some (.map (some b))) (hown : W.ownsMap Tryz.prog 50 unitElem b nn D0) (h0 : J [] W) :
    CallsIn F n Tryz.prog 118 #[.func (.yield l) #[] #[], .pointer (some ⟨Bm, 0, none⟩)] W fun e W' => (∃ v, e = .returned v) ∧ ∃ ss : List PI, ss.Nodup ∧ (∀ x ∈ ss, PairOK x) ∧ (∀ x, PairOK x → (x ∈ ss ↔ Maps.has D0 (sP.key x) = true)) ∧ J ss W' := by
  refine callsIn_of_wp Tryz.func118 rfl h118 ?_ hro
  simp only [Tryz.ntmps118, List.size_toArray, List.length_cons, List.length_nil, Nat.reduceAdd, Nat.reduceSub, Array.replicate_succ, Array.replicate_zero, List.push_toArray, List.append_toArray, List.nil_append, List.cons_append]
  gi_wp2_with (first
    | (gi_at_range; refine wpListIn_range_own _ rfl _ 145 rfl 50 149 (Keyed.of_law law50) Tryz.underlying145 _ b nn _ rfl hown ?_; intro w0 hrg0 hg0 hs0)
    | gi_in)
  go_frame
  gi_loopw [3] (fun _ wr => ∃ (left : Lit → Bool) (cnt : Nat) (ss : List PI), wr.ranges Tryz.prog 50 unitElem b W.heap.size nn D0 left cnt ∧ ss.length + cnt ≤ Maps.size D0 ∧ Came D0 left ss ∧ J ss wr ∧ W.heap.size ≤ wr.heap.size)
    (fun _ wr => wr.rangeLeft b W.heap.size)
  case atStart =>
    exact ⟨_, _, [], hrg0, by simp, Came.start D0, hJ [] W w0 none h0 hg0 (fun r e => by cases e), by omega⟩
  case round =>
    obtain ⟨left, cnt, ss, hrg, hcs, hC, hJs, hsz⟩ := hrel
    gi_wp2_with (first
      | (gi_at_next; refine wpListIn_next_ranges _ rfl _ rfl 50 (Keyed.of_law law50) unitElem (fun x : {x : PI // PairOK x} => encP x.1) id (fun key kl hk => by obtain ⟨x, hx, ho⟩ := key50_inv hk; exact ⟨⟨x, ho⟩, hx⟩) (fun v _ _ => ⟨v, rfl⟩) b W.heap.size nn _ _ _ rfl hrg ?_ ?_)
      | gi_in)
    · intro hc0 hl0
      gi_wp2
      go_end0
      exact ⟨⟨_, rfl⟩, ss, hC.1, hC.2.1, fun x hx => by rw [hC.2.2 x hx, hl0]; simp, hJs⟩
    · intro xa xb hx c kl y1 y2 w2 cnt2 hkey hlk hv hat hrg2 hlt hg2 hs2 hen
      have ek : sP.key (xa, xb) = kl := by
        have h1 := pair_key hx
        rw [hkey] at h1
        exact (Option.some.inj h1).symm
      subst ek
      have hJ2 : J ss w2 := hJ ss wr w2 (some W.heap.size) hJs hg2 (fun r e => by cases e; exact ⟨Nat.le_refl _, hrg.iter_walk⟩)
      have hsz2 : W.heap.size ≤ w2.heap.size := by omega
      clear hs2
      have hJ3 := hJ ss w2 (w2.alloc (.cells #[.int .i64 xa, .int .i64 xb] 50)) none hJ2 (World.grownBy_alloc _ _ _) (fun r e => by cases e)
      obtain ⟨fn, tmps, assign, body, hy, hR⟩ := hY ss (xa, xb) _ hJ3 (by omega)
      unfold encP at hy
      unfold encP at hen
      unfold encP
      have hrg3 := hrg2.of_walks (KeepsWalks.alloc w2 (.cells #[.int .i64 xa, .int .i64 xb] 50))
      gi_wp2
      refine hR.mono ?_
      rintro e W3 ⟨rfl, hJ4, hk4⟩
      have hrg4 := hrg3.of_walks hk4
      have hsz4 : W.heap.size ≤ W3.heap.size := Nat.le_of_lt hrg4.lt
      gi_wp2
      go_roundw
      case rel => exact ⟨_, cnt2, ss ++ [(xa, xb)], hrg4, by simp; omega, hC.step hx hlk hat, hJ4, hsz4⟩
      case measure => rw [hrg4.left_eq, hrg.left_eq]; exact hlt
end Go.Proofs.YtcfocbfocemapaaGreat.IterA

namespace Go.Proofs.YtcfocbfocemapaaGreat.IterB
open Go.RowKit Go.Maps Go.Sort Go.Shelf Go.Proofs.YtcfocbfocemapaaGreat.Sep Go.Proofs.YtcfocbfocemapaaGreat.Mem Go.Proofs.YtcfocbfocemapaaGreat.Sets Go.Proofs.YtcfocbfocemapaaGreat.DistA Go.Proofs.YtcfocbfocemapaaGreat.IterA
open Go.Proofs.YtcfocbfocemapaaGreatW.PrintWords (Aside0 Drawn0 own_move)
set_option linter.unusedVariables false
set_option linter.unusedSimpArgs false
attribute [local go_sem] Oper.semAt_some
set_option maxRecDepth 100000

def apAssign : Code := (Code.region 2 #[{ dst := some 5, op := Op.alloc 50, type := 0, pos := "iter.go:51", after := #[], guard := none }, { dst := none, op := Op.store 50 (Operand.tmp 5) (Operand.tmp 7), type := 0, pos := "iter.go:51", after := #[{ on := 0, ground := Ground.data }, { on := 0, ground := Ground.phase }], guard := none }] false)
def apBody : Code := (Code.block 1 (Code.region 3 #[{ dst := some 8, op := Op.load 23 (Operand.tmp 2), type := 23, pos := "iter.go:52", after := #[], guard := none }, { dst := some 9, op := Op.load 50 (Operand.tmp 5), type := 50, pos := "iter.go:52", after := #[], guard := none }, { dst := some 10, op := Op.buildSlice 23 1 #[(0, Operand.tmp 9)], type := 23, pos := "iter.go:52", after := #[{ on := 1, ground := Ground.data }], guard := none }, { dst := some 11, op := Op.call { callee := Callee.builtin Builtin.append, args := #[Operand.tmp 8, Operand.tmp 10], argTypes := #[23, 23] }, type := 23, pos := "iter.go:52", after := #[{ on := 0, ground := Ground.data }, { on := 2, ground := Ground.data }], guard := none }, { dst := none, op := Op.store 23 (Operand.tmp 2) (Operand.tmp 11), type := 0, pos := "iter.go:52", after := #[{ on := 3, ground := Ground.data }, { on := 3, ground := Ground.chain }, { on := 0, ground := Ground.phase }, { on := 1, ground := Ground.phase }, { on := 2, ground := Ground.phase }, { on := 3, ground := Ground.phase }], guard := none }] false))
def apRec (fn : FuncId) (sv : Value) (Bs D : Nat) (st : LoopState) (pend : Option Code) : Loop :=
  { state := st, pending := pend, fn, tmps := #[.slice none 0 0, sv, .pointer (some ⟨Bs, 0, none⟩), undef, .slice none 0 0, undef, sv, undef, undef, undef, undef, undef, undef], params := #[7], assign := apAssign, body := apBody, defers := D }
/-- Between two rounds: the box holds a list of one's own, what has come so far; what lay before has not turned. -/
structure PAt (w0 : World) (fn : FuncId) (sv : Value) (Bs l D : Nat) (ss : List PI) (W : World) : Prop where
  box : ∃ v, W.heap[Bs]? = some (.cells #[v] 23 (0, 0)) ∧ W.ownsRow w0.heap.size 50 2 v ss.length (pairCells ss)
  L : W.heap[l]? = some (.loop (apRec fn sv Bs D .ready none))
  K : W.heap[D]? = some (.deferred (some []))
  below : Below w0.heap.size w0 W
theorem grownBy_putObj (W : World) (l : Nat) (o : Obj) : W.grownBy (W.putObj l o) (some l) :=
  ⟨rfl, rfl, rfl, by simp, fun k _ hk => World.putObj_heap_other (fun e => hk (by rw [e]))⟩
theorem grownBy_setCell0 (W : World) (b : Nat) (v : Value) : W.grownBy (W.setCell ⟨b, 0, none⟩ v) (some b) :=
  ⟨rfl, rfl, rfl, by simp [World.setCell], fun k _ hk => Below.heap_setCell _ _ _ k (fun e => hk (by rw [e]))⟩
theorem ownsRow_ne {W : World} {base : Nat} {e : TypeId} {size : Nat} {v : Value} {k : Nat} {xs : List Value} (h : W.ownsRow base e size v k xs) {j : Nat} {o : Obj} (hj : W.heap[j]? = some o) (hno : ∀ cur, o ≠ .cells cur e (0, 0)) :
    v.ownBlock = none ∨ v.ownBlock ≠ some j := by
  rcases h.2 with ⟨rfl, _⟩ | ⟨g, cap, cur, rfl, _, hgb, _⟩
  · exact .inl rfl
  · refine .inr fun e' => ?_
    have : g = j := by simpa [Value.ownBlock] using e'
    subst this; rw [hgb] at hj; cases hj; exact hno cur rfl
theorem cell_of_box {W : World} {B : Nat} {v : Value} {t : TypeId} (h : W.heap[B]? = some (.cells #[v] t (0, 0))) : W.cell? ⟨B, 0, none⟩ = some v ∧ W.frozen? ⟨B, 0, none⟩ = false := by
  constructor <;> simp [World.cell?, World.frozen?, h]
theorem heap_setCell_box {W : World} {B : Nat} {v : Value} {t : TypeId} (v' : Value) (h : W.heap[B]? = some (.cells #[v] t (0, 0))) : (W.setCell ⟨B, 0, none⟩ v').heap[B]? = some (.cells #[v'] t (0, 0)) := by
  obtain ⟨hlt, hk⟩ := Array.getElem?_eq_some_iff.1 h
  show (W.heap.modify B _)[B]? = _
  rw [Array.getElem?_eq_getElem (by rw [Array.size_modify]; exact hlt), Array.getElem_modify_self, hk]
  rfl
theorem ownsRow_abides {W W' : World} {base : Nat} {e : TypeId} {size : Nat} {v : Value} {k : Nat} {xs : List Value} {row : Option Nat} (h : W.ownsRow base e size v k xs) (hg : W.grownBy W' row) (hr : ∀ r, row = some r → ∃ o : Obj, W.heap[r]? = some o ∧ o.isWalk = true) : W'.ownsRow base e size v k xs := by
  refine h.kept hg ?_
  cases row with
  | none =>
    cases hv : v.ownBlock with
    | none => exact .inl rfl
    | some k => exact .inr (by simp)
  | some r =>
    obtain ⟨o, ho, hw⟩ := hr r rfl
    exact ownsRow_ne h ho (fun cur e' => by subst e'; simp [Obj.isWalk] at hw)
theorem ap_abides (w0 : World) (fn : FuncId) (sv : Value) (Bs l D B : Nat) (hB : w0.heap.size ≤ B) : AbidesFrom B (PAt w0 fn sv Bs l D) := fun s W W' row h hg hrow => by
  have hrow' : ∀ r, row = some r → ∃ o : Obj, W.heap[r]? = some o ∧ o.isWalk = true := fun r e => (hrow r e).2
  obtain ⟨v, hv, hr⟩ := h.box
  exact ⟨⟨v, (grownBy_keeps hg hrow' hv rfl).trans hv, ownsRow_abides hr hg hrow'⟩, (grownBy_keeps hg hrow' h.L rfl).trans h.L, (grownBy_keeps hg hrow' h.K rfl).trans h.K,
    h.below.grown hg h.below.size (fun k e => Nat.le_trans hB (hrow k e).1)⟩
theorem heap_more {W : World} {o x : Obj} {k : Nat} (h : W.heap[k]? = some x) : (W.alloc o).heap[k]? = some x :=
  (Below.heap_alloc _ _ k (Array.getElem?_eq_some_iff.1 h).1).trans h
theorem PAt.alloc {w0 : World} {fn : FuncId} {sv : Value} {Bs l D : Nat} {ss : List PI} {W : World} (h : PAt w0 fn sv Bs l D ss W) (o : Obj) : PAt w0 fn sv Bs l D ss (W.alloc o) := by
  obtain ⟨v, hv, hr⟩ := h.box
  exact ⟨⟨v, heap_more hv, hr.alloc _⟩, heap_more h.L, heap_more h.K, h.below.alloc h.below.size _⟩
theorem info50 : (Tryz.prog.info? 50).map (fun i => (i.zero, i.size, i.bytes)) = some (some (.agg #[.int .i64 0, .int .i64 0]), 2, 16) := by kernel_rfl
theorem cells_pair_new (w : World) (x y : Value) (t : TypeId) : ∀ j u, [x, y][j]? = some u → (w.alloc (.cells #[x, y] t)).cell? ((⟨w.heap.size, 0, none⟩ : Addr).add j) = some u := by
  intro j u hu
  match j, hu with
  | 0, hu => simp at hu; subst hu; simp [Addr.add]
  | 1, hu => simp at hu; subst hu; simp [Addr.add]
set_option maxHeartbeats 4000000 in
theorem pair_yield (F : Fence) (m : Nat) (w0 : World) (fn : FuncId) (hfn : F.fn fn) (sv : Value) (Bs l D : Nat) (hBl : Bs ≠ l) (hDl : D ≠ l) (hDB : D ≠ Bs) (h0B : w0.heap.size ≤ Bs) (h0l : w0.heap.size ≤ l)
    (N : Nat) (hN : N ≤ 4398046511104) (ss : List PI) (x : PI) (W : World) (h : PAt w0 fn sv Bs l D ss W) (hlen : ss.length < N) :
    YieldAt F m Tryz.prog l #[encP x] W fun e W' => e = .returned (.bool true) ∧ PAt w0 fn sv Bs l D (ss ++ [x]) W' ∧ KeepsWalks W W' := by
  obtain ⟨i0, hi, hz0, hz1, hz2⟩ := info_parts info50
  refine ⟨fn, #[.slice none 0 0, sv, .pointer (some ⟨Bs, 0, none⟩), undef, .slice none 0 0, undef, sv, encP x, undef, undef, undef, undef, undef], apAssign, apBody, by simpa [apRec] using run_yield (P := Tryz.prog) (args := #[encP x]) h.L rfl, roundIn_of_wpIn hfn ?_⟩
  obtain ⟨xa, xb⟩ := x
  unfold encP
  obtain ⟨Wa, hWa⟩ : ∃ Wa, W.alloc (.cells #[.int .i64 xa, .int .i64 xb] 50) = Wa := ⟨_, rfl⟩
  have hA : PAt w0 fn sv Bs l D ss Wa := by rw [← hWa]; exact h.alloc _
  have hkA : KeepsWalks W Wa := by rw [← hWa]; exact KeepsWalks.alloc _ _
  have hnA : Wa.heap[W.heap.size]? = some (.cells #[.int .i64 xa, .int .i64 xb] 50 (0, 0)) := by rw [← hWa]; exact World.alloc_heap_new W _
  have hnl : W.heap.size ≠ l := fun e => by have := (Array.getElem?_eq_some_iff.1 h.L).1; omega
  clear h
  have h := hA
  clear hA
  obtain ⟨v, hv, hrow⟩ := h.box
  have hl : l < Wa.heap.size := (Array.getElem?_eq_some_iff.1 h.L).1
  have hbr := run_beginRound (P := Tryz.prog) h.L rfl
  obtain ⟨W2, hW2⟩ : ∃ W2, Wa.putObj l (.loop { apRec fn sv Bs D .ready none with state := .busy }) = W2 := ⟨_, rfl⟩
  rw [hW2] at hbr
  have hg2 : Wa.grownBy W2 (some l) := by rw [← hW2]; exact grownBy_putObj _ _ _
  have hk2 : KeepsWalks Wa W2 := by rw [← hW2]; exact KeepsWalks.putObj _ h.L rfl
  have hn2 : W2.heap[W.heap.size]? = some (.cells #[.int .i64 xa, .int .i64 xb] 50 (0, 0)) := by rw [← hW2]; exact (World.putObj_heap_other hnl).trans hnA
  have hv2 : W2.heap[Bs]? = some (.cells #[v] 23 (0, 0)) := by rw [← hW2]; exact (World.putObj_heap_other hBl).trans hv
  have hK2 : W2.heap[D]? = some (.deferred (some [])) := by rw [← hW2]; exact (World.putObj_heap_other hDl).trans h.K
  have hL2 : W2.heap[l]? = some (.loop { apRec fn sv Bs D .ready none with state := .busy }) := by rw [← hW2]; exact World.putObj_heap_same hl
  have hrow2 : W2.ownsRow w0.heap.size 50 2 v ss.length (pairCells ss) := hrow.kept hg2 (ownsRow_ne hrow h.L (fun cur e => by cases e))
  have hb2 : Below w0.heap.size w0 W2 := h.below.grown hg2 h.below.size (fun k e => by cases e; exact h0l)
  obtain ⟨hc2, hf2⟩ := cell_of_box hv2
  have hx0 : W2.cell? ⟨W.heap.size, 0, none⟩ = some (.int .i64 xa) := (cell_at hn2 0).1.trans rfl
  have hx1 : W2.cell? ⟨W.heap.size, 1, none⟩ = some (.int .i64 xb) := (cell_at hn2 1).1.trans rfl
  have hBlt : Bs < W2.heap.size := (Array.getElem?_eq_some_iff.1 hv2).1
  have hl2 : l < W2.heap.size := (Array.getElem?_eq_some_iff.1 hL2).1
  have hDlt : D < W2.heap.size := (Array.getElem?_eq_some_iff.1 hK2).1
  have ne_of : ∀ {j : Nat} {o : Obj}, W2.heap[j]? = some o → (∀ cur, o ≠ .cells cur 50 (0, 0)) → some j ≠ v.ownBlock := fun hj hno => by
    rcases ownsRow_ne hrow2 hj hno with e | e
    · rw [e]; simp
    · exact fun e' => e e'.symm
  have HK2 := Lib.hid hK2
  have HL2 := Lib.hid hL2
  have HA := Lib.hid hWa
  clear hW2 hK2 hL2 hWa hn2 hnA hnl
  unfold apAssign
  gi_wp2_with (rw [Oper.semAt_eq _ _ _ (fun c h => by cases h)]; go_simp; try go_bits)
  rw [HA.out]
  refine ⟨W2, hbr, ?_⟩
  unfold apBody
  gi_wp2_with (first
    | (gi_at_builtin; refine wpListIn_append_own _ rfl _ _ 23 rfl w0.heap.size 50 i0 (.agg #[.int .i64 0, .int .i64 0]) 2 16 Tryz.underlying23 hi hz0 hz1 hz2 rfl (by decide) _ _ _ rfl (hrow2.alloc _) ⟨W2.heap.size, 0, none⟩ 1 1 [.int .i64 xa, .int .i64 xb] rfl rfl (cells_pair_new _ _ _ _) (by simp [Value.oneCell']) (by unfold maxLen; omega) (by omega) (by have := hb2.size; simp; omega) ?_; intro v' w3 hown' hg3 hnil3
       have hv3 : w3.heap[Bs]? = some (.cells #[v] 23 (0, 0)) := (hg3.block Bs (by simp; omega) (ne_of hv2 (fun cur e => by cases e))).trans ((Below.heap_alloc _ _ Bs hBlt).trans hv2)
       obtain ⟨hc3, hf3⟩ := cell_of_box hv3
       obtain ⟨g', cap', cur', rfl, hbase', hgb', hr1, hr2, hr3, hr4⟩ : ∃ g' cap' cur', v' = .slice (some ⟨g', 0, none⟩) (ss.length + 1) cap' ∧ w0.heap.size ≤ g' ∧ w3.heap[g']? = some (.cells cur' 50 (0, 0)) ∧ ss.length + 1 ≤ cap' ∧ cap' ≤ maxLen ∧ cur'.size = cap' * 2 ∧ cur'.toList.take ((ss.length + 1) * 2) = pairCells ss ++ [.int .i64 xa, .int .i64 xb] := by
         rcases hown'.2 with ⟨_, h0⟩ | h'
         · exact absurd h0 (by omega)
         · exact h'
       go_frame)
    | (rw [Oper.semAt_eq _ _ _ (fun c h => by cases h)]; go_simp; try go_bits))
  have hg3' : (W2.alloc (.cells #[.int .i64 xa, .int .i64 xb] 50)).grownBy w3 v.ownBlock := hg3
  have kept3 : ∀ {j : Nat} {o : Obj}, j < W2.heap.size → W2.heap[j]? = some o → (∀ cur, o ≠ .cells cur 50 (0, 0)) → w3.heap[j]? = some o := fun hj ho hno => (hg3'.block _ (by simp; omega) (ne_of ho hno)).trans ((Below.heap_alloc _ _ _ hj).trans ho)
  have hL3 := kept3 hl2 HL2.out (fun cur e => by cases e)
  have hK3 := kept3 hDlt HK2.out (fun cur e => by cases e)
  have hk3 : KeepsWalks W w3 := ((hkA.trans hk2).trans (KeepsWalks.alloc _ _)).trans (KeepsWalks.of_grownBy hg3' (fun r o hr ho => by
    rcases (hrow2.alloc (.cells #[.int .i64 xa, .int .i64 xb] 50)).2 with ⟨rfl, _⟩ | ⟨g, cap, cur, rfl, _, hgb, _⟩
    · simp [Value.ownBlock] at hr
    · have : g = r := by simpa [Value.ownBlock] using hr
      subst this
      rw [hgb] at ho
      cases ho
      rfl))
  obtain ⟨w4, hw4⟩ : ∃ w4, w3.setCell ⟨Bs, 0, none⟩ (.slice (some ⟨g', 0, none⟩) (ss.length + 1) cap') = w4 := ⟨_, rfl⟩
  rw [hw4]
  have hg4 : w3.grownBy w4 (some Bs) := by rw [← hw4]; exact grownBy_setCell0 _ _ _
  have hk4 : KeepsWalks W w4 := hk3.trans (by rw [← hw4]; exact KeepsWalks.setCell _ _ _)
  have hv4 : w4.heap[Bs]? = some (.cells #[.slice (some ⟨g', 0, none⟩) (ss.length + 1) cap'] 23 (0, 0)) := by rw [← hw4]; exact heap_setCell_box _ hv3
  have kept4 : ∀ {j : Nat} {o : Obj}, w3.heap[j]? = some o → j ≠ Bs → w4.heap[j]? = some o := fun ho hne => (hg4.block _ (Array.getElem?_eq_some_iff.1 ho).1 (fun e => hne (by cases e; rfl))).trans ho
  have hL4 := kept4 hL3 (fun e => hBl e.symm)
  have hK4 := kept4 hK3 hDB
  have hrow4 := hown'.kept hg4 (ownsRow_ne hown' hv3 (fun cur e => by cases e))
  have hl4 : l < w4.heap.size := (Array.getElem?_eq_some_iff.1 hL4).1
  have hb3 : Below w0.heap.size w0 w3 := (hb2.alloc hb2.size _).grown hg3' (by have := hb2.size; simp; omega) (fun k e => (hrow2.lt k e).1)
  have hb4 : Below w0.heap.size w0 w4 := hb3.grown hg4 hb3.size (fun k e => by cases e; exact h0B)
  clear hw4
  refine ⟨_, _, run_endRound none hL4, rfl, ⟨⟨_, (World.putObj_heap_other hBl).trans hv4, ?_⟩, World.putObj_heap_same hl4, (World.putObj_heap_other hDl).trans hK4, hb4.grown (grownBy_putObj _ _ _) hb4.size (fun k e => by cases e; exact h0l)⟩, hk4.trans (KeepsWalks.putObj _ hL4 rfl)⟩
  have := hrow4.kept (grownBy_putObj w4 l (.loop { { apRec fn sv Bs D .ready none with state := .busy } with state := if (none : Option Code).isNone then .ready else .done, pending := none })) (ownsRow_ne hrow4 hL4 (fun cur e => by cases e))
  rw [pairCells_more, List.length_append, List.length_singleton]
  simpa using this

set_option maxHeartbeats 4000000 in
/-- slices.AppendSeq(nil, seq), seq a value that gives pairs. -/
theorem append_in (F : Fence) (n : Nat) (h126 : F.fn 126) (hro : F.round = none) (hn : 2 ≤ n) (g : Nat) (lb : Array Value) (hFg : F.fn g) (eg : ∀ args w, (callFunc g args).run Tryz.prog w = .ok (.enter g args) w)
    (S : List PI → Prop) (N : Nat) (hN : N ≤ 4398046511104) (w : World) (hseq : SeqGives F (n - 1) Tryz.prog g lb encP S N w) :
    CallsIn F n Tryz.prog 126 #[.slice none 0 0, .func (.func g) #[] lb] w fun e w' => ∃ (v : Value) (ss : List PI), e = .returned v ∧ S ss ∧ w'.ownsRow w.heap.size 50 2 v ss.length (pairCells ss) ∧ Below w.heap.size w w' := by
  have h1 : 1 ≤ n := by omega
  refine callsIn_of_wp_marks Tryz.func126 rfl h126 ?_ hro
  simp only [Tryz.ntmps126, List.size_toArray, List.length_cons, List.length_nil, Nat.reduceAdd, Nat.reduceSub, Array.replicate_succ, Array.replicate_zero, List.push_toArray, List.append_toArray, List.nil_append, List.cons_append]
  gi_wp2
  refine wpIn_rangeFunc ?_
  intro fn hfn
  rw [hro]
  obtain ⟨W0, hW0⟩ : ∃ W0, w.alloc (.cells #[.slice none 0 0] 23) = W0 := ⟨_, rfl⟩
  have hs0 : W0.heap.size = w.heap.size + 1 := by rw [← hW0]; simp
  have hv0 : W0.heap[w.heap.size]? = some (.cells #[.slice none 0 0] 23 (0, 0)) := by rw [← hW0]; exact World.alloc_heap_new w _
  have hb0 : Below w.heap.size w W0 := by rw [← hW0]; exact (Below.refl _ w).alloc (Nat.le_refl _) _
  rw [hW0]
  obtain ⟨W1, hW1⟩ : ∃ W1, (W0.alloc (.deferred (some []))).alloc (.loop (apRec fn (.func (.func g) #[] lb) w.heap.size W0.heap.size .ready none)) = W1 := ⟨_, rfl⟩
  have hold : ∀ k, k < W0.heap.size → W1.heap[k]? = W0.heap[k]? := fun k hk => by
    rw [← hW1]; exact (Below.heap_alloc _ _ k (by simp; omega)).trans (Below.heap_alloc _ _ k hk)
  have hb1 : Below w.heap.size w W1 := by rw [← hW1]; exact (hb0.alloc hb0.size _).alloc (by have := hb0.size; simp; omega) _
  have hs1 : W1.heap.size = W0.heap.size + 2 := by rw [← hW1]; simp
  have hM : PAt w fn (.func (.func g) #[] lb) w.heap.size (W0.heap.size + 1) W0.heap.size [] W1 :=
    ⟨⟨_, (hold w.heap.size (by omega)).trans hv0, ⟨rfl, .inl ⟨rfl, rfl⟩⟩⟩,
     by rw [← hW1]; have := World.alloc_heap_new (W0.alloc (.deferred (some []))) (.loop (apRec fn (.func (.func g) #[] lb) w.heap.size W0.heap.size .ready none)); rwa [World.size_alloc] at this,
     by rw [← hW1]; exact (Below.heap_alloc _ _ _ (by simp)).trans (World.alloc_heap_new W0 _), hb1⟩
  refine ⟨W0.heap.size + 1, [{ target := .collected W0.heap.size, args := #[] }], W1, { target := .fn (.func g) lb, args := #[.func (.yield (W0.heap.size + 1)) #[] #[]] }, W1, g,
    #[.func (.yield (W0.heap.size + 1)) #[] #[]] ++ lb, W1, ?_, ?_, ?_, ?_, fun _ => h1, ?_⟩
  · rw [← hW1]; exact run_enterLoop_outer _ _ _ _ _
  · simp [resolve, go_sem]
  · intro f' hf'; simp [Target.leads] at hf'; subst hf'; exact hFg
  · simp [invoke, go_sem, eg]
  · refine (hseq (W0.heap.size + 1) (PAt w fn (.func (.func g) #[] lb) w.heap.size (W0.heap.size + 1) W0.heap.size) W1 hb1 (ap_abides _ _ _ _ _ _ _ hb1.size)
      (fun pre x W hJ hl => pair_yield F (n - 1 - 1) w fn hfn _ w.heap.size (W0.heap.size + 1) W0.heap.size (by omega) (by omega) (by omega) (Nat.le_refl _) (by omega) N hN pre x W hJ hl) hM).mono ?_
    rintro e W2 ⟨⟨v0, rfl⟩, ss, hS, h2⟩
    obtain ⟨v, hv, hrow⟩ := h2.box
    have hend := run_endLoop (P := Tryz.prog) h2.L (by simp [apRec])
    obtain ⟨W3, hW3⟩ : ∃ W3, W2.putObj (W0.heap.size + 1) (.loop { apRec fn (.func (.func g) #[] lb) w.heap.size W0.heap.size .ready none with state := .exhausted }) = W3 := ⟨_, rfl⟩
    rw [hW3] at hend
    have hg3 : W2.grownBy W3 (some (W0.heap.size + 1)) := by rw [← hW3]; exact grownBy_putObj _ _ _
    have hv3 : W3.heap[w.heap.size]? = some (.cells #[v] 23 (0, 0)) := by rw [← hW3]; exact (World.putObj_heap_other (by omega)).trans hv
    have hK3 : W3.heap[W0.heap.size]? = some (.deferred (some [])) := by rw [← hW3]; exact (World.putObj_heap_other (by omega)).trans h2.K
    have hrow3 := hrow.kept hg3 (ownsRow_ne hrow h2.L (fun cur e => by cases e))
    have hb3 : Below w.heap.size w W3 := h2.below.grown hg3 h2.below.size (fun k e => by cases e; omega)
    obtain ⟨hc3, hf3⟩ := cell_of_box hv3
    clear hW3
    refine ⟨none, W3, hend, ?_⟩
    gi_wp2
    rw [← hs0]
    refine ⟨by simp, .inl ⟨_, _, rfl, run_takeDeferred hK3, ?_⟩⟩
    exact ⟨_, results_tmp rfl _ _ _, v, ss, rfl, hS, hrow3.kept (grownBy_putObj _ _ _) (ownsRow_ne hrow3 hK3 (fun cur e => by cases e)), hb3.grown (grownBy_putObj _ _ _) hb3.size (fun k e => by cases e; omega)⟩
/-- What the keys of a set are, on a list. -/
def KeysOf (f : PI → Bool) (ss : List PI) : Prop := ss.Nodup ∧ (∀ x ∈ ss, PairOK x) ∧ ∀ x, PairOK x → (x ∈ ss ↔ f x = true)
set_option maxHeartbeats 4000000 in
/-- slices.Collect of the keys of a set of pairs. -/
theorem collect_calls {w : World} {Bm b g : Nat} {f : PI → Bool} (hm : w.cell? ⟨Bm, 0, none⟩ = some (.map (some b))) (hs : SetIs sP w b g f) (hg : g ≤ 4398046511104) :
    Calls Tryz.prog 116 #[.func (.func 118) #[] #[.pointer (some ⟨Bm, 0, none⟩)]] w fun e w' => ∃ (v : Value) (ss : List PI), e = .returned v ∧ (KeysOf f ss ∧ ss.length ≤ g) ∧ w'.ownsRow w.heap.size 50 2 v ss.length (pairCells ss) ∧ Below w.heap.size w w' := by
  obtain ⟨D0, hown, hD⟩ := hs
  have hBm : Bm < w.heap.size := World.block_lt_of_cell? _ _ hm
  have hsz := hown.size_le
  have hseq : SeqGives Fence.wide 5 Tryz.prog 118 #[.pointer (some ⟨Bm, 0, none⟩)] encP (KeysOf f) g w := fun l J W hW hJ hY h0 => by
    have hown' : W.ownsMap Tryz.prog 50 unitElem b g D0 := by
      have hbl := hown.lt
      obtain ⟨es, clock, hb, Ft, hs, hD⟩ := hown
      exact ⟨es, clock, (hW.block b hbl).trans hb, Ft, hs, hD⟩
    refine (keys1_in Fence.wide 5 trivial rfl (by omega) l Bm b g D0 g hsz J hY W hJ ((hW.cell (p := ⟨Bm, 0, none⟩) hBm).trans hm) hown' h0).mono ?_
    rintro e w' ⟨hv, ss, h1, h2, h3, h4⟩
    exact ⟨hv, ss, ⟨h1, h2, fun x hx => by rw [h3 x hx, hD x hx]⟩, h4⟩
  have h := callsIn_wide.1 (append_in Fence.wide 6 trivial rfl (by omega) 118 #[.pointer (some ⟨Bm, 0, none⟩)] trivial (enters_of Tryz.func118 (by kernel_rfl) rfl) _ g hg w hseq.bounded)
  clear hseq hown hD hsz hm
  go_enter Tryz.func116, Tryz.ntmps116
  go_wp2_with fail
  refine h.mono ?_
  clear h
  rintro e w' ⟨v, ss, rfl, hS, hr, hb⟩
  have HS := Aside0.mk hS
  have HR := Aside0.mk hr
  have HB := Aside0.mk hb
  clear hS hr hb
  go_wp2_with fail
  go_ret
  exact ⟨v, ss, rfl, HS.out, HR.out, HB.out⟩
end Go.Proofs.YtcfocbfocemapaaGreat.IterB
