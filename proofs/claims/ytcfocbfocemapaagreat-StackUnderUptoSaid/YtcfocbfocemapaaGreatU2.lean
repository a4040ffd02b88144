/- Sets, CntM. -/
import Derived.Test.YtcfocbfocemapaaGreatU0
import Derived.Test.YtcfocbfocemapaaGreatPStackPlaysx0
import Derived.MapViews
import Derived.DeepKeys4
import Derived.Lib.SmallJoins
import Derived.ChangeSame
import Derived.ShutString
namespace Go.Proofs.YtcfocbfocemapaaGreat.Sets
open Go.RowKit Go.Maps Go.ChangeShapes Go.WideShapes Go.Joins Go.Proofs.YtcfocbfocemapaaGreat.Sep Go.Proofs.YtcfocbfocemapaaGreat.Mem Go.Proofs.YtcfocbfocemapaaGreat.PStackPlays
open Go.Proofs.YtcfocbfocemapaaGreatW.PrintWords (Aside0 Drawn0 own_move)
set_option linter.unusedVariables false
set_option linter.unusedSectionVars false
set_option maxRecDepth 100000

/-- A kind of set. -/
structure SK (κ : Type) where
  T : TypeId
  K : TypeId
  ht : Tryz.prog.underlying T = some (.map K 149)
  law : Keyed Tryz.prog K
  enc : κ → Value
  ok : κ → Prop
  reads : ∀ k, ok k → ∃ l, keyOf Tryz.prog K (enc k) = some l
  inj : ∀ a b, enc a = enc b → a = b
theorem zero149 (w : World) : (zeroValue 149).run Tryz.prog w = .ok (.agg #[]) w := by kernel_rfl
section
variable {κ : Type} [DecidableEq κ] (m : SK κ)
noncomputable def SK.key (k : κ) : Lit := (keyOf Tryz.prog m.K (m.enc k)).getD (.bool false)
theorem SK.hkey {k : κ} (h : m.ok k) : keyOf Tryz.prog m.K (m.enc k) = some (m.key k) := by
  obtain ⟨l, hl⟩ := m.reads k h
  unfold SK.key
  rw [hl]
  rfl
theorem SK.key_inj {a b : κ} (ha : m.ok a) (hb : m.ok b) (h : m.key a = m.key b) : a = b := by
  have h1 := m.hkey ha
  rw [h] at h1
  exact m.inj _ _ (m.law.inj h1 (m.hkey hb))
theorem SK.isKey {k : κ} (h : m.ok k) : WideAt.IsKeyLit (m.key k) := m.law.key (v := m.enc k) (l := m.key k) (m.hkey h)
def upd (f : κ → Bool) (s : κ) : κ → Bool := fun t => decide (t = s) || f t
/-- Block b is a set of this kind (its entries counted up to g): what it holds is f. -/
def SetIs (w : World) (b g : Nat) (f : κ → Bool) : Prop :=
  ∃ D : DataW Unit, w.ownsMap Tryz.prog m.K unitElem b g D ∧ ∀ s, m.ok s → Maps.has D (m.key s) = f s
variable {m} {w w' : World} {b g : Nat} {f : κ → Bool} {s : κ}
theorem SetIs.lt (h : SetIs m w b g f) : b < w.heap.size := by
  obtain ⟨D, h, _⟩ := h
  exact h.lt
theorem SetIs.move (h : SetIs m w b g f) (hm : w'.heap[b]? = w.heap[b]?) : SetIs m w' b g f := by
  obtain ⟨D, ⟨es, clock, hb, r⟩, hf⟩ := h
  exact ⟨D, ⟨es, clock, hm.trans hb, r⟩, hf⟩
theorem SetIs.more {g' : Nat} (h : SetIs m w b g f) (hg : g ≤ g') : SetIs m w b g' f := by
  obtain ⟨D, h, hf⟩ := h
  exact ⟨D, h.mono hg, hf⟩
theorem SetIs.made (w : World) : SetIs m (w.alloc (.map #[] 0)) w.heap.size 0 (fun _ => false) :=
  ⟨.map [], World.ownsMap_made _ _ _ _, fun _ _ => rfl⟩
/-- What 'v, ok := m[s]' gives. -/
theorem SetIs.look (h : SetIs m w b g f) (hs : m.ok s) :
    (Instr.lookup m.T (.map (some b)) (m.enc s) true).run Tryz.prog w = .ok (.tuple #[.agg #[], .bool (f s)]) w := by
  obtain ⟨D, hown, hD⟩ := h
  obtain ⟨v, ps, hrun, hv⟩ := hown.look_ok m.law m.ht (zero149 _) (unitElem_mk (H := Unit)) (m.hkey hs)
  rw [hrun, hD s hs, (unitElem_inv hv).1]
theorem put_is {D : DataW Unit} (hm : IsMap D) (hf : ∀ s, m.ok s → Maps.has D (m.key s) = f s) (hs : m.ok s) : ∀ t, m.ok t → Maps.has (D.put (m.key s) (.agg [])) (m.key t) = upd f s t := by
  intro t ht
  unfold upd
  by_cases e : t = s
  · subst e
    rw [has_put_same hm (m.isKey hs)]
    simp
  · have hne : m.key t ≠ m.key s := fun h => e (m.key_inj ht hs h)
    rw [has_put_other hne, hf t ht]
    simp [e]
variable {ops : Array Oper} {rest : List Oper} {o : Oper} {a : Act} {Q : Exit → Act → World → Prop}
/-- 'm[s] = struct{}{}' at the operation. -/
theorem wp_put (hgd : o.guard = none) (mo x vo : Operand) (hop : o.op = Op.mapUpdate m.T mo x vo)
    (hm : a.eval mo = .map (some b)) (hx : a.eval x = m.enc s) (hv : a.eval vo = .agg #[]) (h : SetIs m w b g f) (hs : m.ok s) (hg : g < maxLen)
    (hK : ∀ w', SetIs m w' b (g + 1) (upd f s) → w.grownBy w' (some b) → wpList Tryz.prog ops Q rest (a.put o.dst undef) w') : wpList Tryz.prog ops Q (o :: rest) a w := by
  obtain ⟨D, hown, hD⟩ := h
  refine wpList_mapUpdate_own w hgd mo x vo m.T hop m.K 149 m.law m.ht unitElem b g D hm hown hg _ _ _ hx hv (m.hkey hs) (.agg []) [] unitElem_mk ?_
  intro w' h1 h2
  exact hK w' ⟨_, h1, put_is hown.isMap hD hs⟩ h2
/-- A set. -/
noncomputable def setR (m : SK κ) (b g : Nat) (f : κ → Bool) : Res :=
  ⟨fun w fp => SetIs m w b g f ∧ fp b, fun h hm => ⟨h.1.move (hm b h.2), h.2⟩, fun h hm => ⟨h.1, hm b h.2⟩, fun {w _} h => ⟨h.1, h.2, h.1.lt⟩⟩
theorem set_at {W : World} {rs : List Res} (h : Sep W w (setR m b g f :: rs)) : SetIs m w b g f := by
  obtain ⟨F, hF, _⟩ := h.head
  exact hF.1
theorem set_fresh {W : World} {rs : List Res} (h : Sep W w rs) (m : SK κ) : Sep W (w.alloc (.map #[] 0)) (setR m w.heap.size 0 (fun _ => false) :: rs) :=
  h.fresh (f := fun k => w.heap.size ≤ k) (Turns.alloc _ w _) ⟨SetIs.made w, Nat.le_refl _⟩ (fun _ hk => hk)
theorem set_turn {W : World} {rs : List Res} {g' : Nat} {f' : κ → Bool} (h : Sep W w (setR m b g f :: rs)) (h1 : SetIs m w' b g' f') (h2 : w.grownBy w' (some b)) : Sep W w' (setR m b g' f' :: rs) :=
  h.turn fun fp ⟨_, hb⟩ => ⟨⟨h1, .inl hb⟩, Turns.of_grown h2 (fun k hk => by cases hk; exact hb)⟩
end

/-! ### the kinds -/
def IntOK (x : Int) : Prop := (Lit.int .i64 x).wf = true
instance (x : Int) : Decidable (IntOK x) := by unfold IntOK; infer_instance
noncomputable def sI : SK Int where
  T := 156
  K := 3
  ht := Tryz.underlying156
  law := int_keyed Tryz.underlying3
  enc n := .int .i64 n
  ok n := IntOK n
  reads n hn := ⟨_, keyOf_int_mk Tryz.underlying3 hn⟩
  inj a b h := by
    injection h with _ h
theorem laidOut : laidOutB Tryz.prog = true := by kernel_rfl
theorem row50 : (50 : TypeId) < Tryz.prog.types.size := of_decide_eq_true (by kernel_rfl)
theorem wide50 : (match Tryz.prog.underlying 50 with | some (.array _ _) | some (.struct _) => true | _ => false) = true := by rw [Tryz.underlying50]
theorem deep50 : Tryz.prog.keyTypeAt (Tryz.prog.types.size + 1) 50 = true := by kernel_rfl
theorem law50 : Go.WideMaps.KeyLaw Tryz.prog 50 := deep_law_laid laidOut (m := 2) (by omega) row50 (by kernel_rfl) wide50
abbrev noEnc : TypeId × Value → Unit := fun _ => ()
theorem trodI (w : World) {n : Int} (h : (Lit.int .i64 n).wf = true) : ∃ k, DataW.trod noEnc Tryz.prog w 0 (fun _ => false) true k 3 [.int .i64 n] = some (.lit (.int .i64 n), []) := ⟨1, trod_int_mk 0 Tryz.underlying3 h⟩
theorem formed50 {c0 c1 : Value} : (Value.agg #[c0, c1]).formed Tryz.prog 50 = true := by
  have : Tryz.prog.cellsOf 50 = 2 := by kernel_rfl
  simp [Value.formed, Tryz.underlying50, this]
theorem reads50 {a b : Int} (ha : (Lit.int .i64 a).wf = true) (hb : (Lit.int .i64 b).wf = true) : ∃ l, keyOf Tryz.prog 50 (.agg #[.int .i64 a, .int .i64 b]) = some l :=
  ⟨_, (keyOf_asKey deep50 wide50 formed50 (shut_agg2 (w := default) Tryz.underlying50 (by kernel_rfl) (by kernel_rfl) (trodI default ha) (trodI default hb))).1⟩
/-- Sets of pairs. -/
noncomputable def sP : SK (Int × Int) where
  T := 145
  K := 50
  ht := Tryz.underlying145
  law := Keyed.of_law law50
  enc x := .agg #[.int .i64 x.1, .int .i64 x.2]
  ok x := IntOK x.1 ∧ IntOK x.2
  reads x hx := reads50 hx.1 hx.2
  inj a b h := by
    obtain ⟨a1, a2⟩ := a
    obtain ⟨b1, b2⟩ := b
    simp only [Value.agg.injEq, Array.mk.injEq, List.cons.injEq, Value.int.injEq, true_and, and_true] at h
    simp only [Prod.mk.injEq]
    exact h
end Go.Proofs.YtcfocbfocemapaaGreat.Sets

namespace Go.Proofs.YtcfocbfocemapaaGreat.CntM
open Go.RowKit Go.Maps Go.Lib Go.Proofs.YtcfocbfocemapaaGreat.Sep Go.Proofs.YtcfocbfocemapaaGreat.Mem Go.Proofs.YtcfocbfocemapaaGreat.Sets Go.Proofs.YtcfocbfocemapaaGreat.PStackPlays
open Go.Proofs.YtcfocbfocemapaaGreatW.PrintWords Go.Proofs.YtcfocbfocemapaaGreatW.PrintLast Go.Proofs.YtcfocbfocemapaaGreatW.PrintMore
set_option linter.unusedVariables false
set_option linter.unusedSimpArgs false
set_option maxRecDepth 100000

theorem zero3 (w : World) : (zeroValue 3).run Tryz.prog w = .ok (.int .i64 0) w := by kernel_rfl
theorem key3 : Keyed Tryz.prog 3 := int_keyed Tryz.underlying3
def CntD (w : World) (b g : Nat) (D : DataW Unit) : Prop := w.ownsMap Tryz.prog 3 (plainElem Tryz.prog 3) b g D
def CntIs (w : World) (b g : Nat) : Prop := ∃ D : DataW Unit, CntD w b g D
variable {w w' : World} {b g : Nat}
theorem CntIs.lt (h : CntIs w b g) : b < w.heap.size := by
  obtain ⟨D, h⟩ := h
  exact World.ownsMap.lt h
theorem CntIs.move (h : CntIs w b g) (hm : w'.heap[b]? = w.heap[b]?) : CntIs w' b g := by
  obtain ⟨D, ⟨es, clock, hb, r⟩⟩ := h
  exact ⟨D, ⟨es, clock, hm.trans hb, r⟩⟩
theorem CntIs.more {g' : Nat} (h : CntIs w b g) (hg : g ≤ g') : CntIs w b g' := by
  obtain ⟨D, h⟩ := h
  exact ⟨D, World.ownsMap.mono h hg⟩
theorem CntIs.made (w : World) : CntIs (w.alloc (.map #[] 0)) w.heap.size 0 := ⟨.map [], World.ownsMap_made _ _ _ _⟩
/-- What 'm[x]' gives: some number. -/
theorem CntIs.look (h : CntIs w b g) {x : Int} (hx : IntOK x) : ∃ c : Int, IntOK c ∧ (Instr.lookup 126 (.map (some b)) (.int .i64 x) false).run Tryz.prog w = .ok (.int .i64 c) w := by
  obtain ⟨D, hown⟩ := h
  obtain ⟨c, hrun, hat, hwf⟩ := World.ownsMap.lookup_int hown key3 Tryz.underlying126 Tryz.underlying3 (zero3 _) (keyOf_int_mk Tryz.underlying3 hx)
  exact ⟨c, hwf, hrun⟩
variable {ops : Array Oper} {rest : List Oper} {o : Oper} {a : Act} {Q : Exit → Act → World → Prop}
/-- 'm[x] = v' at the operation. -/
theorem wp_cput (hgd : o.guard = none) (mo x vo : Operand) (hop : o.op = Op.mapUpdate 126 mo x vo) {k v : Int}
    (hm : a.eval mo = .map (some b)) (hx : a.eval x = .int .i64 k) (hv : a.eval vo = .int .i64 v) (h : CntIs w b g) (hk : IntOK k) (hvo : IntOK v) (hg : g < maxLen)
    (hK : ∀ w', CntIs w' b (g + 1) → w.grownBy w' (some b) → wpList Tryz.prog ops Q rest (a.put o.dst undef) w') : wpList Tryz.prog ops Q (o :: rest) a w := by
  obtain ⟨D, hown⟩ := h
  refine wpList_mapUpdate_own w hgd mo x vo 126 hop 3 3 key3 Tryz.underlying126 (plainElem Tryz.prog 3) b g D hm hown hg _ _ _ hx hv (keyOf_int_mk Tryz.underlying3 hk) (.lit (.int .i64 v)) [] (plainElem_int Tryz.underlying3 hvo) ?_
  intro w' h1 h2
  exact hK w' ⟨_, h1⟩ h2
/-- 'len(m)' at the operation. -/
theorem wp_clen (hgd : o.guard = none) (mo : Operand) (hop : o.op = Op.call { callee := Callee.builtin Builtin.len, args := #[mo], argTypes := #[126] }) {D : DataW Unit} (hm : a.eval mo = .map (some b)) (h : CntD w b g D) {n : Nat} (hn : Maps.size D = n)
    (hK : wpList Tryz.prog ops Q rest (a.put o.dst (.int .i64 (n : Int))) w) : wpList Tryz.prog ops Q (o :: rest) a w := by
  refine wpList_len_own w hgd mo 126 hop 3 3 Tryz.underlying126 _ b g D hm h ?_
  rw [hn]
  exact hK
/-- Counts. -/
def cntR (b g : Nat) : Res :=
  ⟨fun w fp => CntIs w b g ∧ fp b, fun h hm => ⟨h.1.move (hm b h.2), h.2⟩, fun h hm => ⟨h.1, hm b h.2⟩, fun {w _} h => ⟨h.1, h.2, h.1.lt⟩⟩
theorem cnt_at {W : World} {rs : List Res} (h : Sep W w (cntR b g :: rs)) : CntIs w b g := by
  obtain ⟨F, hF, _⟩ := h.head
  exact hF.1
theorem cnt_fresh {W : World} {rs : List Res} (h : Sep W w rs) : Sep W (w.alloc (.map #[] 0)) (cntR w.heap.size 0 :: rs) :=
  h.fresh (f := fun k => w.heap.size ≤ k) (Turns.alloc _ w _) ⟨CntIs.made w, Nat.le_refl _⟩ (fun _ hk => hk)
theorem cnt_turn {W : World} {rs : List Res} {g' : Nat} (h : Sep W w (cntR b g :: rs)) (h1 : CntIs w' b g') (h2 : w.grownBy w' (some b)) : Sep W w' (cntR b g' :: rs) :=
  h.turn fun fp ⟨_, hb⟩ => ⟨⟨h1, .inl hb⟩, Turns.of_grown h2 (fun k hk => by cases hk; exact hb)⟩
theorem intOK_wrap (x : Int) : IntOK (wrap64 x) := WalkArith.wf_i64 (by unfold wrap64; omega)
theorem intOK_of {x : Int} (h0 : -9223372036854775808 ≤ x) (h1 : x ≤ 9223372036854775807) : IntOK x := WalkArith.wf_i64 (by omega)
end Go.Proofs.YtcfocbfocemapaaGreat.CntM
