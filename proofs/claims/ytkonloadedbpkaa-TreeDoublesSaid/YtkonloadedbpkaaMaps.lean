/- Maps to numbers in memory, as functions: keyed by strings, by numbers, by pairs. -/
import Derived.Test.YtkonloadedbpkaaSep
import Derived.MapViews
import Derived.DeepKeys4
namespace Go.Proofs.Ytkonloadedbpkaa.FMaps
open Go.RowKit Go.Maps Go.Proofs.Ytkonloadedbpkaa.Sep
open Go.Proofs.YtkonloadedbpkaaW.PrintWords (Aside0 Drawn0 own_move)
set_option linter.unusedVariables false
set_option linter.unusedSectionVars false
set_option maxRecDepth 100000

/-- A kind of map to numbers. -/
structure MK (κ : Type) where
  T : TypeId
  K : TypeId
  ht : Try.prog.underlying T = some (.map K 3)
  law : Keyed Try.prog K
  enc : κ → Value
  ok : κ → Prop
  reads : ∀ k, ok k → ∃ l, keyOf Try.prog K (enc k) = some l
  inj : ∀ a b, enc a = enc b → a = b
section
variable {κ : Type} [DecidableEq κ] (m : MK κ)
noncomputable def MK.key (k : κ) : Lit := (keyOf Try.prog m.K (m.enc k)).getD (.bool false)
set_option maxRecDepth 100000 in
theorem MK.hkey {k : κ} (h : m.ok k) : keyOf Try.prog m.K (m.enc k) = some (m.key k) := by
  obtain ⟨l, hl⟩ := m.reads k h
  unfold MK.key
  rw [hl]
  rfl
set_option maxRecDepth 100000 in
theorem MK.key_inj {a b : κ} (ha : m.ok a) (hb : m.ok b) (h : m.key a = m.key b) : a = b := by
  have h1 := m.hkey ha
  rw [h] at h1
  exact m.inj _ _ (m.law.inj h1 (m.hkey hb))
set_option maxRecDepth 100000 in
theorem MK.isKey {k : κ} (h : m.ok k) : WideAt.IsKeyLit (m.key k) := m.law.key (v := m.enc k) (l := m.key k) (m.hkey h)
def upd (f : κ → Option Nat) (s : κ) (n : Nat) : κ → Option Nat := fun t => if t = s then some n else f t
abbrev litI (n : Int) : DataW Unit := .lit (.int .i64 n)
theorem litI_inj {a b : Int} (h : litI a = litI b) : a = b := by
  injection h with h
  injection h
def numO (o : Option Nat) : Int := match o with | some n => (n : Int) | none => 0
/-- Block b is a map of this kind of n entries (counted up to g): what it holds is f. -/
def MapIs (w : World) (b g n : Nat) (f : κ → Option Nat) : Prop :=
  ∃ D : DataW Unit, w.ownsMap Try.prog m.K (plainElem Try.prog 3) b g D ∧ Maps.size D = n ∧ ∀ s, m.ok s → Maps.has D (m.key s) = (f s).isSome ∧ D.atKey (m.key s) (litI 0) = litI (numO (f s))
variable {m} {w w' : World} {b g n : Nat} {f : κ → Option Nat} {s : κ}
theorem zero3 (w : World) : (zeroValue 3).run Try.prog w = .ok (.int .i64 0) w := by kernel_rfl
theorem MapIs.lt (h : MapIs m w b g n f) : b < w.heap.size := by
  obtain ⟨D, h, _⟩ := h
  exact h.lt
theorem MapIs.move (h : MapIs m w b g n f) (hm : w'.heap[b]? = w.heap[b]?) : MapIs m w' b g n f := by
  obtain ⟨D, ⟨es, clock, hb, r⟩, hf⟩ := h
  exact ⟨D, ⟨es, clock, hm.trans hb, r⟩, hf⟩
theorem MapIs.more {g' : Nat} (h : MapIs m w b g n f) (hg : g ≤ g') : MapIs m w b g' n f := by
  obtain ⟨D, h, hf⟩ := h
  exact ⟨D, h.mono hg, hf⟩
theorem MapIs.made (w : World) : MapIs m (w.alloc (.map #[] 0)) w.heap.size 0 0 (fun _ => none) :=
  ⟨.map [], World.ownsMap_made _ _ _ _, rfl, fun _ _ => ⟨rfl, rfl⟩⟩
/-- What 'v, ok := m[s]' gives. -/
theorem MapIs.look (h : MapIs m w b g n f) (hs : m.ok s) :
    (Instr.lookup m.T (.map (some b)) (m.enc s) true).run Try.prog w = .ok (.tuple #[.int .i64 (numO (f s)), .bool (f s).isSome]) w := by
  obtain ⟨D, hown, hn, hD⟩ := h
  obtain ⟨v, ps, hrun, hv⟩ := hown.look_ok m.law m.ht (zero3 _) (plainElem_int (H := Unit) Try.underlying3 (a := 0) (q := .i64) (WalkArith.wf_i64 (by omega))) (m.hkey hs)
  obtain ⟨h1, h2⟩ := hD s hs
  rw [h2] at hv
  obtain ⟨c, rfl, hc, _⟩ := plainElem_int_inv Try.underlying3 hv
  have h3 : litI (numO (f s)) = litI c := congrArg Prod.fst hc
  rw [hrun, h1, litI_inj h3]
/-- What 'm[s]' gives. -/
theorem MapIs.look1 (h : MapIs m w b g n f) (hs : m.ok s) :
    (Instr.lookup m.T (.map (some b)) (m.enc s) false).run Try.prog w = .ok (.int .i64 (numO (f s))) w := by
  obtain ⟨D, hown, hn, hD⟩ := h
  obtain ⟨c, hrun, hat, _⟩ := hown.lookup_int m.law m.ht Try.underlying3 (zero3 _) (m.hkey hs)
  obtain ⟨h1, h2⟩ := hD s hs
  rw [h2] at hat
  rw [hrun, litI_inj hat]
theorem wf_small {n : Nat} (h : n ≤ 4611686018427387904) : (Lit.int .i64 (n : Int)).wf = true := WalkArith.wf_i64 (by omega)
theorem put_is {D : DataW Unit} (hm : IsMap D) (hf : ∀ s, m.ok s → Maps.has D (m.key s) = (f s).isSome ∧ D.atKey (m.key s) (litI 0) = litI (numO (f s))) (hs : m.ok s) (v : Nat) :
    ∀ t, m.ok t → Maps.has (D.put (m.key s) (litI (v : Int))) (m.key t) = (upd f s v t).isSome ∧ (D.put (m.key s) (litI (v : Int))).atKey (m.key t) (litI 0) = litI (numO (upd f s v t)) := by
  intro t ht
  unfold upd
  by_cases e : t = s
  · subst e
    rw [if_pos rfl]
    exact ⟨has_put_same hm (m.isKey hs) _, atKey_put_same hm (m.isKey hs) _ _⟩
  · rw [if_neg e]
    have hne : m.key t ≠ m.key s := fun h => e (m.key_inj ht hs h)
    rw [has_put_other hne, atKey_put_other hne]
    exact hf t ht
/-- Behind 'm[s] = v', s a new key. -/
theorem MapIs.put {D : DataW Unit} (hown : w.ownsMap Try.prog m.K (plainElem Try.prog 3) b g D) (hn : Maps.size D = n) (hD : ∀ s, m.ok s → Maps.has D (m.key s) = (f s).isSome ∧ D.atKey (m.key s) (litI 0) = litI (numO (f s))) (hs : m.ok s) (hnew : f s = none) (v : Nat)
    (h1 : w'.ownsMap Try.prog m.K (plainElem Try.prog 3) b (g + 1) (D.put (m.key s) (litI (v : Int)))) : MapIs m w' b (g + 1) (n + 1) (upd f s v) := by
  refine ⟨_, h1, ?_, put_is hown.isMap hD hs v⟩
  rw [size_put (hown.tidy m.law), (hD s hs).1, hnew]
  simp [hn]
/-- The run of 'm[s] = v', s a new key. -/
theorem MapIs.store (h : MapIs m w b g n f) (hs : m.ok s) (hnew : f s = none) (hg : g < maxLen) {v : Nat} (hv : v ≤ 4611686018427387904) :
    ∃ w', (Instr.mapUpdate m.T (.map (some b)) (m.enc s) (.int .i64 (v : Int))).run Try.prog w = .ok () w' ∧ MapIs m w' b (g + 1) (n + 1) (upd f s v) ∧ w.grownBy w' (some b) := by
  obtain ⟨D, hown, hn, hD⟩ := h
  obtain ⟨w', hrun, h1, h2⟩ := hown.update m.law m.ht hg (m.hkey hs) (plainElem_int (H := Unit) Try.underlying3 (q := .i64) (wf_small hv))
  exact ⟨w', hrun, MapIs.put hown hn hD hs hnew v h1, h2⟩
variable {ops : Array Oper} {rest : List Oper} {o : Oper} {a : Act} {Q : Exit → Act → World → Prop}
/-- 'm[s] = v' at the operation, s a new key. -/
theorem wp_store (hgd : o.guard = none) (mo x vo : Operand) (hop : o.op = Op.mapUpdate m.T mo x vo) {v : Nat}
    (hm : a.eval mo = .map (some b)) (hx : a.eval x = m.enc s) (hv : a.eval vo = .int .i64 (v : Int)) (h : MapIs m w b g n f) (hs : m.ok s) (hnew : f s = none) (hg : g < maxLen) (hv2 : v ≤ 4611686018427387904)
    (hK : ∀ w', MapIs m w' b (g + 1) (n + 1) (upd f s v) → w.grownBy w' (some b) → wpList Try.prog ops Q rest (a.put o.dst undef) w') : wpList Try.prog ops Q (o :: rest) a w := by
  obtain ⟨D, hown, hn, hD⟩ := h
  refine wpList_mapUpdate_own w hgd mo x vo m.T hop m.K 3 m.law m.ht (plainElem Try.prog 3) b g D hm hown hg _ _ _ hx hv (m.hkey hs) (litI v) [] (plainElem_int Try.underlying3 (wf_small hv2)) ?_
  intro w' h1 h2
  exact hK w' (MapIs.put hown hn hD hs hnew v h1) h2
/-- 'len(m)' at the operation. -/
theorem wp_len (hgd : o.guard = none) (mo : Operand) (hop : o.op = Op.call { callee := Callee.builtin Builtin.len, args := #[mo], argTypes := #[m.T] }) (hm : a.eval mo = .map (some b)) (h : MapIs m w b g n f)
    (hK : wpList Try.prog ops Q rest (a.put o.dst (.int .i64 (n : Int))) w) : wpList Try.prog ops Q (o :: rest) a w := by
  obtain ⟨D, hown, hn, hD⟩ := h
  refine wpList_len_own w hgd mo m.T hop m.K 3 m.ht _ b g D hm hown ?_
  rw [hn]
  exact hK
/-- A map. -/
noncomputable def mapR (m : MK κ) (b g n : Nat) (f : κ → Option Nat) : Res :=
  ⟨fun w fp => MapIs m w b g n f ∧ fp b, fun h hm => ⟨h.1.move (hm b h.2), h.2⟩, fun h hm => ⟨h.1, hm b h.2⟩, fun {w _} h => ⟨h.1, h.2, h.1.lt⟩⟩
theorem map_at {W : World} {rs : List Res} (h : Sep W w (mapR m b g n f :: rs)) : MapIs m w b g n f := by
  obtain ⟨F, hF, _⟩ := h.head
  exact hF.1
theorem map_fresh {W : World} {rs : List Res} (h : Sep W w rs) (m : MK κ) : Sep W (w.alloc (.map #[] 0)) (mapR m w.heap.size 0 0 (fun _ => none) :: rs) :=
  h.fresh (f := fun k => w.heap.size ≤ k) (Turns.alloc _ w _) ⟨MapIs.made w, Nat.le_refl _⟩ (fun _ hk => hk)
theorem map_turn {W : World} {rs : List Res} {g' n' : Nat} {f' : κ → Option Nat} (h : Sep W w (mapR m b g n f :: rs)) (h1 : MapIs m w' b g' n' f') (h2 : w.grownBy w' (some b)) : Sep W w' (mapR m b g' n' f' :: rs) :=
  h.turn fun fp ⟨_, hb⟩ => ⟨⟨h1, .inl hb⟩, Turns.of_grown h2 (fun k hk => by cases hk; exact hb)⟩
end

/-! ### the kinds -/
noncomputable def mkStr (T : TypeId) (ht : Try.prog.underlying T = some (.map 9 3)) : MK ByteArray where
  T := T
  K := 9
  ht := ht
  law := string_keyed Try.underlying9
  enc s := .string s
  ok s := s.size ≤ maxLen
  reads s hs := ⟨_, Go.WideMaps.keyOf_string_mk Try.underlying9 hs⟩
  inj a b h := by injection h
noncomputable def mS : MK ByteArray := mkStr 59 Try.underlying59
noncomputable def mI : MK Nat where
  T := 82
  K := 3
  ht := Try.underlying82
  law := int_keyed Try.underlying3
  enc n := .int .i64 n
  ok n := n ≤ 4611686018427387904
  reads n hn := ⟨_, keyOf_int_mk Try.underlying3 (wf_small hn)⟩
  inj a b h := by
    injection h with _ h
    omega
theorem laidOut : laidOutB Try.prog = true := by kernel_rfl
theorem row87 : (87 : TypeId) < Try.prog.types.size := of_decide_eq_true (by kernel_rfl)
theorem row89 : (89 : TypeId) < Try.prog.types.size := of_decide_eq_true (by kernel_rfl)
theorem wide87 : (match Try.prog.underlying 87 with | some (.array _ _) | some (.struct _) => true | _ => false) = true := by rw [Try.underlying87]
theorem wide89 : (match Try.prog.underlying 89 with | some (.array _ _) | some (.struct _) => true | _ => false) = true := by rw [Try.underlying89]
theorem deep87 : Try.prog.keyTypeAt (Try.prog.types.size + 1) 87 = true := by kernel_rfl
theorem deep89 : Try.prog.keyTypeAt (Try.prog.types.size + 1) 89 = true := by kernel_rfl
set_option maxRecDepth 100000 in
theorem law87 : Go.WideMaps.KeyLaw Try.prog 87 := deep_law_laid laidOut (m := 2) (by omega) row87 (by kernel_rfl) wide87
set_option maxRecDepth 100000 in
theorem law89 : Go.WideMaps.KeyLaw Try.prog 89 := deep_law_laid laidOut (m := 2) (by omega) row89 (by kernel_rfl) wide89
end Go.Proofs.Ytkonloadedbpkaa.FMaps
