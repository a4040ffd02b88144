-- PRINTED BY print.sh 35421559b90ae4d0a3588c463048766b98c2df88dd9212a6774a882060cdf62d: not written by this session
import Derived.Test.YtpoojimmponklaaDoorProg
import Derived.Below
import Derived.Deep.Draws
import Derived.Deep.AppendLies
import Derived.Maps.AppendAt
import Derived.OwnWalk
import Derived.Laws.BytesArg
import Derived.Laws.MakeOwn
import Derived.Laws.OwnMore
import Derived.Deep.OwnRows
import Derived.Tactics
import Derived.Lib.ConvBytes
import Derived.Laws.Slices
import Derived.WalkKit
import Derived.KernelRfl
import Derived.RowKit3
import Derived.Deep.LoopGhost
import Derived.Deep.QuietTactic
import Derived.BigQuiet
import Derived.WideLaws
import Derived.Deep.DeepCutAuto
import Derived.Deep.CutBlock
import Derived.Deep.RegionHeld3
import Derived.Laws.Rows
import Derived.Lib.AppendStr
import Derived.ArgAppend
import Derived.Laws.IdiomCopy
import Derived.OrdersHeld
import Derived.Laws.BitsLemmas
import Derived.RowKit
import Derived.Test.YtpoojimmponklaaDoorWWords
import Derived.Test.YtpoojimmponklaaDoorWLast
import Derived.Test.YtpoojimmponklaaDoorWTab
import Derived.Test.YtpoojimmponklaaDoorWFour
import Derived.Test.YtpoojimmponklaaDoorWQPut
import Derived.Test.YtpoojimmponklaaDoorWApart
import Derived.Test.YtpoojimmponklaaDoorWArr
import Derived.Test.YtpoojimmponklaaDoorWZeros
import Derived.Test.YtpoojimmponklaaDoorWFoot
import Derived.Test.YtpoojimmponklaaDoorWKept
import Derived.Test.YtpoojimmponklaaDoorWShare
import Derived.Test.YtpoojimmponklaaDoorWN
import Derived.Test.YtpoojimmponklaaDoorWFootNe
import Derived.Test.YtpoojimmponklaaDoorWAt
import Derived.Test.YtpoojimmponklaaDoorWEqStruct
import Derived.Test.YtpoojimmponklaaDoorWRepsOne
import Derived.Test.YtpoojimmponklaaDoorWInv
import Derived.Test.YtpoojimmponklaaDoorWInvWords
import Derived.Test.YtpoojimmponklaaDoorWGuard
import Derived.Test.YtpoojimmponklaaDoorWNEv
import Derived.Test.YtpoojimmponklaaDoorWMore
namespace Go.Proofs.YtpoojimmponklaaDoor.PSymPlays
open Go.RowKit Go.Proofs.YtpoojimmponklaaDoorW.PrintWords Go.Proofs.YtpoojimmponklaaDoorW.PrintLast Go.Proofs.YtpoojimmponklaaDoorW.PrintMore
attribute [local go_sem] max2_int min2_int max_two min_two max_three min_three max_four min_four   -- for this text's walks alone
set_option linter.unusedVariables false
set_option linter.unusedSimpArgs false



def errW : Option Int → Value
  | none => .nilIface
  | some c => .iface 0 (.int .i64 c)
theorem errW_none : errW none = .nilIface := rfl
theorem errW_some (c : Int) : errW (some c) = .iface 0 (.int .i64 c) := rfl

-- the values' own types
/-! #### struct type 101 -/
structure S101 where
  f0 : ByteArray
  f1 : Bool
def z101 : S101 := ⟨(⟨#[]⟩ : ByteArray), false⟩
def k101 : Kd S101 := Kd.iso (Kd.pair Kd.string Kd.bool) (fun x : S101 => (x.f0, x.f1))
theorem k101_open {w : World} {x : S101} {cs : List Value} (h : k101.K w x cs) : cs = [.string x.f0, .bool x.f1] := by
  obtain ⟨_, _, rfl, rfl, rfl⟩ := h
  exact rfl
theorem k101_openM {w : World} {base : Nat} {ok : Nat → Prop} {x : S101} {cs : List Value} (h : k101.M w base ok x cs) : cs = [.string x.f0, .bool x.f1] := by
  obtain ⟨_, _, rfl, rfl, rfl⟩ := h
  exact rfl
theorem k101_mk (w : World) (x : S101)  : k101.K w x [.string x.f0, .bool x.f1] := ⟨[.string x.f0], [.bool x.f1], rfl, rfl, rfl⟩
theorem k101_mkM (w : World) (base : Nat) (ok : Nat → Prop) (x : S101)  : k101.M w base ok x [.string x.f0, .bool x.f1] := ⟨[.string x.f0], [.bool x.f1], rfl, rfl, rfl⟩
def rd_T101 (xs : List S101) (i : Int) : S101 := xs.getD i.toNat z101
theorem at_T101 {w : World} {A : Option Addr} {n : Nat} {xs : List S101} (h : Kd.C k101 w A n xs) (i : Int) (h0 : 0 ≤ i) (h1 : i < n) : ∃ ad , A = some ad ∧ w.cell? (ad.add (i.toNat * 2)) = some (.string (rd_T101 xs i).f0) ∧ w.cell? ⟨(ad.add (i.toNat * 2)).block, (ad.add (i.toNat * 2)).off + 1, none⟩ = some (.bool (rd_T101 xs i).f1) := by
  obtain ⟨ad, c, e, _, hK, hc0⟩ := Kd.C_get h z101 i h0 h1
  have hc : ∀ j u, c[j]? = some u → w.cell? (ad.add (i.toNat * 2 + j)) = some u := hc0
  obtain rfl := k101_open hK
  exact ⟨ad, e, hc 0 _ rfl, by rw [← add_field _ _ 1 (by omega)]; exact hc 1 _ rfl⟩

end Go.Proofs.YtpoojimmponklaaDoor.PSymPlays
