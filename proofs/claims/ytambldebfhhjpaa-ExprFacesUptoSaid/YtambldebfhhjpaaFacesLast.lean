/- Lists with room behind them; untouched. -/
import Derived.Test.YtambldebfhhjpaaFacesWalk
namespace Go.Proofs.Ytambldebfhhjpaa.FacesLast
open Go.RowKit Go.Proofs.Ytambldebfhhjpaa.PExprFaces Go.Proofs.YtambldebfhhjpaaW.PrintWords Go.Proofs.Ytambldebfhhjpaa.FacesPure Go.Proofs.Ytambldebfhhjpaa.FacesFuns Go.Proofs.Ytambldebfhhjpaa.FacesMore Go.Proofs.Ytambldebfhhjpaa.FacesVars Go.Proofs.Ytambldebfhhjpaa.FacesLib Go.Proofs.Ytambldebfhhjpaa.FacesWalk
set_option linter.unusedVariables false

abbrev CI (w : World) (A : Option Addr) (xs : List Int) : Prop := Kd.C (Kd.int .i64) w A xs.length xs
theorem R_block {w : World} {base : Nat} {ok : Nat → Prop} {v : Value} {xs : List Int} (h : Kd.R (Kd.int .i64) 3 w base ok v xs) (hn : 0 < xs.length) :
    ∃ g c, v = .slice (some ⟨g, 0, none⟩) xs.length c ∧ xs.length ≤ c ∧ CI w (some ⟨g, 0, none⟩) xs := by
  obtain ⟨A, c, e, hc, hC⟩ := Kd.R_reads h
  obtain ⟨h0, inner, ho, hr⟩ := h
  rcases ho.2 with ⟨e2, h2⟩ | ⟨g, cap, cur, e2, _⟩
  · rw [e2] at e
    simp only [Value.slice.injEq] at e
    omega
  · rw [e2] at e
    simp only [Value.slice.injEq] at e
    obtain ⟨rfl, -, rfl⟩ := e
    exact ⟨g, cap, e2, hc, hC⟩
theorem C_take {w : World} {A : Option Addr} {c n : Nat} {xs : List Int} (h : CI w A xs) (hc : xs.length ≤ c) (hn : n ≤ xs.length) : CI w A (xs.take n) := by
  obtain ⟨i0, hi0, _, hsz, _⟩ := info_parts info3
  obtain ⟨_, hA, _⟩ := print_take_of (P := Try.prog) (Value.int .i64) 0 22 3 .i64 Try.underlying22 hi0 hsz A c xs (n : Int) (by omega) (by omega) hc
  have := hA w (Kd.reads_of_C h)
  rw [Int.toNat_natCast] at this
  exact Kd.C_of_reads (h1 := fun _ => rfl) this
abbrev room (l : List Int) : List Int := l ++ [-71, -72, -73]
theorem room_len (l : List Int) : (room l).length = l.length + 3 := by simp [room]
theorem room_take (l : List Int) : (room l).take l.length = l := by simp [room]
theorem room_at {w : World} {g : Nat} {l : List Int} (h : CI w (some ⟨g, 0, none⟩) (room l)) :
    w.cell? ⟨g, l.length, none⟩ = some (.int .i64 (-71)) ∧ w.cell? ⟨g, l.length + 1, none⟩ = some (.int .i64 (-72)) ∧ w.cell? ⟨g, l.length + 2, none⟩ = some (.int .i64 (-73)) := by
  have key : ∀ (d : Nat) (x : Int), (room l)[l.length + d]? = some x → w.cell? ⟨g, l.length + d, none⟩ = some (.int .i64 x) := by
    intro d x hx
    have hlt := (List.getElem?_eq_some_iff.1 hx).1
    obtain ⟨ad, e, hc⟩ := Kd.at_int h ((l.length + d : Nat) : Int) (by omega) (by omega)
    rw [rd_of hlt, Int.toNat_natCast] at hc
    cases e
    rw [Addr.add_lit, Nat.zero_add] at hc
    rw [hc, (List.getElem?_eq_some_iff.1 hx).2]
  exact ⟨key 0 (-71) (by simp [room]), key 1 (-72) (by simp [room]), key 2 (-73) (by simp [room])⟩
set_option maxHeartbeats 1000000 in
theorem untouched_calls {w : World} {g c : Nat} {l : List Int} {A1 : Option Addr} {c1 : Nat} (hl : l.length ≤ 1048576) (hm : CI w (some ⟨g, 0, none⟩) (room l)) (hc : l.length + 3 ≤ c) (h1 : CI w A1 l) (hc1 : l.length ≤ c1) :
    Calls Try.prog 21 #[.slice (some ⟨g, 0, none⟩) (l.length + 3) c, .slice A1 l.length c1] w fun e w' => e = .returned (.bool true) ∧ Drawn0 w w' := by
  have ht := C_take (c := c) (n := l.length) hm (by rw [room_len]; exact hc) (by rw [room_len]; omega)
  rw [room_take] at ht
  obtain ⟨m0, m1, m2⟩ := room_at hm
  obtain ⟨k, hk⟩ := same_law l (by omega)
  have HS := Aside0.mk (lemmalaw03_same.calls k (some ⟨g, 0, none⟩) c l A1 c1 l true w ht (by omega) h1 hc1 hk)
  clear hm ht h1 hk
  go_enter Try.func21, Try.ntmps21
  go_wp2_with fail
  refine HS.out.mono ?_
  rintro e w2 ⟨rfl, nq, rfl⟩
  clear HS
  go_wp2_with fail
  go_ret
  exact ⟨rfl, ⟨_, rfl⟩⟩
end Go.Proofs.Ytambldebfhhjpaa.FacesLast
