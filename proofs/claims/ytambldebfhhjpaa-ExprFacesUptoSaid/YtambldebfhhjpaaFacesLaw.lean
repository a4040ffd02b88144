/- ExprFaces walked. -/
import Derived.Test.YtambldebfhhjpaaFacesLast
namespace Go.Proofs.Ytambldebfhhjpaa.FacesLaw
open Go.RowKit Go.Proofs.Ytambldebfhhjpaa.PExprFaces Go.Proofs.YtambldebfhhjpaaW.PrintWords Go.Proofs.Ytambldebfhhjpaa.FacesPure Go.Proofs.Ytambldebfhhjpaa.FacesFuns Go.Proofs.Ytambldebfhhjpaa.FacesMore Go.Proofs.Ytambldebfhhjpaa.FacesVars Go.Proofs.Ytambldebfhhjpaa.FacesLib Go.Proofs.Ytambldebfhhjpaa.FacesWalk Go.Proofs.Ytambldebfhhjpaa.FacesLast
set_option linter.unusedVariables false
set_option linter.unusedSimpArgs false

theorem drawn_below {w w' : World} (h : Drawn0 w w') : Below w.heap.size w w' := by
  obtain ⟨n, rfl⟩ := h
  exact pw_below_drewN (Below.refl _ _) n
theorem C_none (w : World) : Kd.C Kd.bool w none ([] : List Bool).length [] := by
  obtain ⟨A, c, e, _, hC⟩ := Kd.R_reads (Kd.R_nil Kd.bool 4 w 0 (fun _ => True))
  simp only [Value.slice.injEq] at e
  rw [← e.1] at hC
  exact hC
theorem own_reads {w : World} {base : Nat} {v : Value} {xs : List Int} (h : w.ownsRow base 3 1 v xs.length (xs.map num)) : ∃ A c, v = .slice A xs.length c ∧ xs.length ≤ c ∧ CI w A xs :=
  Kd.R_reads (Kd.R_of_own (enc := Value.int .i64) (h1 := fun _ => rfl) (ok := fun _ => True) h (fun _ _ => trivial))
theorem vars_is {w : World} (A : Option Addr) (c : Nat) (e : List Int) (hC : Kd.C (Kd.int .i64) w A e.length e) (he : e.length ≤ 1048576) (bx : Nat) (D : Option Addr) (fc : Nat) (set : List Int) (hbox : w.cell? ⟨bx, 0, none⟩ = some (.slice D set.length fc)) (hS : Kd.C (Kd.int .i64) w D set.length set) (hset : set.length ≤ 1048576) {r : List Int} (hr : outK set.contains e e.length = r) :
    Calls Try.prog 20 #[.slice A e.length c, which bx] w fun ed w' => ∃ v, ed = .returned v ∧ w'.ownsRow w.heap.size 3 1 v r.length (r.map num) ∧ Below w.heap.size w w' := by
  subst hr
  exact vars_calls A c e hC he bx D fc set hbox hS hset
theorem C_three (w : World) (x y z : List Int) (Ax Ay Az : Option Addr) (cx cy cz : Nat) {t : TypeId} (hx : CI (w.alloc (.cells #[.slice Ax x.length cx, .slice Ay y.length cy, .slice Az z.length cz] t)) Ax x) (hcx : x.length ≤ cx)
    (hy : CI (w.alloc (.cells #[.slice Ax x.length cx, .slice Ay y.length cy, .slice Az z.length cz] t)) Ay y) (hcy : y.length ≤ cy) (hz : CI (w.alloc (.cells #[.slice Ax x.length cx, .slice Ay y.length cy, .slice Az z.length cz] t)) Az z) (hcz : z.length ≤ cz) :
    Kd.C (Kd.slice 3 (Kd.int .i64)) (w.alloc (.cells #[.slice Ax x.length cx, .slice Ay y.length cy, .slice Az z.length cz] t)) (some ⟨w.heap.size, 0, none⟩) ([x, y, z] : List (List Int)).length [x, y, z] := by
  have hh := heap_alloc_new w (.cells #[.slice Ax x.length cx, .slice Ay y.length cy, .slice Az z.length cz] t)
  refine ⟨rfl, by simp, fun _ => ⟨_, rfl, fun j q hj => ?_⟩⟩
  have key : ∀ (k : Nat) (u : Value), (#[Value.slice Ax x.length cx, .slice Ay y.length cy, .slice Az z.length cz] : Array Value)[k]? = some u → (w.alloc (.cells #[.slice Ax x.length cx, .slice Ay y.length cy, .slice Az z.length cz] t)).cell? ⟨w.heap.size, k, none⟩ = some u := by
    intro k u hu
    unfold World.cell?
    simp only
    rw [hh]
    exact hu
  match j, hj with
  | 0, hj =>
    simp at hj
    subst hj
    exact ⟨[.slice Ax x.length cx], rfl, ⟨Ax, cx, rfl, hcx, hx⟩, fun i u hu => by
      have : i = 0 := by have := (List.getElem?_eq_some_iff.1 hu).1; simpa using this
      subst this
      simp at hu
      subst hu
      exact key 0 _ rfl⟩
  | 1, hj =>
    simp at hj
    subst hj
    exact ⟨[.slice Ay y.length cy], rfl, ⟨Ay, cy, rfl, hcy, hy⟩, fun i u hu => by
      have : i = 0 := by have := (List.getElem?_eq_some_iff.1 hu).1; simpa using this
      subst this
      simp at hu
      subst hu
      exact key 1 _ rfl⟩
  | 2, hj =>
    simp at hj
    subst hj
    exact ⟨[.slice Az z.length cz], rfl, ⟨Az, cz, rfl, hcz, hz⟩, fun i u hu => by
      have : i = 0 := by have := (List.getElem?_eq_some_iff.1 hu).1; simpa using this
      subst this
      simp at hu
      subst hu
      exact key 2 _ rfl⟩

set_option maxHeartbeats 8000000 in
set_option maxRecDepth 100000 in
theorem law_walk (Aa : Option Addr) (ca : Nat) (a : List Int) (Ab : Option Addr) (cb : Nat) (b : List Int) (Ds : Option Addr) (cs : Nat) (s : List Int) (w : World)
    (hCa : CI w Aa a) (hca : a.length ≤ ca) (hCb : CI w Ab b) (hcb : b.length ≤ cb) (hCs : CI w Ds s) (hcs : s.length ≤ cs) (ha : a.length ≤ 1048576) (hb : b.length ≤ 1048576) (hs : s.length ≤ 1048576) :
    Calls Try.prog 5 #[.slice Aa a.length ca, .slice Ab b.length cb, .slice Ds s.length cs] w fun ed w' => ed = .returned (.bool true) ∧ Below w.heap.size w w' := by
  have C_a := Aside0.mk hCa
  have C_b := Aside0.mk hCb
  have C_s := Aside0.mk hCs
  have HT := Aside0.mk (Below.refl w.heap.size w)
  clear hCa hCb hCs
  obtain ⟨bb, hbb⟩ : ∃ bb, bb = decide (a = b) := ⟨_, rfl⟩
  obtain ⟨cc, hcc⟩ : ∃ cc, cc = cmpL a b := ⟨_, rfl⟩
  have hke := req_f a b (by omega) (a.length + 1) (by omega)
  obtain ⟨kc, hkc⟩ := rcmp_f a b (by omega) (by omega)
  obtain ⟨kv, vv, hkv, hpv⟩ := rvars_f a s (by omega) (by omega)
  obtain ⟨kj, hkj⟩ := rjoin_f [a, b, a] (by simp; omega) (by simp)
  obtain ⟨kp, n1, hkp, hn1, _⟩ := rplaces_f a b (by omega) (by omega)
  obtain ⟨ke2, hke2⟩ := equal_f a b (by omega)
  have hkc2 := cmp_f a b (by omega) (a.length + 1) (by omega)
  obtain ⟨kp2, n2, hkp2, hn2, hn3⟩ := places_f a b (by omega) (by omega)
  obtain ⟨kj2, hkj2⟩ := pjoin_f [a, b, a] (by simp; omega) (by simp)
  rw [← placesTo_same hn2 hn1] at hkp
  have hpl : (placesTo a b n2).length ≤ 4194304 := by have := placesTo_len a b n2; omega
  generalize placesTo a b n2 = pp at hkp hkp2 hpl
  obtain ⟨jj, ff, hjj⟩ : ∃ (jj : List Int) (ff : Int), (if 200 < ([a, b, a] : List (List Int)).flatten.length then (([] : List Int), (31 : Int)) else (([a, b, a] : List (List Int)).flatten, 0)) = (jj, ff) := ⟨_, _, rfl⟩
  have hjl : jj.length ≤ 4194304 := by
    split at hjj
    · simp only [Prod.mk.injEq] at hjj
      rw [← hjj.1]
      simp
    · simp only [Prod.mk.injEq] at hjj
      rw [← hjj.1]
      simp
      omega
  rw [hjj] at hkj hkj2
  rw [← hbb] at hke hke2
  rw [← hcc] at hkc hkc2
  have hvo : outK s.contains a a.length = vv := picks_eq (by have := outK_picks s.contains a a.length (Nat.le_refl _); rwa [List.take_length] at this) hpv
  have hvl : vv.length ≤ 4194304 := by rw [← hvo]; have := outK_len s.contains a a.length (Nat.le_refl _); omega
  obtain ⟨ks1, hks1⟩ := same_law vv (by omega)
  obtain ⟨ks2, hks2⟩ := same_law pp (by omega)
  obtain ⟨ks3, hks3⟩ := same_law jj (by omega)
  have Ke := Aside0.mk hke
  have Kc := Aside0.mk hkc
  have Kv := Aside0.mk hkv
  have Kj := Aside0.mk hkj
  have Kp := Aside0.mk hkp
  have Ke2 := Aside0.mk hke2
  have Kc2 := Aside0.mk hkc2
  have Kp2 := Aside0.mk hkp2
  have Kj2 := Aside0.mk hkj2
  have Hvo := Aside0.mk hvo
  have Ks1 := Aside0.mk hks1
  have Ks2 := Aside0.mk hks2
  have Ks3 := Aside0.mk hks3
  clear hke hkc hkv hkj hkp hke2 hkc2 hkp2 hkj2 hvo hks1 hks2 hks3 hpv hn1 hn2 hn3 hbb hcc hjj
  have Hra := Aside0.mk (roomy_f a (by omega))
  have Hrb := Aside0.mk (roomy_f b (by omega))
  go_enter Try.func5, Try.ntmps5
  go_wp2_with fail
  have hB : Below w.heap.size w (w.alloc (Obj.cells #[Value.slice Ds s.length cs] 22)) := (Below.refl _ _).alloc (Nat.le_refl _) _
  replace C_a := Aside0.mk (Kd.C_below C_a.out hB)
  replace C_b := Aside0.mk (Kd.C_below C_b.out hB)
  replace C_s := Aside0.mk (Kd.C_below C_s.out hB)
  replace HT := Aside0.mk (HT.out.trans (hB.mono HT.out.size))
  clear hB
  have C_box := Aside0.mk (show ((w.alloc (Obj.cells #[Value.slice Ds s.length cs] 22))).cell? ⟨w.heap.size, 0, none⟩ = some (.slice Ds s.length cs) from by have h := heap_alloc_new w (Obj.cells #[Value.slice Ds s.length cs] 22); unfold World.cell?; simp only; rw [h]; rfl)
  go_wp2_with fail
  refine (lemmaref03_Equal.calls _ Aa ca a Ab cb b bb _ C_a.out hca C_b.out hcb Ke.out).mono ?_
  rintro ed w1 ⟨rfl, hd⟩
  have hB := drawn_below hd
  clear hd
  replace C_a := Aside0.mk (Kd.C_below C_a.out hB)
  replace C_b := Aside0.mk (Kd.C_below C_b.out hB)
  replace C_s := Aside0.mk (Kd.C_below C_s.out hB)
  replace C_box := Aside0.mk (cell_on hB C_box.out)
  replace HT := Aside0.mk (HT.out.trans (hB.mono HT.out.size))
  clear hB
  go_wp2_with fail
  refine (lemmaref03_Compare.calls kc Aa ca a Ab cb b cc _ C_a.out hca C_b.out hcb Kc.out).mono ?_
  rintro ed w2 ⟨rfl, hd⟩
  have hB := drawn_below hd
  clear hd
  replace C_a := Aside0.mk (Kd.C_below C_a.out hB)
  replace C_b := Aside0.mk (Kd.C_below C_b.out hB)
  replace C_s := Aside0.mk (Kd.C_below C_s.out hB)
  replace C_box := Aside0.mk (cell_on hB C_box.out)
  replace HT := Aside0.mk (HT.out.trans (hB.mono HT.out.size))
  clear hB
  have hbx := C_box.out
  go_wp2_with fail
  refine (lemmaref03_Vars.calls kv Aa ca a false none 0 [] 0 false 0 0 Ds cs s vv _ C_a.out hca (C_none _) (Nat.le_refl _) C_s.out hcs Kv.out).mono ?_
  rintro ed w3 ⟨v_v, rfl, hR, hB⟩
  obtain ⟨A_v, c_v, rfl, hc_v, hC⟩ := Kd.R_reads hR
  replace C_a := Aside0.mk (Kd.C_below C_a.out hB)
  replace C_b := Aside0.mk (Kd.C_below C_b.out hB)
  replace C_s := Aside0.mk (Kd.C_below C_s.out hB)
  replace C_box := Aside0.mk (cell_on hB C_box.out)
  replace HT := Aside0.mk (HT.out.trans (hB.mono HT.out.size))
  clear hB
  have C_v := Aside0.mk hC
  clear hC hR
  clear hbx
  go_wp2_with fail
  have hB : Below w3.heap.size w3 (w3.alloc (Obj.cells #[Value.slice Aa a.length ca, Value.slice Ab b.length cb, Value.slice Aa a.length ca] 22)) := (Below.refl _ _).alloc (Nat.le_refl _) _
  replace C_a := Aside0.mk (Kd.C_below C_a.out hB)
  replace C_b := Aside0.mk (Kd.C_below C_b.out hB)
  replace C_s := Aside0.mk (Kd.C_below C_s.out hB)
  replace C_box := Aside0.mk (cell_on hB C_box.out)
  replace C_v := Aside0.mk (Kd.C_below C_v.out hB)
  replace HT := Aside0.mk (HT.out.trans (hB.mono HT.out.size))
  clear hB
  refine (lemmaref03_Join.calls kj (some ⟨w3.heap.size, 0, none⟩) 3 [a, b, a] jj ff _ (C_three w3 a b a Aa Ab Aa ca cb ca C_a.out hca C_b.out hcb C_a.out hca) (Nat.le_refl _) Kj.out).mono ?_
  rintro ed w4 ⟨v_j, rfl, hR, hB⟩
  obtain ⟨A_j, c_j, rfl, hc_j, hC⟩ := Kd.R_reads hR
  replace C_a := Aside0.mk (Kd.C_below C_a.out hB)
  replace C_b := Aside0.mk (Kd.C_below C_b.out hB)
  replace C_s := Aside0.mk (Kd.C_below C_s.out hB)
  replace C_box := Aside0.mk (cell_on hB C_box.out)
  replace C_v := Aside0.mk (Kd.C_below C_v.out hB)
  replace HT := Aside0.mk (HT.out.trans (hB.mono HT.out.size))
  clear hB
  have C_j := Aside0.mk hC
  clear hC hR
  go_wp2_with fail
  refine (lemmaref03_Places.calls kp Aa ca a Ab cb b pp _ C_a.out hca C_b.out hcb Kp.out).mono ?_
  rintro ed w5 ⟨v_p, rfl, hR, hB⟩
  obtain ⟨A_p, c_p, rfl, hc_p, hC⟩ := Kd.R_reads hR
  replace C_a := Aside0.mk (Kd.C_below C_a.out hB)
  replace C_b := Aside0.mk (Kd.C_below C_b.out hB)
  replace C_s := Aside0.mk (Kd.C_below C_s.out hB)
  replace C_box := Aside0.mk (cell_on hB C_box.out)
  replace C_v := Aside0.mk (Kd.C_below C_v.out hB)
  replace C_j := Aside0.mk (Kd.C_below C_j.out hB)
  replace HT := Aside0.mk (HT.out.trans (hB.mono HT.out.size))
  clear hB
  have C_p := Aside0.mk hC
  clear hC hR
  go_wp2_with fail
  refine (lemmalaw03_roomy.calls Aa ca a (room a) _ C_a.out hca Hra.out).mono ?_
  rintro ed w6 ⟨v_x, rfl, hR, hB⟩
  obtain ⟨g_x, c_x, rfl, hc_x, hC⟩ := R_block hR (by simp)
  replace C_a := Aside0.mk (Kd.C_below C_a.out hB)
  replace C_b := Aside0.mk (Kd.C_below C_b.out hB)
  replace C_s := Aside0.mk (Kd.C_below C_s.out hB)
  replace C_box := Aside0.mk (cell_on hB C_box.out)
  replace C_v := Aside0.mk (Kd.C_below C_v.out hB)
  replace C_j := Aside0.mk (Kd.C_below C_j.out hB)
  replace C_p := Aside0.mk (Kd.C_below C_p.out hB)
  replace HT := Aside0.mk (HT.out.trans (hB.mono HT.out.size))
  clear hB
  have C_x := Aside0.mk hC
  rw [room_len] at hc_x
  rw [room_len]
  clear hC hR
  have C_xl := Aside0.mk (show CI w6 (some ⟨g_x, 0, none⟩) a from by have := C_take (c := c_x) (n := a.length) C_x.out (by rw [room_len]; exact hc_x) (by rw [room_len]; omega); rwa [room_take] at this)
  go_wp2_with fail
  refine (lemmalaw03_roomy.calls Ab cb b (room b) _ C_b.out hcb Hrb.out).mono ?_
  rintro ed w7 ⟨v_y, rfl, hR, hB⟩
  obtain ⟨g_y, c_y, rfl, hc_y, hC⟩ := R_block hR (by simp)
  replace C_a := Aside0.mk (Kd.C_below C_a.out hB)
  replace C_b := Aside0.mk (Kd.C_below C_b.out hB)
  replace C_s := Aside0.mk (Kd.C_below C_s.out hB)
  replace C_box := Aside0.mk (cell_on hB C_box.out)
  replace C_v := Aside0.mk (Kd.C_below C_v.out hB)
  replace C_j := Aside0.mk (Kd.C_below C_j.out hB)
  replace C_p := Aside0.mk (Kd.C_below C_p.out hB)
  replace C_x := Aside0.mk (Kd.C_below C_x.out hB)
  replace C_xl := Aside0.mk (Kd.C_below C_xl.out hB)
  replace HT := Aside0.mk (HT.out.trans (hB.mono HT.out.size))
  clear hB
  have C_y := Aside0.mk hC
  rw [room_len] at hc_y
  rw [room_len]
  clear hC hR
  have C_yl := Aside0.mk (show CI w7 (some ⟨g_y, 0, none⟩) b from by have := C_take (c := c_y) (n := b.length) C_y.out (by rw [room_len]; exact hc_y) (by rw [room_len]; omega); rwa [room_take] at this)
  go_wp2_with fail
  refine (expr_Equal.calls ke2 (some ⟨g_x, 0, none⟩) c_x a (some ⟨g_y, 0, none⟩) c_y b bb _ C_xl.out (by omega) C_yl.out (by omega) Ke2.out).mono ?_
  rintro ed w8 ⟨rfl, hd⟩
  have hB := drawn_below hd
  clear hd
  replace C_a := Aside0.mk (Kd.C_below C_a.out hB)
  replace C_b := Aside0.mk (Kd.C_below C_b.out hB)
  replace C_s := Aside0.mk (Kd.C_below C_s.out hB)
  replace C_box := Aside0.mk (cell_on hB C_box.out)
  replace C_v := Aside0.mk (Kd.C_below C_v.out hB)
  replace C_j := Aside0.mk (Kd.C_below C_j.out hB)
  replace C_p := Aside0.mk (Kd.C_below C_p.out hB)
  replace C_x := Aside0.mk (Kd.C_below C_x.out hB)
  replace C_xl := Aside0.mk (Kd.C_below C_xl.out hB)
  replace C_y := Aside0.mk (Kd.C_below C_y.out hB)
  replace C_yl := Aside0.mk (Kd.C_below C_yl.out hB)
  replace HT := Aside0.mk (HT.out.trans (hB.mono HT.out.size))
  clear hB
  go_wp2_with fail
  refine (expr_Compare.calls _ (some ⟨g_x, 0, none⟩) c_x a (some ⟨g_y, 0, none⟩) c_y b cc _ C_xl.out (by omega) C_yl.out (by omega) Kc2.out).mono ?_
  rintro ed w9 ⟨rfl, hd⟩
  have hB := drawn_below hd
  clear hd
  replace C_a := Aside0.mk (Kd.C_below C_a.out hB)
  replace C_b := Aside0.mk (Kd.C_below C_b.out hB)
  replace C_s := Aside0.mk (Kd.C_below C_s.out hB)
  replace C_box := Aside0.mk (cell_on hB C_box.out)
  replace C_v := Aside0.mk (Kd.C_below C_v.out hB)
  replace C_j := Aside0.mk (Kd.C_below C_j.out hB)
  replace C_p := Aside0.mk (Kd.C_below C_p.out hB)
  replace C_x := Aside0.mk (Kd.C_below C_x.out hB)
  replace C_xl := Aside0.mk (Kd.C_below C_xl.out hB)
  replace C_y := Aside0.mk (Kd.C_below C_y.out hB)
  replace C_yl := Aside0.mk (Kd.C_below C_yl.out hB)
  replace HT := Aside0.mk (HT.out.trans (hB.mono HT.out.size))
  clear hB
  go_wp2_with fail
  refine (vars_is (some ⟨g_x, 0, none⟩) c_x a C_xl.out (by omega) w.heap.size Ds cs s C_box.out C_s.out (by omega) Hvo.out).mono ?_
  rintro ed w10 ⟨v_u, rfl, hR, hB⟩
  obtain ⟨A_u, c_u, rfl, hc_u, hC⟩ := own_reads hR
  replace C_a := Aside0.mk (Kd.C_below C_a.out hB)
  replace C_b := Aside0.mk (Kd.C_below C_b.out hB)
  replace C_s := Aside0.mk (Kd.C_below C_s.out hB)
  replace C_box := Aside0.mk (cell_on hB C_box.out)
  replace C_v := Aside0.mk (Kd.C_below C_v.out hB)
  replace C_j := Aside0.mk (Kd.C_below C_j.out hB)
  replace C_p := Aside0.mk (Kd.C_below C_p.out hB)
  replace C_x := Aside0.mk (Kd.C_below C_x.out hB)
  replace C_xl := Aside0.mk (Kd.C_below C_xl.out hB)
  replace C_y := Aside0.mk (Kd.C_below C_y.out hB)
  replace C_yl := Aside0.mk (Kd.C_below C_yl.out hB)
  replace HT := Aside0.mk (HT.out.trans (hB.mono HT.out.size))
  clear hB
  have C_u := Aside0.mk hC
  clear hC hR
  go_wp2_with fail
  refine (lemmalaw03_same.calls ks1 A_u c_u vv A_v c_v vv true _ C_u.out hc_u C_v.out hc_v Ks1.out).mono ?_
  rintro ed w11 ⟨rfl, hd⟩
  have hB := drawn_below hd
  clear hd
  replace C_a := Aside0.mk (Kd.C_below C_a.out hB)
  replace C_b := Aside0.mk (Kd.C_below C_b.out hB)
  replace C_s := Aside0.mk (Kd.C_below C_s.out hB)
  replace C_box := Aside0.mk (cell_on hB C_box.out)
  replace C_v := Aside0.mk (Kd.C_below C_v.out hB)
  replace C_j := Aside0.mk (Kd.C_below C_j.out hB)
  replace C_p := Aside0.mk (Kd.C_below C_p.out hB)
  replace C_x := Aside0.mk (Kd.C_below C_x.out hB)
  replace C_xl := Aside0.mk (Kd.C_below C_xl.out hB)
  replace C_y := Aside0.mk (Kd.C_below C_y.out hB)
  replace C_yl := Aside0.mk (Kd.C_below C_yl.out hB)
  replace C_u := Aside0.mk (Kd.C_below C_u.out hB)
  replace HT := Aside0.mk (HT.out.trans (hB.mono HT.out.size))
  clear hB
  go_wp2_with fail
  refine (expr_Places.calls kp2 (some ⟨g_x, 0, none⟩) c_x a (some ⟨g_y, 0, none⟩) c_y b pp _ C_xl.out (by omega) C_yl.out (by omega) Kp2.out).mono ?_
  rintro ed w12 ⟨v_q, rfl, hR, hB⟩
  obtain ⟨A_q, c_q, rfl, hc_q, hC⟩ := Kd.R_reads hR
  replace C_a := Aside0.mk (Kd.C_below C_a.out hB)
  replace C_b := Aside0.mk (Kd.C_below C_b.out hB)
  replace C_s := Aside0.mk (Kd.C_below C_s.out hB)
  replace C_box := Aside0.mk (cell_on hB C_box.out)
  replace C_v := Aside0.mk (Kd.C_below C_v.out hB)
  replace C_j := Aside0.mk (Kd.C_below C_j.out hB)
  replace C_p := Aside0.mk (Kd.C_below C_p.out hB)
  replace C_x := Aside0.mk (Kd.C_below C_x.out hB)
  replace C_xl := Aside0.mk (Kd.C_below C_xl.out hB)
  replace C_y := Aside0.mk (Kd.C_below C_y.out hB)
  replace C_yl := Aside0.mk (Kd.C_below C_yl.out hB)
  replace C_u := Aside0.mk (Kd.C_below C_u.out hB)
  replace HT := Aside0.mk (HT.out.trans (hB.mono HT.out.size))
  clear hB
  have C_q := Aside0.mk hC
  clear hC hR
  go_wp2_with fail
  refine (lemmalaw03_same.calls ks2 A_q c_q pp A_p c_p pp true _ C_q.out hc_q C_p.out hc_p Ks2.out).mono ?_
  rintro ed w13 ⟨rfl, hd⟩
  have hB := drawn_below hd
  clear hd
  replace C_a := Aside0.mk (Kd.C_below C_a.out hB)
  replace C_b := Aside0.mk (Kd.C_below C_b.out hB)
  replace C_s := Aside0.mk (Kd.C_below C_s.out hB)
  replace C_box := Aside0.mk (cell_on hB C_box.out)
  replace C_v := Aside0.mk (Kd.C_below C_v.out hB)
  replace C_j := Aside0.mk (Kd.C_below C_j.out hB)
  replace C_p := Aside0.mk (Kd.C_below C_p.out hB)
  replace C_x := Aside0.mk (Kd.C_below C_x.out hB)
  replace C_xl := Aside0.mk (Kd.C_below C_xl.out hB)
  replace C_y := Aside0.mk (Kd.C_below C_y.out hB)
  replace C_yl := Aside0.mk (Kd.C_below C_yl.out hB)
  replace C_u := Aside0.mk (Kd.C_below C_u.out hB)
  replace C_q := Aside0.mk (Kd.C_below C_q.out hB)
  replace HT := Aside0.mk (HT.out.trans (hB.mono HT.out.size))
  clear hB
  go_wp2_with fail
  have hB : Below w13.heap.size w13 (w13.alloc (Obj.cells #[Value.slice (some ⟨g_x, 0, none⟩) a.length c_x, Value.slice (some ⟨g_y, 0, none⟩) b.length c_y, Value.slice (some ⟨g_x, 0, none⟩) a.length c_x] 22)) := (Below.refl _ _).alloc (Nat.le_refl _) _
  replace C_a := Aside0.mk (Kd.C_below C_a.out hB)
  replace C_b := Aside0.mk (Kd.C_below C_b.out hB)
  replace C_s := Aside0.mk (Kd.C_below C_s.out hB)
  replace C_box := Aside0.mk (cell_on hB C_box.out)
  replace C_v := Aside0.mk (Kd.C_below C_v.out hB)
  replace C_j := Aside0.mk (Kd.C_below C_j.out hB)
  replace C_p := Aside0.mk (Kd.C_below C_p.out hB)
  replace C_x := Aside0.mk (Kd.C_below C_x.out hB)
  replace C_xl := Aside0.mk (Kd.C_below C_xl.out hB)
  replace C_y := Aside0.mk (Kd.C_below C_y.out hB)
  replace C_yl := Aside0.mk (Kd.C_below C_yl.out hB)
  replace C_u := Aside0.mk (Kd.C_below C_u.out hB)
  replace C_q := Aside0.mk (Kd.C_below C_q.out hB)
  replace HT := Aside0.mk (HT.out.trans (hB.mono HT.out.size))
  clear hB
  refine (expr_Join.calls kj2 (some ⟨w13.heap.size, 0, none⟩) 3 [a, b, a] jj ff _ (C_three w13 a b a (some ⟨g_x, 0, none⟩) (some ⟨g_y, 0, none⟩) (some ⟨g_x, 0, none⟩) c_x c_y c_x C_xl.out (by omega) C_yl.out (by omega) C_xl.out (by omega)) (Nat.le_refl _) Kj2.out).mono ?_
  rintro ed w14 ⟨v_k, rfl, hR, hB⟩
  obtain ⟨A_k, c_k, rfl, hc_k, hC⟩ := Kd.R_reads hR
  replace C_a := Aside0.mk (Kd.C_below C_a.out hB)
  replace C_b := Aside0.mk (Kd.C_below C_b.out hB)
  replace C_s := Aside0.mk (Kd.C_below C_s.out hB)
  replace C_box := Aside0.mk (cell_on hB C_box.out)
  replace C_v := Aside0.mk (Kd.C_below C_v.out hB)
  replace C_j := Aside0.mk (Kd.C_below C_j.out hB)
  replace C_p := Aside0.mk (Kd.C_below C_p.out hB)
  replace C_x := Aside0.mk (Kd.C_below C_x.out hB)
  replace C_xl := Aside0.mk (Kd.C_below C_xl.out hB)
  replace C_y := Aside0.mk (Kd.C_below C_y.out hB)
  replace C_yl := Aside0.mk (Kd.C_below C_yl.out hB)
  replace C_u := Aside0.mk (Kd.C_below C_u.out hB)
  replace C_q := Aside0.mk (Kd.C_below C_q.out hB)
  replace HT := Aside0.mk (HT.out.trans (hB.mono HT.out.size))
  clear hB
  have C_k := Aside0.mk hC
  clear hC hR
  go_wp2_with fail
  refine (lemmalaw03_same.calls ks3 A_k c_k jj A_j c_j jj true _ C_k.out hc_k C_j.out hc_j Ks3.out).mono ?_
  rintro ed w15 ⟨rfl, hd⟩
  have hB := drawn_below hd
  clear hd
  replace C_a := Aside0.mk (Kd.C_below C_a.out hB)
  replace C_b := Aside0.mk (Kd.C_below C_b.out hB)
  replace C_s := Aside0.mk (Kd.C_below C_s.out hB)
  replace C_box := Aside0.mk (cell_on hB C_box.out)
  replace C_v := Aside0.mk (Kd.C_below C_v.out hB)
  replace C_j := Aside0.mk (Kd.C_below C_j.out hB)
  replace C_p := Aside0.mk (Kd.C_below C_p.out hB)
  replace C_x := Aside0.mk (Kd.C_below C_x.out hB)
  replace C_xl := Aside0.mk (Kd.C_below C_xl.out hB)
  replace C_y := Aside0.mk (Kd.C_below C_y.out hB)
  replace C_yl := Aside0.mk (Kd.C_below C_yl.out hB)
  replace C_u := Aside0.mk (Kd.C_below C_u.out hB)
  replace C_q := Aside0.mk (Kd.C_below C_q.out hB)
  replace C_k := Aside0.mk (Kd.C_below C_k.out hB)
  replace HT := Aside0.mk (HT.out.trans (hB.mono HT.out.size))
  clear hB
  go_wp2_with fail
  refine (untouched_calls (by omega) C_x.out hc_x C_a.out hca).mono ?_
  rintro ed w16 ⟨rfl, hd⟩
  have hB := drawn_below hd
  clear hd
  replace C_a := Aside0.mk (Kd.C_below C_a.out hB)
  replace C_b := Aside0.mk (Kd.C_below C_b.out hB)
  replace C_s := Aside0.mk (Kd.C_below C_s.out hB)
  replace C_box := Aside0.mk (cell_on hB C_box.out)
  replace C_v := Aside0.mk (Kd.C_below C_v.out hB)
  replace C_j := Aside0.mk (Kd.C_below C_j.out hB)
  replace C_p := Aside0.mk (Kd.C_below C_p.out hB)
  replace C_x := Aside0.mk (Kd.C_below C_x.out hB)
  replace C_xl := Aside0.mk (Kd.C_below C_xl.out hB)
  replace C_y := Aside0.mk (Kd.C_below C_y.out hB)
  replace C_yl := Aside0.mk (Kd.C_below C_yl.out hB)
  replace C_u := Aside0.mk (Kd.C_below C_u.out hB)
  replace C_q := Aside0.mk (Kd.C_below C_q.out hB)
  replace C_k := Aside0.mk (Kd.C_below C_k.out hB)
  replace HT := Aside0.mk (HT.out.trans (hB.mono HT.out.size))
  clear hB
  go_wp2_with fail
  refine (untouched_calls (by omega) C_y.out hc_y C_b.out hcb).mono ?_
  rintro ed w17 ⟨rfl, hd⟩
  have hB := drawn_below hd
  clear hd
  replace C_a := Aside0.mk (Kd.C_below C_a.out hB)
  replace C_b := Aside0.mk (Kd.C_below C_b.out hB)
  replace C_s := Aside0.mk (Kd.C_below C_s.out hB)
  replace C_box := Aside0.mk (cell_on hB C_box.out)
  replace C_v := Aside0.mk (Kd.C_below C_v.out hB)
  replace C_j := Aside0.mk (Kd.C_below C_j.out hB)
  replace C_p := Aside0.mk (Kd.C_below C_p.out hB)
  replace C_x := Aside0.mk (Kd.C_below C_x.out hB)
  replace C_xl := Aside0.mk (Kd.C_below C_xl.out hB)
  replace C_y := Aside0.mk (Kd.C_below C_y.out hB)
  replace C_yl := Aside0.mk (Kd.C_below C_yl.out hB)
  replace C_u := Aside0.mk (Kd.C_below C_u.out hB)
  replace C_q := Aside0.mk (Kd.C_below C_q.out hB)
  replace C_k := Aside0.mk (Kd.C_below C_k.out hB)
  replace HT := Aside0.mk (HT.out.trans (hB.mono HT.out.size))
  clear hB
  go_wp2_with fail
  go_ret
  exact ⟨by simp, HT.out⟩
end Go.Proofs.Ytambldebfhhjpaa.FacesLaw
