/- FoldLeast walked. -/
import Derived.Test.YtkonloadedbpkaaLeastAll
import Derived.Test.YtkonloadedbpkaaAliveW
namespace Go.Proofs.Ytkonloadedbpkaa.LeastW
open Go.RowKit Go.Maps Go.Proofs.Ytkonloadedbpkaa.Sep Go.Proofs.Ytkonloadedbpkaa.FMaps Go.Proofs.Ytkonloadedbpkaa.FoldPure Go.Proofs.Ytkonloadedbpkaa.FoldMem Go.Proofs.Ytkonloadedbpkaa.Gather Go.Proofs.Ytkonloadedbpkaa.FoldRun Go.Proofs.Ytkonloadedbpkaa.NodesPure Go.Proofs.Ytkonloadedbpkaa.NodesMem Go.Proofs.Ytkonloadedbpkaa.NodesW Go.Proofs.Ytkonloadedbpkaa.FoldCount Go.Proofs.Ytkonloadedbpkaa.FoldSame Go.Proofs.Ytkonloadedbpkaa.FoldBack Go.Proofs.Ytkonloadedbpkaa.NodeMem Go.Proofs.Ytkonloadedbpkaa.ShareP Go.Proofs.Ytkonloadedbpkaa.ShareR Go.Proofs.Ytkonloadedbpkaa.ShareL Go.Proofs.Ytkonloadedbpkaa.NamedP Go.Proofs.Ytkonloadedbpkaa.EmptyW Go.Proofs.Ytkonloadedbpkaa.LeastP Go.Proofs.Ytkonloadedbpkaa.AliveW
open Go.Proofs.YtkonloadedbpkaaW.PrintWords
set_option linter.unusedVariables false
set_option linter.unusedSimpArgs false
set_option maxRecDepth 100000

/-- What is true of the nodes that FoldLeast looks at. -/
structure Good (m : List Nd) : Prop where
  valid : Valid m
  led : AllLed m
  apart : m.Nodup
  pos : 0 < m.length
  few : m.length ≤ 1048576
  sum : (m.map (·.2.length)).sum ≤ 1048576
  labs : ∀ x ∈ m, x.1.size ≤ maxLen
theorem good_of {zs : List (ByteArray × List Int)} (h0 : 0 < zs.length) (hl : zs.length ≤ 1048576) (he : (zs.map (·.2.length)).sum ≤ 1048576) : Good (shareN (namedZ zs)) := by
  have hv : Valid (namedZ zs) := named_valid _
  have hn := namedZ_len zs
  have hp : 0 < (namedZ zs).length := by omega
  have hs := share_sum hv hp
  have hz := namedZ_sum zs
  have hle := share_le hv hp
  refine ⟨share_valid hv hp, share_led hv hp, share_nodup hv hp, share_pos hv hp, by omega, by omega, fun x hx => ?_⟩
  obtain ⟨p, hpl, rfl⟩ := List.mem_iff_getElem.1 hx
  obtain ⟨i, hi⟩ := came_from hv hp hpl
  obtain ⟨hil, _, e, _⟩ := came_bis hv hp i p hi
  rw [← e]
  exact namedZ_lab he _ (List.getElem_mem hil)
theorem take_more {cs : List Int} {i : Nat} (h : i < cs.length) : cs.take (i + 1) = cs.take i ++ [cs[i]] := by
  rw [List.take_append_getElem h]
theorem count_more {cs : List Int} {i : Nat} (h : i < cs.length) : (cs.take (i + 1)).count (-1) = (cs.take i).count (-1) + if cs[i] = -1 then 1 else 0 := by
  rw [take_more h, List.count_append, List.count_singleton]
  by_cases e : cs[i] = -1
  · simp [e]
  · simp [e]
theorem big_more {cs : List Int} {L i : Nat} (h : i < cs.length) : big L (cs.take (i + 1)) = big L (cs.take i) + if (L : Int) ≤ cs[i] then 1 else 0 := by
  unfold big
  rw [take_more h, List.countP_append, List.countP_singleton]
  by_cases e : (L : Int) ≤ cs[i]
  · simp [e]
  · simp [e]
theorem count_big (L : Nat) (cs : List Int) : cs.count (-1) + big L cs ≤ cs.length := by
  induction cs with
  | nil => simp [big]
  | cons c cs ih =>
    unfold big at ih ⊢
    rw [List.count_cons, List.countP_cons, List.length_cons]
    by_cases e : c = -1
    · subst e
      have : decide ((L : Int) ≤ -1) = false := decide_eq_false (by omega)
      rw [this]
      simp
      omega
    · have : (c == -1) = false := by rw [beq_eq_false_iff_ne]; exact e
      rw [this]
      by_cases e2 : (L : Int) ≤ c
      · simp [e2]
        omega
      · simp [e2]
        omega
set_option maxHeartbeats 8000000 in
theorem least_calls {w : World} {A : Option Addr} {c : Nat} {zs : List (ByteArray × List Int)} (hC : Kd.C kP w A zs.length zs) (hc : zs.length ≤ c) (hl : zs.length ≤ 1048576) (he : (zs.map (·.2.length)).sum ≤ 1048576) :
    Calls Try.prog 8 #[.slice A zs.length c] w fun e w' => e = .returned (.bool true) ∧ Below w.heap.size w w' := by
  have HE := Aside0.mk he
  have HC := Aside0.mk hC
  clear hC
  go_enter Try.func8, Try.ntmps8
  go_wp2_with fail
  refine (alive_calls _).mono ?_
  rintro e w1 ⟨rfl, hb1⟩
  have M := Aside0.mk ((Sep.start w).below hb1)
  have HC1 := Aside0.mk (Kd.C_below HC.out hb1)
  clear hb1 HC
  go_wp2_with fail
  refine (named_calls M.out HC1.out hc hl HE.out).mono ?_
  rintro e w2 ⟨items, A2, c2, rfl, hI, hil, hc2, hm2⟩
  clear M HC1
  have hz1 := namedZ_len zs
  have hz2 := namedZ_sum zs
  have hkid : ∀ q ∈ items, q.part.kids.length ≤ 4194304 := fun q hq => by
    have h1 : nd q ∈ namedZ zs := by rw [← hI]; exact List.mem_map_of_mem hq
    have h2 := mem_le_sum (List.mem_map_of_mem (f := fun x : Nd => x.2.length) h1)
    have h3 : (nd q).2.length = q.part.kids.length := rfl
    have := HE.out
    omega
  have hr2 : Sep w w2 (readR w (NodesC A2 (items.map nd)) :: []) := nodes_read (c := c2) (by rw [hil]; exact hm2) (by omega) hkid
  rw [hI] at hr2
  have M := Aside0.mk hr2
  clear hm2 hr2 hkid hI hil
  by_cases h0 : 0 < zs.length
  · go_wp2_with fail
    have hsh := share_calls (c := c2) M.out (fun _ h => h) (by omega) (by omega) (named_valid _) (by have := HE.out; omega) (namedZ_lab HE.out)
    rw [hz1] at hsh
    refine hsh.mono ?_
    clear hsh
    rintro e w3 ⟨A3, c3, items3, rfl, hI3, hc3, hm3⟩
    clear M
    have hG := good_of h0 hl HE.out
    generalize hmm : shareN (namedZ zs) = m at hI3 hG
    clear hmm hz1 hz2
    have hlen : items3.length = m.length := by rw [← hI3, List.length_map]
    have hkid : ∀ q ∈ items3, q.part.kids.length ≤ 4194304 := fun q hq => by
      have h1 : nd q ∈ m := by rw [← hI3]; exact List.mem_map_of_mem hq
      have h2 := mem_le_sum (List.mem_map_of_mem (f := fun x : Nd => x.2.length) h1)
      have h3 : (nd q).2.length = q.part.kids.length := rfl
      have := hG.sum
      omega
    have hr3 := (nodes_read (c := c3) hm3 (by have := hG.few; omega) hkid).swap.tail
    rw [hI3] at hr3
    rw [hlen] at hc3 ⊢
    have M := Aside0.mk hr3
    have HG := Aside0.mk hG
    have n0 := hG.pos
    have n1 := hG.few
    clear hm3 hr3 hkid hI3 hlen hG h0
    have e0 : ((m.length : Int) == 0) = false := by rw [beq_eq_false_iff_ne]; omega
    go_wp2_with (at_make; refine wp_make M.out rfl _ _ 25 3 rfl Try.underlying25 info3 rfl rfl rfl (by omega) (by omega) ?_; intro w4 hm4; clear M; have M := Aside0.mk hm4; clear hm4)
    go_loopw [5] (fun v5 wr => ∃ i : Nat, i ≤ m.length ∧ v5 = .int .i64 i ∧ Aside0 (Sep w wr (rowR 3 1 (.slice (some ⟨w3.heap.size, 0, none⟩) m.length m.length) m.length ((plL m i 0).map nat) :: readR w (NodesC A3 m) :: []))) (fun v5 _ => m.length - (intOf v5).toNat)
    case atStart => exact ⟨0, by omega, rfl, ⟨by rw [plL_zero, List.map_replicate]; exact M.out⟩⟩
    case round =>
      clear M
      obtain ⟨i, hi, rfl, M⟩ := hrel
      by_cases hlt : i < m.length
      · go_wp2_with fail
        go_loopw [6] (fun v6 wq => ∃ k : Nat, k ≤ m[i].2.length ∧ v6 = .int .i64 k ∧ Aside0 (Sep w wq (rowR 3 1 (.slice (some ⟨w3.heap.size, 0, none⟩) m.length m.length) m.length ((plL m i k).map nat) :: readR w (NodesC A3 m) :: []))) (fun v6 _ => m[i].2.length - (intOf v6).toNat)
        case atStart => exact ⟨0, by omega, rfl, M⟩
        case round =>
          clear M
          obtain ⟨k, hk, rfl, M⟩ := hrel
          obtain ⟨ad, Ak, ck, rfl, x0, x1, hck, hCk⟩ := node_at (read_at (M.out.pull 1 (by simp))) hlt
          have hkle := kids_le HG.out.sum hlt
          by_cases hkl : k < m[i].2.length
          · obtain ⟨ak, rfl, hk0⟩ := kid_at hCk rfl hkl
            have hki := HG.out.valid i m[i] (List.getElem?_eq_getElem hlt) _ (List.getElem_mem hkl)
            have hstep := plL_kid hlt hkl (by omega)
            have hple := plA_le m i k m[i].2[k] 1048576 hi HG.out.sum
            have hpx : ((plL m i k).map nat)[m[i].2[k]]? = some (nat (plA m i k m[i].2[k])) := by
              have hr : m[i].2[k] < m.length := by omega
              unfold plL
              rw [List.map_map, List.getElem?_map, List.getElem?_range hr]
              rfl
            have HStep := Aside0.mk hstep
            clear hstep
            generalize m[i].2[k] = kid at hk0 hki hple hpx HStep
            generalize plA m i k kid = pv at hple hpx HStep
            have r0 : wr.cell? ⟨w3.heap.size, kid, none⟩ = some (.int .i64 (pv : Int)) := row_cell M.out hpx
            have hnf := row_free M.out n0 kid
            have hkm : kid < m.length := by omega
            replace hk0 : wr.cell? (ak.add k) = some (.int .i64 (kid : Int)) := hk0
            clear hpx
            have hst := Sep.stored M.out (j := kid) (u := nat (pv + 1)) hkm rfl
            rw [show nat (pv + 1) = .int .i64 ((pv : Int) + 1) from by unfold nat; go_num] at hst
            go_wp2_with fail
            go_roundw
            case rel => exact ⟨k + 1, by omega, by go_num, ⟨by
              rw [HStep.out, map_set, show nat (pv + 1) = .int .i64 ((pv : Int) + 1) from by unfold nat; go_num]
              exact hst⟩⟩
            case measure => simp [intOf]; omega
          · have hke : k = m[i].2.length := by omega
            subst hke
            go_wp2_with fail
            go_roundw
            case rel => exact ⟨i + 1, by omega, by go_num, ⟨by rw [← plL_next hlt]; exact M.out⟩⟩
            case measure => simp [intOf]; omega
      · have hie : i = m.length := by omega
        subst hie
        have n9 : m.length - 1 < m.length := by omega
        have hpx : ((plL m m.length 0).map nat)[m.length - 1]? = some (nat (plA m m.length 0 (m.length - 1))) := by
          unfold plL
          rw [List.map_map, List.getElem?_map, List.getElem?_range n9]
          rfl
        have hple := plA_le m m.length 0 (m.length - 1) 1048576 (Nat.le_refl _) HG.out.sum
        have HEnd := Aside0.mk (plL_end n0)
        have hsm := small m HG.out.valid HG.out.led 1048576 n1 HG.out.sum
        have HSm := Aside0.mk hsm
        clear hsm
        generalize plA m m.length 0 (m.length - 1) = pv at hple hpx HEnd
        have r0 : wr.cell? ⟨w3.heap.size, m.length - 1, none⟩ = some (.int .i64 (pv : Int)) := row_cell M.out hpx
        have hnf := row_free M.out n0 (m.length - 1)
        clear hpx
        have hst := Sep.stored M.out (j := m.length - 1) (u := nat (pv + 1)) n9 rfl
        rw [← map_set, HEnd.out, show nat (pv + 1) = .int .i64 ((pv : Int) + 1) from by unfold nat; go_num] at hst
        clear M
        have M := Aside0.mk hst
        clear hst HEnd
        have i0 : ((m.length : Int) - 1) = ((m.length - 1 : Nat) : Int) := by omega
        go_wp2_with fail
        clear i0 r0 hnf n9
        go_loopw [7, 8, 9, 10] (fun v7 v8 v9 v10 wr => ∃ i : Nat, i ≤ m.length ∧ v10 = .int .i64 i ∧ v7 = .int .i64 (upS (wantedN m) i : Nat) ∧ v8 = .int .i64 (upS (savedN m) i : Nat) ∧ v9 = .int .i64 (upS (callsN m) i : Nat) ∧ Aside0 (Sep w wr (rowR 3 1 (.slice (some ⟨w3.heap.size, 0, none⟩) m.length m.length) m.length (((List.range m.length).map (placesR m)).map nat) :: readR w (NodesC A3 m) :: []))) (fun _ _ _ v10 _ => m.length - (intOf v10).toNat)
        case atStart => exact ⟨0, by omega, rfl, rfl, rfl, rfl, M⟩
        case round =>
          clear M
          obtain ⟨i, hi, rfl, rfl, rfl, rfl, M⟩ := hrel
          obtain ⟨s1, s2, s3⟩ := HSm.out i hi
          by_cases hlt : i < m.length
          · obtain ⟨ad, Ak, ck, rfl, x0, x1, hck, hCk⟩ := node_at (read_at (M.out.pull 1 (by simp))) hlt
            have hkle := kids_le HG.out.sum hlt
            have r0 : wr.cell? ⟨w3.heap.size, i, none⟩ = some (.int .i64 (placesR m i : Int)) := row_cell M.out (by rw [List.map_map, List.getElem?_map, List.getElem?_range hlt]; rfl)
            have hW := Aside0.mk (upS_succ (wantedN m) i)
            have hS := Aside0.mk (upS_succ (savedN m) i)
            have hQ := Aside0.mk (upS_succ (callsN m) i)
            have hwa := Aside0.mk (wanted_at hlt)
            have hsa := Aside0.mk (savedR HG.out.valid hlt)
            have hpo := led_pos HG.out.led hlt
            have hpb : placesR m i ≤ 2097153 := by
              obtain ⟨t1, t2, t3⟩ := HSm.out (i + 1) (by omega)
              have hsp := split_places HG.out.led hlt
              rw [hW.out] at t1
              rw [hQ.out] at t3
              have e : plA m m.length 0 i = placesN m i := by
                unfold plA placesN
                rw [List.take_length, List.map_map]
                simp
                rfl
              have := plA_le m m.length 0 i 1048576 (Nat.le_refl _) HG.out.sum
              unfold placesR
              split <;> omega
            have b1 : upS (wantedN m) i ≤ 2199028760576 := Nat.le_trans s1 (by omega)
            have b3 : upS (callsN m) i ≤ 2199028760576 := Nat.le_trans s3 (by omega)
            clear s1 s3 hCk hck
            generalize upS (wantedN m) i = a1 at hW b1
            generalize upS (savedN m) i = a2 at hS s2
            generalize upS (callsN m) i = a3 at hQ b3
            generalize placesR m i = pv at r0 hwa hsa hpo hpb
            generalize hkn : m[i].2.length = kn at x1 hkle hwa hsa
            by_cases hk0 : kn = 0
            · have e1 : ((kn : Int) == 0) = true := by rw [hk0]; rfl
              subst hk0
              go_wp2_with fail
              exact ⟨⟨i + 1, by omega, by go_num, by rw [hW.out, hwa.out.1, if_pos rfl]; go_num, by rw [hS.out, hsa.out, if_neg (by omega)]; go_num, by rw [hQ.out, hwa.out.2, if_pos rfl]; go_num, M⟩, by simp [intOf]; omega⟩
            · have e1 : ((kn : Int) == 0) = false := by rw [beq_eq_false_iff_ne]; omega
              by_cases hp1 : 1 < pv
              · have e2 : decide ((1 : Int) < (pv : Int)) = true := decide_eq_true (by omega)
                go_wp2_with fail
                exact ⟨⟨i + 1, by omega, by go_num, by rw [hW.out, hwa.out.1, if_neg hk0]; go_num, by rw [hS.out, hsa.out, if_pos (by omega)]; go_num, by rw [hQ.out, hwa.out.2, if_neg hk0, if_pos hp1]; congr 1; omega, M⟩, by simp [intOf]; omega⟩
              · have e2 : decide ((1 : Int) < (pv : Int)) = false := decide_eq_false (by omega)
                go_wp2_with fail
                exact ⟨⟨i + 1, by omega, by go_num, by rw [hW.out, hwa.out.1, if_neg hk0]; go_num, by rw [hS.out, hsa.out, if_neg (by omega)]; go_num, by rw [hQ.out, hwa.out.2, if_neg hk0, if_neg hp1]; go_num, M⟩, by simp [intOf]; omega⟩
          · have hie : i = m.length := by omega
            subst hie
            have M2 := (read_old (C := MandC none []) (M.out.tail) (fun w' _ => mand_nil none w')).swap
            have hF : Fine [] m := fine_of n0 (by omega) HG.out.valid (by have := HG.out.sum; omega) HG.out.labs
            have hnc := nodes_calls (mc := 0) (c := c3) (v0 := .slice none 0 0) (v1 := .slice none 0 0) (v3 := .int .i64 0) (v4 := .slice none 0 0) M2 n0 (by omega) HG.out.valid (by have := HG.out.sum; omega) HG.out.labs hc3 (by simp) (by simp) hF
            have hsb := same_backs HG.out.valid n0 HG.out.led HG.out.apart
            have HNC := Aside0.mk hnc
            obtain ⟨q1, q2, q3, q4, q5⟩ := hsb
            change (codesL [] m).codes.length = upS (wantedN m) m.length + upS (savedN m) m.length + upS (callsN m) m.length at q1
            change (codesL [] m).codes.count (-1) = upS (savedN m) m.length at q2
            change big (namesL [] m).labels.length (codesL [] m).codes = upS (callsN m) m.length at q3
            have b1 : upS (wantedN m) m.length ≤ 2199028760576 := Nat.le_trans s1 (by omega)
            have b3 : upS (callsN m) m.length ≤ 2199028760576 := Nat.le_trans s3 (by omega)
            have Q4 := Aside0.mk q4
            have Q5 := Aside0.mk q5
            clear hnc M2 s1 s3 q4 q5 M HSm
            generalize hG1 : upS (wantedN m) m.length = a1 at q1 b1
            generalize hG2 : upS (savedN m) m.length = a2 at q1 q2 s2
            generalize hG3 : upS (callsN m) m.length = a3 at q1 q3 b3
            clear hG1 hG2 hG3
            have hbd := build35
            go_wp2_with fail
            refine HNC.out.mono ?_
            clear HNC
            rintro e w5 hout
            unfold NodesOut at hout
            by_cases hbig : 4000 < (codesL [] m).codes.length
            · rw [if_pos hbig] at hout
              obtain ⟨rfl, hm5⟩ := hout
              have hb5 := Aside0.mk hm5.1
              have g1 : (4000 : Int) < (a1 : Int) + (a2 : Int) + (a3 : Int) := by omega
              clear hm5
              go_wp2_with fail
              go_ret
              exact ⟨rfl, hb5.out⟩
            · rw [if_neg hbig] at hout
              obtain ⟨lv, cv, rfl, hm5⟩ := hout
              have hm6 := hm5.swap
              clear hm5
              generalize (codesL [] m).codes = cs at hbig q1 q2 q3 Q4 Q5 hm6
              generalize (namesL [] m).labels = ls at q3 hm6
              obtain ⟨A11, c11, rfl, hc11⟩ := row_slice (hm6.pull 1 (by simp)).row
              obtain ⟨A12, c12, rfl, hc12⟩ := row_slice hm6.row
              have M := Aside0.mk hm6
              clear hm6
              have g1 : decide ((4000 : Int) < (a1 : Int) + (a2 : Int) + (a3 : Int)) = false := decide_eq_false (by omega)
              have g2 : (((cs.length : Int) == (a1 : Int) + (a2 : Int) + (a3 : Int))) = true := by rw [beq_iff_eq]; omega
              have q6 := count_big ls.length cs
              go_wp2_with fail
              clear g1 g2 hbd
              go_loopw [7, 8, 9, 14] (fun v7 v8 v9 v14 wr => ∃ i : Nat, i ≤ cs.length ∧ v14 = .int .i64 i ∧ v7 = .int .i64 ((a1 : Int) - ((i : Int) - (((cs.take i).count (-1) : Nat) : Int) - (big ls.length (cs.take i) : Nat))) ∧ v8 = .int .i64 ((a2 : Int) - (((cs.take i).count (-1) : Nat) : Int)) ∧ v9 = .int .i64 ((a3 : Int) - (big ls.length (cs.take i) : Nat)) ∧ Aside0 (Sep w wr (rowR 3 1 (.slice A12 cs.length c12) cs.length (cs.map num) :: rowR 9 1 (.slice A11 ls.length c11) ls.length (ls.map Value.string) :: readR w (NodesC A3 m) :: readR w (MandC none []) :: []))) (fun _ _ _ v14 _ => cs.length - (intOf v14).toNat)
              case atStart => exact ⟨0, by omega, rfl, by simp [big], by simp, by simp [big], M⟩
              case round =>
                clear M
                obtain ⟨i, hi, rfl, rfl, rfl, rfl, M⟩ := hrel
                have cb := count_big ls.length (cs.take i)
                rw [List.length_take, Nat.min_eq_left hi] at cb
                by_cases hlt : i < cs.length
                · have hcm := Aside0.mk (count_more hlt)
                  have hbm := Aside0.mk (big_more (L := ls.length) hlt)
                  have hrow := row_some M.out.row (by omega)
                  obtain ⟨g12, cp, hv12, _, hcell, _, _⟩ := hrow
                  injection hv12 with hA _ _
                  subst hA
                  have hcc := hcell i _ (by rw [List.getElem?_map, List.getElem?_eq_getElem hlt]; rfl)
                  have hq4 := Q4.out i
                  have hq5 := Q5.out cs[i] (List.getElem_mem hlt)
                  have r0 : wr.cell? ⟨g12, i, none⟩ = some (.int .i64 cs[i]) := hcc
                  rw [List.getElem?_eq_getElem hlt] at hq4
                  clear hcc
                  by_cases hm1 : cs[i] = -1
                  · obtain ⟨p1, p2, p3, p4⟩ := hq4 (by rw [hm1])
                    have r1 : wr.cell? ⟨g12, i - 1, none⟩ = some (.int .i64 p2) := hcell (i - 1) _ (by rw [List.getElem?_map, p3]; rfl)
                    have i0 : ((i : Int) - 1) = ((i - 1 : Nat) : Int) := by omega
                    have e1 : ((i : Int) == 0) = false := by rw [beq_eq_false_iff_ne]; omega
                    have e2 : (p2 == (-1 : Int)) = false := by rw [beq_eq_false_iff_ne]; omega
                    have e3 : (cs[i] == (-1 : Int)) = true := by rw [hm1]; rfl
                    clear hq4 hq5 hcell p3
                    generalize cs[i] = n at *
                    have hle : ¬ ((ls.length : Int) ≤ n) := by omega
                    rw [if_neg hle] at hbm
                    go_wp2_with fail
                    exact ⟨⟨i + 1, by omega, by go_num, by rw [hcm.out, hbm.out, if_pos (by omega)]; congr 1; omega, by rw [hcm.out, if_pos (by omega)]; congr 1; omega, by rw [hbm.out]; go_num, M⟩, by simp [intOf]; omega⟩
                  · have e3 : (cs[i] == (-1 : Int)) = false := by rw [beq_eq_false_iff_ne]; exact hm1
                    clear hq4 hq5 hcell
                    rw [if_neg hm1] at hcm
                    by_cases hle : (ls.length : Int) ≤ cs[i]
                    · have e1 : decide ((ls.length : Int) ≤ cs[i]) = true := decide_eq_true hle
                      rw [if_pos hle] at hbm
                      generalize cs[i] = n at *
                      go_wp2_with fail
                      exact ⟨⟨i + 1, by omega, by go_num, by rw [hcm.out, hbm.out]; congr 1; omega, by rw [hcm.out]; go_num, by rw [hbm.out]; congr 1; omega, M⟩, by simp [intOf]; omega⟩
                    · have e1 : decide ((ls.length : Int) ≤ cs[i]) = false := decide_eq_false hle
                      rw [if_neg hle] at hbm
                      generalize cs[i] = n at *
                      go_wp2_with fail
                      exact ⟨⟨i + 1, by omega, by go_num, by rw [hcm.out, hbm.out]; congr 1; omega, by rw [hcm.out]; go_num, by rw [hbm.out]; go_num, M⟩, by simp [intOf]; omega⟩
                · have hie : i = cs.length := by omega
                  subst hie
                  rw [List.take_length] at *
                  have z8 : (a2 : Int) - ((cs.count (-1) : Nat) : Int) = 0 := by omega
                  have z9 : (a3 : Int) - ((big ls.length cs : Nat) : Int) = 0 := by omega
                  have z7 : (a1 : Int) - ((cs.length : Int) - ((cs.count (-1) : Nat) : Int) - ((big ls.length cs : Nat) : Int)) = 0 := by omega
                  rw [z7, z8, z9]
                  have HB := Aside0.mk M.out.1
                  clear M
                  go_wp2_with fail
                  go_ret
                  exact ⟨rfl, HB.out⟩
  · have hz0 : zs.length = 0 := by omega
    have hb0 := M.out.1
    clear M
    rw [hz0]
    go_wp2_with fail
    refine (share_empty _ _ _).mono ?_
    rintro e w3 ⟨rfl, hb3⟩
    have HB := Aside0.mk (hb0.trans (hb3.mono hb0.size))
    clear hb3 hb0
    go_wp2_with fail
    go_ret
    exact ⟨rfl, HB.out⟩
end Go.Proofs.Ytkonloadedbpkaa.LeastW
