/- SpreadW, CopyW. -/
import Derived.Test.YtkonloadedbpkaaZ4
import Derived.Test.YtkonloadedbpkaaZ8
import Derived.Test.YtkonloadedbpkaaZ10
import Derived.StillTailTactics
namespace Go.Proofs.Ytkonloadedbpkaa.SpreadW
open Go.RowKit Go.Maps Go.Proofs.Ytkonloadedbpkaa.Sep Go.Proofs.Ytkonloadedbpkaa.FMaps Go.Proofs.Ytkonloadedbpkaa.FoldPure Go.Proofs.Ytkonloadedbpkaa.FoldMem Go.Proofs.Ytkonloadedbpkaa.NodeMem Go.Proofs.Ytkonloadedbpkaa.Spare Go.Proofs.Ytkonloadedbpkaa.CutW Go.Proofs.Ytkonloadedbpkaa.SpreadP Go.Proofs.Ytkonloadedbpkaa.Kept Go.Proofs.Ytkonloadedbpkaa.Lits
open Go.Proofs.YtkonloadedbpkaaW.PrintWords
set_option linter.unusedVariables false
set_option linter.unusedSimpArgs false
set_option maxRecDepth 100000

theorem sp_next {names : List ByteArray} {ar : List Nat} {most i : Nat} {codes : List Int} {st fin : SS} (h : spRun names ar most (codes.drop i) st = some fin) (hi : i < codes.length) : ∃ st', spStep names ar most st codes[i] = some st' ∧ spRun names ar most (codes.drop (i + 1)) st' = some fin := by
  rw [List.drop_eq_getElem_cons hi] at h
  have h2 : (spStep names ar most st codes[i]).bind (spRun names ar most (codes.drop (i + 1))) = some fin := h
  obtain ⟨st', h3, h4⟩ := Option.bind_eq_some_iff.1 h2
  exact ⟨st', h3, h4⟩
theorem sp_cases {names : List ByteArray} {ar : List Nat} {most : Nat} {st st' : SS} {c : Int} (h : spStep names ar most st c = some st') :
    (c = -1 ∧ ∃ p, st.1.getLast? = some p ∧ st' = (st.1, st.2 ++ [p])) ∨
    (∃ n : Nat, c = n ∧ names.length ≤ n ∧ n < names.length + st.2.length ∧ st' = (st.1 ++ [st.2.getD (n - names.length) []], st.2)) ∨
    (∃ n : Nat, c = n ∧ n < names.length ∧ ar.getD n 0 ≤ st.1.length ∧ ((st.1.drop (st.1.length - ar.getD n 0)).flatten ++ [names.getD n ByteArray.empty]).length ≤ most ∧ st' = (st.1.take (st.1.length - ar.getD n 0) ++ [(st.1.drop (st.1.length - ar.getD n 0)).flatten ++ [names.getD n ByteArray.empty]], st.2)) := by
  unfold spStep at h
  split at h
  · rename_i hc
    left
    refine ⟨hc, ?_⟩
    cases hl : st.1.getLast? with
    | none => rw [hl] at h; cases h
    | some p =>
      rw [hl] at h
      exact ⟨p, rfl, (Option.some.inj h).symm⟩
  · split at h
    · cases h
    · rename_i h1 h2
      simp only [not_or] at h2
      obtain ⟨n, rfl⟩ : ∃ n : Nat, c = n := ⟨c.toNat, by omega⟩
      right
      split at h
      · left
        exact ⟨n, rfl, by omega, by omega, (Option.some.inj h).symm⟩
      · right
        split at h
        · cases h
        · split at h
          · cases h
          · rename_i h3 h4 h5
            simp only [Int.toNat_natCast] at h h4 h5
            exact ⟨n, rfl, by omega, by omega, by omega, (Option.some.inj h).symm⟩
/-- A list of texts, where it lies. -/
structure TI where
  A : Option Addr
  c : Nat
  xs : List ByteArray
def tv (q : TI) : Value := .slice q.A q.xs.length q.c
structure SpC (D : World → Prop) (ps ss : List TI) (w : World) : Prop where
  all : D w
  parts : ∀ q ∈ ps, q.xs.length ≤ q.c ∧ Kd.C Kd.string w q.A q.xs.length q.xs
  saved : ∀ q ∈ ss, q.xs.length ≤ q.c ∧ Kd.C Kd.string w q.A q.xs.length q.xs
theorem info22 : (Try.prog.info? 22).map (fun i => (i.zero, i.size, i.bytes)) = some (some (.slice none 0 0), 1, 24) := by kernel_rfl
def oneL (ps : List TI) (K j : Nat) : List ByteArray := (((ps.take j).drop K).map TI.xs).flatten
theorem oneL_start (ps : List TI) (K : Nat) : oneL ps K K = [] := by
  unfold oneL
  rw [List.drop_eq_nil_of_le (by rw [List.length_take]; omega)]
  rfl
theorem oneL_more {ps : List TI} {K j : Nat} (hK : K ≤ j) (hj : j < ps.length) : oneL ps K (j + 1) = oneL ps K j ++ ps[j].xs := by
  unfold oneL
  rw [List.take_succ_eq_append_getElem hj, List.drop_append_of_le_length (by rw [List.length_take]; omega)]
  simp
theorem oneL_end (ps : List TI) (K : Nat) : oneL ps K ps.length = ((ps.map TI.xs).drop K).flatten := by
  unfold oneL
  rw [List.take_length, List.map_drop]
theorem oneL_le {ps : List TI} {K : Nat} : ∀ {j k : Nat}, K ≤ j → j ≤ k → k ≤ ps.length → (oneL ps K j).length ≤ (oneL ps K k).length := by
  intro j k hj hk hl
  obtain ⟨d, rfl⟩ : ∃ d, k = j + d := ⟨k - j, by omega⟩
  induction d with
  | zero => exact Nat.le_refl _
  | succ d ih =>
    rw [← Nat.add_assoc, oneL_more (by omega) (by omega), List.length_append]
    have := ih (by omega) (by omega)
    omega
theorem save_more {w w' : World} {D : World → Prop} {ps ss : List TI} {q : TI} {A : Option Addr} {c : Nat} {v10 : Value} {n : Nat} (hq : q ∈ ps) (h : Sep w w' (rowR 22 1 (.slice A (ss.length + 1) c) (ss.length + 1) (ss.map tv ++ [tv q]) :: rowR 22 1 v10 n (ps.map tv) :: readR w (SpC D ps ss) :: [])) :
    Sep w w' (rowR 22 1 v10 n (ps.map tv) :: rowR 22 1 (.slice A (ss ++ [q]).length c) (ss ++ [q]).length ((ss ++ [q]).map tv) :: readR w (SpC D ps (ss ++ [q])) :: []) := by
  have h2 := h.pull 2 (by simp)
  have h3 := read_weak h2 (C' := SpC D ps (ss ++ [q])) (fun w' hC => ⟨hC.all, hC.parts, fun x hx => by
    rcases List.mem_append.1 hx with hx | hx
    · exact hC.saved x hx
    · rw [List.mem_singleton] at hx
      subst hx
      exact hC.parts x hq⟩)
  have h4 := (h3.pull 1 (by simp)).pull 2 (by simp)
  rw [List.length_append, List.map_append]
  exact h4
theorem part_more {w w' : World} {D : World → Prop} {ps ss : List TI} {q : TI} {A : Option Addr} {c : Nat} {v11 : Value} {n : Nat} (hq : q ∈ ss) (h : Sep w w' (rowR 22 1 (.slice A (ps.length + 1) c) (ps.length + 1) (ps.map tv ++ [tv q]) :: rowR 22 1 v11 n (ss.map tv) :: readR w (SpC D ps ss) :: [])) :
    Sep w w' (rowR 22 1 (.slice A (ps ++ [q]).length c) (ps ++ [q]).length ((ps ++ [q]).map tv) :: rowR 22 1 v11 n (ss.map tv) :: readR w (SpC D (ps ++ [q]) ss) :: []) := by
  have h2 := h.pull 2 (by simp)
  have h3 := read_weak h2 (C' := SpC D (ps ++ [q]) ss) (fun w' hC => ⟨hC.all, fun x hx => by
    rcases List.mem_append.1 hx with hx | hx
    · exact hC.parts x hx
    · rw [List.mem_singleton] at hx
      subst hx
      exact hC.saved x hq, hC.saved⟩)
  have h4 := (h3.pull 2 (by simp)).pull 2 (by simp)
  rw [List.length_append, List.map_append]
  exact h4
theorem part_new {w w' : World} {D : World → Prop} {ps ss : List TI} {q : TI} {A : Option Addr} {c : Nat} {v11 : Value} {n K : Nat} {vq : Value} {m : Nat} {xv : List Value} (hK : K ≤ ps.length) (hl : q.xs.length ≤ 4194304) (hvq : vq = tv q) (hm : m = q.xs.length) (hx : xv = q.xs.map Value.string) (h : Sep w w' (rowR 22 1 (.slice A (K + 1) c) (K + 1) ((ps.map tv).take K ++ [vq]) :: rowR 9 1 vq m xv :: rowR 22 1 v11 n (ss.map tv) :: readR w (SpC D ps ss) :: [])) :
    Sep w w' (rowR 22 1 (.slice A (ps.take K ++ [q]).length c) (ps.take K ++ [q]).length ((ps.take K ++ [q]).map tv) :: rowR 22 1 v11 n (ss.map tv) :: readR w (SpC D (ps.take K ++ [q]) ss) :: []) := by
  subst hvq hm hx
  rw [← List.map_take] at h
  have h2 := (h.pull 3 (by simp)).pull 2 (by simp)
  have h3 := ShareL.join_read (fun w' => q.xs.length ≤ q.c ∧ Kd.C Kd.string w' q.A q.xs.length q.xs) h2 (fun w f hf => row_Cs hf.1 (by omega))
  have h4 := read_weak h3 (C' := SpC D (ps.take K ++ [q]) ss) (fun w' hC => ⟨hC.2.all, fun x hx => by
    rcases List.mem_append.1 hx with hx | hx
    · exact hC.2.parts x (List.mem_of_mem_take hx)
    · rw [List.mem_singleton] at hx
      subst hx
      exact hC.1, hC.2.saved⟩)
  have h5 := (h4.pull 2 (by simp)).pull 2 (by simp)
  rw [List.length_append, List.map_append, List.length_take, Nat.min_eq_left hK]
  exact h5
set_option maxHeartbeats 8000000 in
theorem spread_calls {W w : World} {rs : List Res} {A0 A1 A2 : Option Addr} {c0 c1 c2 most : Nat} {names out : List ByteArray} {codes : List Int} {ar : List Nat} {sv : List (List ByteArray)} (M : Sep W w rs)
    (hC : ∀ w' : World, (∀ k, k < w.heap.size → w'.heap[k]? = w.heap[k]?) → Kd.C Kd.string w' A0 names.length names ∧ Kd.C (Kd.int .i64) w' A1 codes.length codes ∧ Kd.C (Kd.int .i64) w' A2 names.length (ints ar))
    (hn : names.length ≤ 4194304) (hc : codes.length ≤ 4194304) (hm : most ≤ 4194304) (hrun : spRun names ar most codes ([], []) = some ([out], sv)) :
    Calls Try.prog 33 #[.slice A0 names.length c0, .slice A1 codes.length c1, .slice A2 names.length c2, .int .i64 (most : Int)] w fun e w' => ∃ A c, e = .returned (.tuple #[.slice A out.length c, .bool true]) ∧ out.length ≤ c ∧ Kd.C Kd.string w' A out.length out ∧ Sep W w' rs := by
  have HR := Aside0.mk hrun
  have M0 := Aside0.mk M
  have hM := read_old (C := fun w' => Kd.C Kd.string w' A0 names.length names ∧ Kd.C (Kd.int .i64) w' A1 codes.length codes ∧ Kd.C (Kd.int .i64) w' A2 names.length (ints ar)) (Sep.start w) hC
  obtain ⟨D, hD⟩ : ∃ D : World → Prop, D = fun w' => Kd.C Kd.string w' A0 names.length names ∧ Kd.C (Kd.int .i64) w' A1 codes.length codes ∧ Kd.C (Kd.int .i64) w' A2 names.length (ints ar) := ⟨_, rfl⟩
  rw [← hD] at hM
  have HD := Aside0.mk (show ∀ w', D w' → Kd.C Kd.string w' A0 names.length names ∧ Kd.C (Kd.int .i64) w' A1 codes.length codes ∧ Kd.C (Kd.int .i64) w' A2 names.length (ints ar) from fun w' h => by rw [hD] at h; exact h)
  clear hD
  clear hrun M hC
  have hM2 := Aside0.mk (row_nil (row_nil (read_weak hM (C' := SpC D [] []) (fun _ h => ⟨h, by simp, by simp⟩)) 22 1) 22 1)
  clear hM
  have M := hM2
  clear hM2
  go_enter Try.func33, Try.ntmps33
  go_wp2_with fail
  go_loopw [10, 11, 12] (fun v10 v11 v12 wr => ∃ (i : Nat) (ps ss : List TI) (A10 A11 : Option Addr) (c10 c11 : Nat), i ≤ codes.length ∧ ps.length ≤ i ∧ ss.length ≤ i ∧ v10 = .slice A10 ps.length c10 ∧ v11 = .slice A11 ss.length c11 ∧ v12 = .int .i64 i ∧ ps.length ≤ c10 ∧ Aside0 (spRun names ar most (codes.drop i) (ps.map TI.xs, ss.map TI.xs) = some ([out], sv)) ∧
    Aside0 (Sep w wr (rowR 22 1 (.slice A10 ps.length c10) ps.length (ps.map tv) :: rowR 22 1 (.slice A11 ss.length c11) ss.length (ss.map tv) :: readR w (SpC D ps ss) :: []))) (fun _ _ v12 _ => codes.length - (intOf v12).toNat)
  case atStart => exact ⟨0, [], [], none, none, 0, 0, by omega, by simp, by simp, rfl, rfl, rfl, by simp, ⟨HR.out⟩, M⟩
  case round =>
    clear M HR
    obtain ⟨i, ps, ss, A10, A11, c10, c11, hi, hps, hss, rfl, rfl, rfl, hc10, HR, M⟩ := hrel
    by_cases hlt : i < codes.length
    · obtain ⟨st', hst, hnx⟩ := sp_next HR.out hlt
      have hst2 := sp_cases hst
      clear hst HR
      have HR := Aside0.mk hnx
      clear hnx
      obtain ⟨a1, rfl, hcd⟩ := Ci_at (HD.out _ (read_at (M.out.pull 2 (by simp))).all).2.1 (List.getElem?_eq_getElem hlt)
      replace hcd : wr.cell? (a1.add i) = some (.int .i64 codes[i]) := hcd
      generalize codes[i] = c at hcd hst2
      rcases hst2 with ⟨rfl, p, hp, rfl⟩ | ⟨n, rfl, hn1, hn2, rfl⟩ | ⟨n, rfl, hn1, hn2, hn3, rfl⟩
      · -- a save
        have hpl : 0 < ps.length := by
          rcases Nat.eq_zero_or_pos ps.length with h | h
          · rw [List.eq_nil_of_length_eq_zero h] at hp
            cases hp
          · exact h
        have hpl2 : ps.length - 1 < ps.length := by omega
        obtain ⟨g10, cp, hv10, _, hcell, _⟩ := row_some M.out.row hpl
        simp only [Value.slice.injEq, true_and] at hv10
        obtain ⟨rfl, rfl⟩ := hv10
        have r0 : wr.cell? ⟨g10, ps.length - 1, none⟩ = some (tv ps[ps.length - 1]) := hcell _ _ (by rw [List.getElem?_map, List.getElem?_eq_getElem hpl2]; rfl)
        have hpx : ps[ps.length - 1].xs = p := by
          rw [List.getLast?_eq_getElem?, List.getElem?_map, List.length_map, List.getElem?_eq_getElem hpl2] at hp
          exact Option.some.inj hp
        have hpm : ps[ps.length - 1] ∈ ps := List.getElem_mem hpl2
        generalize ps[ps.length - 1] = q at r0 hpx hpm
        subst hpx
        unfold tv at r0
        clear hcell hp
        have e0 : ((ps.length : Int) == 0) = false := by rw [beq_eq_false_iff_ne]; omega
        have e1 : (ps.length : Int) - 1 = ((ps.length - 1 : Nat) : Int) := by omega
        go_wp2_with (at_builtin; refine wp_one24 ((M.out.alloc (.cells #[.slice q.A q.xs.length q.c] 22)).pull 1 (by simp)) rfl (.tmp 32) (.tmp 39) 83 rfl Try.underlying83 info22 rfl rfl rfl (new_cell _ _ _) rfl (by omega) (by omega) ?_; intro A12 c12 w12 hc12 hm12; clear M; have M := Aside0.mk hm12; clear hm12)
        exact ⟨⟨i + 1, ps, ss ++ [q], _, A12, c10, c12, by omega, by omega, by simp; omega, rfl, by simp, by go_num, hc10, ⟨by rw [List.map_append]; exact HR.out⟩, ⟨save_more hpm M.out⟩⟩, by simp [intOf]; omega⟩
      · -- one that was saved
        simp only [List.length_map] at hn2
        have hsl : n - names.length < ss.length := by omega
        obtain ⟨g11, cp, hv11, _, hcell, _⟩ := row_some (M.out.pull 1 (by simp)).row (by omega)
        simp only [Value.slice.injEq, true_and] at hv11
        obtain ⟨rfl, rfl⟩ := hv11
        have r0 : wr.cell? ⟨g11, n - names.length, none⟩ = some (tv ss[n - names.length]) := hcell _ _ (by rw [List.getElem?_map, List.getElem?_eq_getElem hsl]; rfl)
        have hpx : (ss.map TI.xs).getD (n - names.length) [] = ss[n - names.length].xs := by
          rw [List.getD_eq_getElem?_getD, List.getElem?_map, List.getElem?_eq_getElem hsl]
          rfl
        rw [hpx] at HR
        have hpm : ss[n - names.length] ∈ ss := List.getElem_mem hsl
        generalize ss[n - names.length] = q at r0 HR hpm
        unfold tv at r0
        clear hcell hpx
        have e1 : (n : Int) - (names.length : Int) = ((n - names.length : Nat) : Int) := by omega
        have e2 : ((n : Int) == -1) = false := by rw [beq_eq_false_iff_ne]; omega
        have e3 : decide ((n : Int) < 0) = false := decide_eq_false (by omega)
        go_wp2_with (at_builtin; refine wp_one24 (M.out.alloc (.cells #[.slice q.A q.xs.length q.c] 22)) rfl (.tmp 56) (.tmp 64) 83 rfl Try.underlying83 info22 rfl rfl rfl (new_cell _ _ _) rfl (by omega) (by omega) ?_; intro A12 c12 w12 hc12 hm12; clear M; have M := Aside0.mk hm12; clear hm12)
        exact ⟨⟨i + 1, ps ++ [q], ss, A12, _, c12, c11, by omega, by simp; omega, by omega, by simp, rfl, by go_num, by simp; omega, ⟨by rw [List.map_append]; exact HR.out⟩, ⟨part_more hpm M.out⟩⟩, by simp [intOf]; omega⟩
      · -- a label
        simp only [List.length_map] at hn2 hn3 HR
        have harl : n < ar.length := by
          have := (HD.out _ (read_at (M.out.pull 2 (by simp))).all).2.2.1
          rw [List.length_map] at this
          omega
        obtain ⟨a0, rfl, hnm⟩ := Cs_at (HD.out _ (read_at (M.out.pull 2 (by simp))).all).1 (List.getElem?_eq_getElem hn1)
        obtain ⟨a2, rfl, hav⟩ := Ci_at (HD.out _ (read_at (M.out.pull 2 (by simp))).all).2.2 (j := n) (p := ((ar[n] : Nat) : Int)) (by rw [List.getElem?_map, List.getElem?_eq_getElem harl]; rfl)
        replace hav : wr.cell? (a2.add n) = some (.int .i64 ((ar[n] : Nat) : Int)) := hav
        have ea : ar.getD n 0 = ar[n] := by
          rw [List.getD_eq_getElem?_getD, List.getElem?_eq_getElem harl]
          rfl
        have en : names.getD n ByteArray.empty = names[n] := by
          rw [List.getD_eq_getElem?_getD, List.getElem?_eq_getElem hn1]
          rfl
        rw [ea] at hn2 hn3 HR
        rw [en] at hn3 HR
        generalize ar[n] = a at hav hn2 hn3 HR
        generalize hnme : names[n] = nm at hnm hn3 HR
        have HNm := Aside0.mk hnme
        clear ea en hnme
        obtain ⟨K, hK⟩ : ∃ K, K = ps.length - a := ⟨_, rfl⟩
        rw [← hK, ← oneL_end, ← List.map_take] at HR
        rw [← hK, ← oneL_end, List.length_append] at hn3
        have hKl : K ≤ ps.length := by omega
        have e1 : (ps.length : Int) - (a : Int) = (K : Int) := by omega
        have e2 : ((n : Int) == -1) = false := by rw [beq_eq_false_iff_ne]; omega
        have e3 : decide ((n : Int) < 0) = false := decide_eq_false (by omega)
        have e4 : ¬ names.length ≤ n := by omega
        have e5 : decide ((names.length : Int) ≤ (n : Int)) = false := decide_eq_false (by omega)
        have e6 : decide ((K : Int) < 0) = false := decide_eq_false (by omega)
        have e7 : decide ((names.length : Int) + (ss.length : Int) ≤ (n : Int)) = false := decide_eq_false (by omega)
        clear hK hn2
        go_wp2_with fail
        go_loopw [15, 16] (fun v15 v16 wr => ∃ (j : Nat) (A15 : Option Addr) (c15 : Nat), K ≤ j ∧ j ≤ ps.length ∧ v15 = .slice A15 (oneL ps K j).length c15 ∧ v16 = .int .i64 j ∧ Aside0 (Sep w wr (rowR 9 1 (.slice A15 (oneL ps K j).length c15) (oneL ps K j).length ((oneL ps K j).map Value.string) :: rowR 22 1 (.slice A10 ps.length c10) ps.length (ps.map tv) :: rowR 22 1 (.slice A11 ss.length c11) ss.length (ss.map tv) :: readR w (SpC D ps ss) :: []))) (fun v15 v16 _ => ps.length - (intOf v16).toNat)
        case atStart => exact ⟨K, none, 0, Nat.le_refl _, hKl, by rw [oneL_start]; rfl, rfl, ⟨by rw [oneL_start]; exact row_nil M.out 9 1⟩⟩
        case round =>
          clear M hcd hnm hav
          obtain ⟨j, A15, c15, hKj, hj, rfl, rfl, M⟩ := hrel
          by_cases hjl : j < ps.length
          · obtain ⟨g10, cp, hv10, _, hcell, _⟩ := row_some (M.out.pull 1 (by simp)).row (by omega)
            simp only [Value.slice.injEq, true_and] at hv10
            obtain ⟨rfl, rfl⟩ := hv10
            have r0 : wr.cell? ⟨g10, j, none⟩ = some (tv ps[j]) := hcell _ _ (by rw [List.getElem?_map, List.getElem?_eq_getElem hjl]; rfl)
            have hpm := (read_at (M.out.pull 3 (by simp))).parts ps[j] (List.getElem_mem hjl)
            have hle := oneL_le (ps := ps) (K := K) (j := j + 1) (k := ps.length) (by omega) (by omega) (Nat.le_refl _)
            have hmore := oneL_more hKj hjl
            rw [hmore, List.length_append] at hle
            have HMore := Aside0.mk hmore
            generalize ps[j] = q at r0 hpm hle HMore
            generalize oneL ps K j = os at M hle HMore
            have hqa := Aside0.mk (Cs_all hpm.2)
            have hqc := hpm.1
            unfold tv at r0
            clear hcell hpm hmore
            go_wp2_with (at_builtin; refine wp_many M.out rfl (.tmp 82) (.tmp 86) 22 rfl Try.underlying22 (by kernel_rfl) rfl rfl rfl (z := .string .empty) (b := 16) (news := q.xs.map Value.string) (by simp) hqa.out.1 hqa.out.2 (by intro u hu; simp at hu; obtain ⟨_, _, rfl⟩ := hu; rfl) (by omega) (by omega) ?_; intro v6 w6 hm6; clear M; have M := Aside0.mk hm6; clear hm6)
            go_roundw
            case rel =>
              obtain ⟨A6, c6, rfl, _⟩ := row_slice M.out.row
              exact ⟨j + 1, A6, c6, by omega, by omega, by rw [HMore.out, List.length_append], by go_num, ⟨by rw [HMore.out, List.length_append, List.map_append]; exact M.out⟩⟩
            case measure => simp [intOf]; omega
          · have hje : j = ps.length := by omega
            subst hje
            have hnr := (HD.out _ (read_at (M.out.pull 3 (by simp))).all).1
            obtain ⟨a0', e0, hnm⟩ := Cs_at hnr (List.getElem?_eq_getElem hn1)
            cases e0
            rw [HNm.out] at hnm
            have hcp := (row_slice (M.out.pull 1 (by simp)).row)
            generalize oneL ps K ps.length = os at M HR hn3
            have hn4 : os.length + 1 ≤ most := hn3
            have hn5 : decide ((most : Int) < ((os.length + 1 : Nat) : Int)) = false := decide_eq_false (by omega)
            go_upto_region 24 with (at_builtin; refine wp_one24 (M.out.alloc (.cells #[.string nm] 9)) rfl (.tmp 88) (.tmp 93) 22 rfl Try.underlying22 info9 rfl rfl rfl (new_cell _ _ _) rfl (by omega) (by omega) ?_; intro A12 c12 w12 hc12 hm12; clear M; have M := Aside0.mk hm12; clear hm12)
            have hz := (row_src' (M.out.pull 1 (by simp)).row).1
            have HR2 := Aside0.mk (show spRun names ar most (codes.drop (i + 1)) ((ps.take K ++ [(⟨A12, c12, os ++ [nm]⟩ : TI)]).map TI.xs, ss.map TI.xs) = some ([out], sv) by rw [List.map_append]; exact HR.out)
            clear HR
            have hcl : ∀ {w13 : World} {A13 : Option Addr} {c13 : Nat}, Sep w w13 (rowR 22 1 (.slice A13 (K + 1) c13) (K + 1) ((ps.map tv).take K ++ [.slice A12 (os.length + 1) c12]) :: rowR 9 1 (.slice A12 (os.length + 1) c12) (os.length + 1) (os.map Value.string ++ [.string nm]) :: rowR 22 1 (.slice A11 ss.length c11) ss.length (ss.map tv) :: readR w (SpC D ps ss) :: []) →
                Sep w w13 (rowR 22 1 (.slice A13 (ps.take K ++ [(⟨A12, c12, os ++ [nm]⟩ : TI)]).length c13) (ps.take K ++ [(⟨A12, c12, os ++ [nm]⟩ : TI)]).length ((ps.take K ++ [(⟨A12, c12, os ++ [nm]⟩ : TI)]).map tv) :: rowR 22 1 (.slice A11 ss.length c11) ss.length (ss.map tv) :: readR w (SpC D (ps.take K ++ [(⟨A12, c12, os ++ [nm]⟩ : TI)]) ss) :: []) := fun h =>
              part_new hKl (by simp; omega) (by simp [tv]) (by simp) (by simp) h
            have HCl := Aside0.mk @hcl
            have hlen : (ps.take K ++ [(⟨A12, c12, os ++ [nm]⟩ : TI)]).length = K + 1 := by simp; omega
            have HLen := Aside0.mk hlen
            clear hcl hlen
            have e8 : K ≤ c10 := by omega
            have e9 : (K : Int) ≤ (c10 : Int) := by omega
            rcases A10 with _ | ad10
            · have hp0 := hz rfl
              obtain rfl : K = 0 := by omega
              clear hz
              go_wp2_with (at_builtin; refine wp_cutcap ((M.out.alloc (.cells #[.slice A12 (os.length + 1) c12] 22)).pull 1 (by simp)) rfl (.tmp 102) (.tmp 104) 83 rfl Try.underlying83 info22 rfl hKl rfl rfl (new_cell _ _ _) rfl (by omega) (by omega) ?_; intro A13 c13 w13 hc13 hm13; clear M; have M := Aside0.mk hm13; clear hm13)
              exact ⟨⟨i + 1, _, ss, A13, A11, c13, c11, by omega, by rw [HLen.out]; omega, by omega, by rw [HLen.out], rfl, by go_num, by rw [HLen.out]; exact hc13, ⟨HR2.out⟩, ⟨HCl.out M.out⟩⟩, by simp [intOf]; omega⟩
            · clear hz
              go_wp2_with (at_builtin; refine wp_cutcap ((M.out.alloc (.cells #[.slice A12 (os.length + 1) c12] 22)).pull 1 (by simp)) rfl (.tmp 102) (.tmp 104) 83 rfl Try.underlying83 info22 rfl hKl rfl rfl (new_cell _ _ _) rfl (by omega) (by omega) ?_; intro A13 c13 w13 hc13 hm13; clear M; have M := Aside0.mk hm13; clear hm13)
              exact ⟨⟨i + 1, _, ss, A13, A11, c13, c11, by omega, by rw [HLen.out]; omega, by omega, by rw [HLen.out], rfl, by go_num, by rw [HLen.out]; exact hc13, ⟨HR2.out⟩, ⟨HCl.out M.out⟩⟩, by simp [intOf]; omega⟩
    · have hie : i = codes.length := by omega
      subst hie
      have hr := HR.out
      rw [List.drop_length] at hr
      have hr2 : (ps.map TI.xs, ss.map TI.xs) = ([out], sv) := Option.some.inj hr
      simp only [Prod.mk.injEq] at hr2
      obtain ⟨q, rfl, hq⟩ : ∃ q, ps = [q] ∧ q.xs = out := by
        match ps, hr2.1 with
        | [q], h => exact ⟨q, rfl, by simpa using h⟩
        | [], h => simp at h
        | _ :: _ :: _, h => simp at h
      subst hq
      obtain ⟨g10, cp, hv10, _, hcell, _⟩ := row_some M.out.row (by simp)
      simp only [Value.slice.injEq, true_and] at hv10
      obtain ⟨rfl, rfl⟩ := hv10
      have r0 : wr.cell? ⟨g10, 0, none⟩ = some (.slice q.A q.xs.length q.c) := hcell 0 _ rfl
      have hqq := (read_at (M.out.pull 2 (by simp))).parts q (by simp)
      have HQ := Aside0.mk hqq.2
      have hqc := hqq.1
      have hS := M0.out.below M.out.1
      have HS := Aside0.mk hS
      clear hcell hr hr2 HR hqq hS M0
      go_wp2_with fail
      go_ret2
      exact ⟨q.A, q.c, rfl, hqc, HQ.out, HS.out⟩
end Go.Proofs.Ytkonloadedbpkaa.SpreadW

namespace Go.Proofs.Ytkonloadedbpkaa.CopyW
open Go.RowKit Go.Maps Go.Proofs.Ytkonloadedbpkaa.Sep Go.Proofs.Ytkonloadedbpkaa.FMaps Go.Proofs.Ytkonloadedbpkaa.FoldPure Go.Proofs.Ytkonloadedbpkaa.FoldMem Go.Proofs.Ytkonloadedbpkaa.NodeMem Go.Proofs.Ytkonloadedbpkaa.RowsOf Go.Proofs.Ytkonloadedbpkaa.Spare Go.Proofs.Ytkonloadedbpkaa.CutW Go.Proofs.Ytkonloadedbpkaa.SpreadP Go.Proofs.Ytkonloadedbpkaa.Kept Go.Proofs.Ytkonloadedbpkaa.Lits
open Go.Proofs.YtkonloadedbpkaaW.PrintWords
set_option linter.unusedVariables false
set_option linter.unusedSimpArgs false
set_option maxRecDepth 100000

theorem cp_next {labs : List ByteArray} {i : Nat} {st fin : CS} (h : cpRun (labs.drop i) st = some fin) (hi : i < labs.length) : 0 < labs[i].size ∧ labs[i].size - 1 ≤ st.2.length ∧
    cpRun (labs.drop (i + 1)) (st.1 ++ [(labs[i], st.2.drop (st.2.length - (labs[i].size - 1)))], st.2.take (st.2.length - (labs[i].size - 1)) ++ [st.1.length]) = some fin := by
  rw [List.drop_eq_getElem_cons hi] at h
  have h2 : (cpStep st labs[i]).bind (cpRun (labs.drop (i + 1))) = some fin := h
  unfold cpStep at h2
  split at h2
  · cases h2
  · rename_i hc
    simp only [not_or] at hc
    exact ⟨by omega, by omega, h2⟩
theorem tail_src {w : World} {e g c n k : Nat} {xs : List Value} (h : w.ownsRow 0 e 1 (.slice (some ⟨g, 0, none⟩) n c) n xs) (hk : k ≤ n) :
    ((if c = k then some (⟨g, 0, none⟩ : Addr) else some ⟨g, k, none⟩) = none → n - k = 0) ∧ ∀ ad, (if c = k then some (⟨g, 0, none⟩ : Addr) else some ⟨g, k, none⟩) = some ad → ∀ (j : Nat) (u : Value), (xs.drop k)[j]? = some u → w.cell? (ad.add j) = some u := by
  refine ⟨fun hA => (by split at hA <;> (cases hA)), fun ad hA j u hu => ?_⟩
  have hl := h.1
  rw [List.getElem?_drop] at hu
  have hj := (List.getElem?_eq_some_iff.1 hu).1
  rw [Nat.mul_one] at hl
  obtain ⟨g2, cap, e2, hc, hcell, _⟩ := row_some h (by omega)
  simp only [Value.slice.injEq, Option.some.injEq, Addr.mk.injEq, and_true, true_and] at e2
  obtain ⟨rfl, rfl⟩ := e2
  rw [if_neg (by omega)] at hA
  cases hA
  have := hcell (k + j) u hu
  rw [show (⟨g, k, none⟩ : Addr).add j = ⟨g, k + j, none⟩ from by unfold Addr.add; split <;> simp_all]
  exact this
theorem round_end {w w' : World} {C : World → Prop} {items : List PartM} {lab : ByteArray} {ks op' : List Nat} {A6 : Option Addr} {v3 v4 : Value} {c6 B k i n : Nat} {cs : Array Value} (hn : ks.length = n) (hk : k ≤ op'.length) (h : Sep w w' (rowR 3 1 v4 (k + 1) ((op'.map nat).take k ++ [nat i]) :: rowR 27 2 v3 (items.length + 1) (nodeCells items ++ [.string lab, .slice A6 n c6]) :: rowR 3 1 (.slice A6 n c6) n (ks.map nat) :: boxR B 27 cs :: kidsR items :: readR w C :: [])) :
    Sep w w' (rowR 3 1 v4 (k + 1) ((op'.take k ++ [i]).map nat) :: rowR 27 2 v3 (items.length + 1) (nodeCells (items ++ [(⟨⟨lab, ks, 0⟩, 0, A6, c6⟩ : PartM)])) :: kidsR (items ++ [(⟨⟨lab, ks, 0⟩, 0, A6, c6⟩ : PartM)]) :: readR w C :: []) := by
  subst hn
  rw [← List.map_take] at h
  rw [List.map_append]
  have h1 := (h.pull 3 (by simp)).tail
  have h2 := ((h1.pull 2 (by simp)).pull 3 (by simp)).pull 3 (by simp)
  have h3 := item_more (items := items) (q := ⟨⟨lab, ks, 0⟩, 0, A6, c6⟩) h2
  rw [List.length_append, List.length_singleton] at h3
  exact h3.pull 2 (by simp)
set_option maxHeartbeats 8000000 in
theorem copies_calls {W w : World} {rs : List Res} {A0 : Option Addr} {c0 : Nat} {labs : List ByteArray} {out : List Nd} {op : List Nat} (M : Sep W w rs)
    (hC : ∀ w' : World, (∀ k, k < w.heap.size → w'.heap[k]? = w.heap[k]?) → Kd.C Kd.string w' A0 labs.length labs) (hl : labs.length ≤ 4194304) (hrun : cpRun labs ([], []) = some (out, op)) :
    Calls Try.prog 34 #[.slice A0 labs.length c0] w fun e w' => ∃ items A c, e = .returned (.slice A items.length c) ∧ items.map nd = out ∧ items.length ≤ c ∧ Sep W w' (rowR 27 2 (.slice A items.length c) items.length (nodeCells items) :: kidsR items :: rs) := by
  have HR := Aside0.mk hrun
  have M0 := Aside0.mk M
  have hM := read_old (C := fun w' => Kd.C Kd.string w' A0 labs.length labs) (Sep.start w) hC
  clear hrun M hC
  have M := Aside0.mk (row_nil (row_nil (kids_none hM) 27 2) 3 1)
  clear hM
  go_enter Try.func34, Try.ntmps34
  go_wp2_with fail
  go_loopw [3, 4, 5] (fun v3 v4 v5 wr => ∃ (i : Nat) (items : List PartM) (op' : List Nat) (A3 A4 : Option Addr) (c3 c4 : Nat), i ≤ labs.length ∧ items.length = i ∧ op'.length ≤ i ∧ v3 = .slice A3 i c3 ∧ v4 = .slice A4 op'.length c4 ∧ v5 = .int .i64 i ∧ i ≤ c3 ∧ op'.length ≤ c4 ∧ Aside0 (cpRun (labs.drop i) (items.map nd, op') = some (out, op)) ∧
    Aside0 (Sep w wr (rowR 3 1 (.slice A4 op'.length c4) op'.length (op'.map nat) :: rowR 27 2 (.slice A3 i c3) i (nodeCells items) :: kidsR items :: readR w (fun w' => Kd.C Kd.string w' A0 labs.length labs) :: []))) (fun _ _ v5 _ => labs.length - (intOf v5).toNat)
  case atStart => exact ⟨0, [], [], none, none, 0, 0, by omega, rfl, by simp, rfl, rfl, rfl, by simp, by simp, ⟨HR.out⟩, M⟩
  case round =>
    clear M HR
    obtain ⟨i, items, op', A3, A4, c3, c4, hi, hil, hop, rfl, rfl, rfl, hc3, hc4, HR, M⟩ := hrel
    subst hil
    by_cases hlt : items.length < labs.length
    · obtain ⟨hs0, hs1, hnx⟩ := cp_next HR.out hlt
      clear HR
      have HR := Aside0.mk hnx
      clear hnx
      obtain ⟨a0, rfl, hlb⟩ := Cs_at (read_at (M.out.pull 3 (by simp))) (List.getElem?_eq_getElem hlt)
      generalize labs[items.length] = lab at hs0 hs1 HR hlb
      simp only [List.length_map] at HR
      obtain ⟨k, hk⟩ : ∃ k, k = op'.length - (lab.size - 1) := ⟨_, rfl⟩
      simp only at hs1
      rw [← hk] at HR
      have hkl : k ≤ op'.length := by omega
      have e1 : (op'.length : Int) - ((lab.size : Int) - 1) = (k : Int) := by omega
      have hbk := build27 lab
      obtain ⟨wo, rfl⟩ : ∃ wo : World, wo = wr := ⟨_, rfl⟩
      have hX := box_fresh M.out 27 #[.string lab, .slice none 0 0]
      have e2 : k ≤ c4 := by omega
      have e3 : (k : Int) ≤ (c4 : Int) := by omega
      have e4 : (k : Int) ≤ (op'.length : Int) := by omega
      have Hk := Aside0.mk hk
      clear hk
      have hAA : (A4 = none ∧ op'.length = 0 ∧ k = 0) ∨ ∃ g, A4 = some ⟨g, 0, none⟩ := by
        rcases M.out.row.2 with ⟨h1, h2⟩ | ⟨g, cap, cur, h1, _⟩
        · simp only [Value.slice.injEq] at h1
          exact .inl ⟨h1.1, h1.2.1, by omega⟩
        · simp only [Value.slice.injEq] at h1
          exact .inr ⟨g, h1.1⟩
      go_upto_region 8 with fail
      have p1 : (wo.alloc (.cells #[.string lab, .slice none 0 0] 27)).cell? ⟨wo.heap.size, 1, none⟩ = some (.slice none 0 0) := (box_cell hX (j := 1) rfl).1
      have hsz7 : wo.heap.size < (wo.alloc (.cells #[.string lab, .slice none 0 0] 27)).heap.size := by simp
      generalize wo.heap.size = B at hX p1 hsz7 ⊢
      clear M
      have M := Aside0.mk hX
      clear hX hlb hbk
      generalize wo.alloc (.cells #[.string lab, .slice none 0 0] 27) = w7 at M p1 hsz7 ⊢
      clear wo
      rcases hAA with ⟨rfl, hz0, rfl⟩ | ⟨g4, rfl⟩
      · go_still_tail 5, (by kernel_rfl)
        change wpList _ _ _ _ _ w7.drew
        have MD := M.out.drawn (w' := w7.drew) ⟨1, rfl⟩
        have hsz8 : B < w7.drew.heap.size := hsz7
        generalize w7.drew = w8 at MD hsz8 ⊢
        clear M p1 hsz7
        have HS := Aside0.mk (show ((none : Option Addr) = none → 0 = 0) ∧ ∀ ad, (none : Option Addr) = some ad → ∀ (j : Nat) (u : Value), ((op'.drop 0).map nat)[j]? = some u → w8.cell? (ad.add j) = some u from ⟨fun _ => rfl, fun ad h => by cases h⟩)
        have M := Aside0.mk (row_nil MD 3 1)
        clear MD
        go_upto_region 9 with (at_builtin; refine wp_many M.out rfl (.tmp 29) (.tmp 32) 25 rfl Try.underlying25 info3 rfl rfl rfl (news := (op'.drop 0).map nat) (by simp [hz0]) HS.out.1 HS.out.2 (fun u hu => by obtain ⟨x, _, rfl⟩ := List.mem_map.1 hu; rfl) (by omega) (by omega) ?_; intro v6 w6 hm6; simp only [Nat.zero_add, List.nil_append] at hm6; obtain ⟨A6, c6, rfl, hc6⟩ := row_slice hm6.row; clear M HS; have M := Aside0.mk hm6; clear hm6; obtain ⟨p1, pf1⟩ := (box_cell (M.out.pull 1 (by simp)) (j := 1) rfl))
        have hm9 := at_ M.out 1 (by simp) (fun rs h => box_set h 1 (.slice A6 0 c6))
        clear M p1 pf1
        have M := Aside0.mk hm9
        clear hm9
        generalize w6.setCell ⟨B, 1, none⟩ (.slice A6 0 c6) = w9 at M ⊢
        have p0 : w9.cell? ⟨B, 0, none⟩ = some (.string lab) := (box_cell (M.out.pull 1 (by simp)) (j := 0) rfl).1
        have p1 : w9.cell? ⟨B, 1, none⟩ = some (.slice A6 0 c6) := (box_cell (M.out.pull 1 (by simp)) (j := 1) rfl).1
        go_upto_region 10 with (at_builtin; refine wp_node ((M.out.pull 3 (by simp)).alloc (.cells #[.string lab, .slice A6 0 c6] 27)) rfl (.tmp 35) (.tmp 37) rfl rfl rfl (box_at (box_fresh M.out 27 #[.string lab, .slice A6 0 c6])) rfl rfl (by omega) ?_; intro A10 c10 w10 hc10 hm10; clear M p0 p1; have M := Aside0.mk hm10; clear hm10)
        go_wp2_with (at_builtin; go_loud (refine wp_cutcap ((M.out.pull 3 (by simp)).alloc (.cells #[.int .i64 (items.length : Int)] 3)) rfl (.tmp 42) (.tmp 44) 25 rfl Try.underlying25 info3 rfl hkl rfl rfl (new_cell _ _ _) rfl (by omega) (by omega) ?_); intro A13 c13 w13 hc13 hm13; clear M; have M := Aside0.mk hm13; clear hm13)
        have hfin := round_end (n := 0) (ks := op'.drop 0) (by simp [hz0]) hkl M.out
        exact ⟨⟨items.length + 1, items ++ [(⟨⟨lab, op'.drop 0, 0⟩, 0, A6, c6⟩ : PartM)], op'.take 0 ++ [items.length], A10, A13, c10, c13, by omega, by simp, by simp, rfl, by simp, by go_num, hc10, by simp <;> omega, ⟨by rw [List.map_append]; exact HR.out⟩, ⟨by
          rw [show (op'.take 0 ++ [items.length]).length = 0 + 1 by simp]
          exact hfin⟩⟩, by simp [intOf]; omega⟩
      · go_still_tail 5, (by kernel_rfl)
        change wpList _ _ _ _ _ w7.drew
        have MD := M.out.drawn (w' := w7.drew) ⟨1, rfl⟩
        have hsz8 : B < w7.drew.heap.size := hsz7
        generalize w7.drew = w8 at MD hsz8 ⊢
        clear M p1 hsz7
        have HS := Aside0.mk (by have h := tail_src (k := k) (MD.pull 1 (by simp)).row hkl; rw [← List.map_drop] at h; exact h)
        have M := Aside0.mk (row_nil MD 3 1)
        clear MD
        go_upto_region 9 with (at_builtin; refine wp_many M.out rfl (.tmp 29) (.tmp 32) 25 rfl Try.underlying25 info3 rfl rfl rfl (news := (op'.drop k).map nat) (by simp) HS.out.1 HS.out.2 (fun u hu => by obtain ⟨x, _, rfl⟩ := List.mem_map.1 hu; rfl) (by omega) (by omega) ?_; intro v6 w6 hm6; simp only [Nat.zero_add, List.nil_append] at hm6; obtain ⟨A6, c6, rfl, hc6⟩ := row_slice hm6.row; clear M HS; have M := Aside0.mk hm6; clear hm6; obtain ⟨p1, pf1⟩ := (box_cell (M.out.pull 1 (by simp)) (j := 1) rfl))
        have hm9 := at_ M.out 1 (by simp) (fun rs h => box_set h 1 (.slice A6 (op'.length - k) c6))
        clear M p1 pf1
        have M := Aside0.mk hm9
        clear hm9
        generalize w6.setCell ⟨B, 1, none⟩ (.slice A6 (op'.length - k) c6) = w9 at M ⊢
        have p0 : w9.cell? ⟨B, 0, none⟩ = some (.string lab) := (box_cell (M.out.pull 1 (by simp)) (j := 0) rfl).1
        have p1 : w9.cell? ⟨B, 1, none⟩ = some (.slice A6 (op'.length - k) c6) := (box_cell (M.out.pull 1 (by simp)) (j := 1) rfl).1
        go_upto_region 10 with (at_builtin; refine wp_node ((M.out.pull 3 (by simp)).alloc (.cells #[.string lab, .slice A6 (op'.length - k) c6] 27)) rfl (.tmp 35) (.tmp 37) rfl rfl rfl (box_at (box_fresh M.out 27 #[.string lab, .slice A6 (op'.length - k) c6])) rfl rfl (by omega) ?_; intro A10 c10 w10 hc10 hm10; clear M p0 p1; have M := Aside0.mk hm10; clear hm10)
        go_wp2_with (at_builtin; go_loud (refine wp_cutcap ((M.out.pull 3 (by simp)).alloc (.cells #[.int .i64 (items.length : Int)] 3)) rfl (.tmp 42) (.tmp 44) 25 rfl Try.underlying25 info3 rfl hkl rfl rfl (new_cell _ _ _) rfl (by omega) (by omega) ?_); intro A13 c13 w13 hc13 hm13; clear M; have M := Aside0.mk hm13; clear hm13)
        have hfin := round_end (n := (op'.length - k)) (ks := op'.drop k) (by simp) hkl M.out
        exact ⟨⟨items.length + 1, items ++ [(⟨⟨lab, op'.drop k, 0⟩, 0, A6, c6⟩ : PartM)], op'.take k ++ [items.length], A10, A13, c10, c13, by omega, by simp, by simp; omega, rfl, by simp; omega, by go_num, hc10, by simp; omega, ⟨by rw [List.map_append]; exact HR.out⟩, ⟨by
          rw [show (op'.take k ++ [items.length]).length = k + 1 by simp; omega]
          exact hfin⟩⟩, by simp [intOf]; omega⟩
    · have hie : items.length = labs.length := by omega
      have hr := HR.out
      rw [hie, List.drop_length] at hr
      have hr2 : (items.map nd, op') = (out, op) := Option.some.inj hr
      simp only [Prod.mk.injEq] at hr2
      have h2 := sep_over M0.out ((M.out.pull 3 (by simp)).tail.tail)
      have HS := Aside0.mk h2
      clear h2 hr M HR M0
      go_wp2_with fail
      go_ret
      exact ⟨items, A3, c3, by rw [hie]; rfl, hr2.1, hc3, HS.out⟩
end Go.Proofs.Ytkonloadedbpkaa.CopyW
