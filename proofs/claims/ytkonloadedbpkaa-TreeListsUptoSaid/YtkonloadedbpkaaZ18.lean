/- LentW, StillW. -/
import Derived.Test.YtkonloadedbpkaaZ15
import Derived.Test.YtkonloadedbpkaaZ4
import Derived.Deep.DrawnRows
import Derived.StillTailTactics
import Derived.Test.YtkonloadedbpkaaZ17
namespace Go.Proofs.Ytkonloadedbpkaa.LentW
open Go.RowKit Go.Maps Go.Proofs.Ytkonloadedbpkaa.Sep Go.Proofs.Ytkonloadedbpkaa.FMaps Go.Proofs.Ytkonloadedbpkaa.FoldPure Go.Proofs.Ytkonloadedbpkaa.FoldMem Go.Proofs.Ytkonloadedbpkaa.Gather Go.Proofs.Ytkonloadedbpkaa.NodeMem Go.Proofs.Ytkonloadedbpkaa.Lits Go.Proofs.Ytkonloadedbpkaa.Spare Go.Proofs.Ytkonloadedbpkaa.Kept Go.Proofs.Ytkonloadedbpkaa.RefS
open Go.Proofs.YtkonloadedbpkaaW.PrintWords Go.Proofs.YtkonloadedbpkaaW.PrintLast
set_option linter.unusedVariables false
set_option linter.unusedSimpArgs false
attribute [local go_sem ↓] Go.wp_at_zero Go.wp_at_succ
set_option maxRecDepth 100000

theorem two_cells (w : World) {u1 u2 : Value} {e : TypeId} {ad : Addr} (h : some (⟨w.heap.size, 0, none⟩ : Addr) = some ad) : ∀ j u, [u1, u2][j]? = some u → (w.alloc (.cells #[u1, u2] e)).cell? (ad.add j) = some u := by
  intro j u hu
  cases h
  rw [add0, (cell_at (heap_alloc_new w (.cells #[u1, u2] e)) j).1]
  simpa using hu
theorem spare_cell {x y : Int} {A : Option Addr} {items : List SpM} {tl : List Value} {w : World} (h : SpareC x y A items tl w) {i : Nat} (hi : i < items.length) {lab : ByteArray} {kids : List Int} (hp : pr items[i] = (lab, kids)) (hk : kids.length ≤ 4194304) :
    ∃ b g c, A = some ⟨b, 0, none⟩ ∧ w.cell? ⟨b, i * 2, none⟩ = some (.string lab) ∧ w.cell? ⟨b, i * 2 + 1, none⟩ = some (.slice (some ⟨g, 0, none⟩) kids.length c) ∧ kids.length + 2 ≤ c ∧ w.cell? ⟨g, kids.length, none⟩ = some (num x) ∧ w.cell? ⟨g, kids.length + 1, none⟩ = some (num y) ∧ Kd.C (Kd.int .i64) w (some ⟨g, 0, none⟩) kids.length kids := by
  obtain ⟨b, hA, hcell⟩ := h.cells
  obtain ⟨n1, n2⟩ := cellsS_at items hi
  have hll := cellsS_len items
  obtain ⟨g, eg, hc, hg⟩ := h.rows items[i] (List.getElem_mem hi)
  have e1 : items[i].lab = lab := congrArg Prod.fst hp
  have e2 : items[i].kids = kids := congrArg Prod.snd hp
  rw [e1] at n1
  rw [e2, eg] at n2
  rw [e2] at hc
  unfold spRow at hg
  rw [e2] at hg
  refine ⟨b, g, items[i].c, hA, hcell _ _ (by rw [List.getElem?_append_left (by omega)]; exact n1), hcell _ _ (by rw [List.getElem?_append_left (by omega)]; exact n2), hc, hg _ _ ?_, hg _ _ ?_, rfl, by omega, fun _ => ⟨⟨g, 0, none⟩, rfl, fun j p hj => ⟨[.int .i64 p], rfl, rfl, fun u v hv => ?_⟩⟩⟩
  · rw [List.getElem?_append_right (by simp)]
    simp
  · rw [List.getElem?_append_right (by simp)]
    simp
  · have hu : u = 0 := by
      have := (List.getElem?_eq_some_iff.1 hv).1
      simpa using this
    subst hu
    simp at hv
    subst hv
    have hjl := (List.getElem?_eq_some_iff.1 hj).1
    have := hg j (num p) (by rw [List.getElem?_append_left (by simpa using hjl), List.getElem?_map, hj]; rfl)
    rw [show j * (Kd.int .i64).sz + 0 = j from by show j * 1 + 0 = j; omega, add0]
    exact this
theorem spare_tail {x y : Int} {A : Option Addr} {items : List SpM} {tl : List Value} {w : World} (h : SpareC x y A items tl w) {b i n : Nat} {u : Value} (hA : A = some ⟨b, 0, none⟩) (hn : items.length = n) (hu : tl[i]? = some u) : w.cell? ⟨b, n * 2 + i, none⟩ = some u := by
  obtain ⟨b2, hA2, hcell⟩ := h.cells
  rw [hA] at hA2
  cases hA2
  have hll := cellsS_len items
  refine hcell _ _ ?_
  rw [List.getElem?_append_right (by omega), show n * 2 + i - (cellsS items).length = i by omega]
  exact hu
theorem z_at {w : World} {A : Option Addr} {zs : List ZN} (h : Kd.C kP w A zs.length zs) {i : Nat} (hi : i < zs.length) :
    ∃ ad Ak ck, A = some ad ∧ w.cell? (ad.add (i * 2)) = some (.string zs[i].1) ∧ w.cell? ⟨(ad.add (i * 2)).block, (ad.add (i * 2)).off + 1, none⟩ = some (.slice Ak zs[i].2.length ck) ∧ zs[i].2.length ≤ ck ∧
      Kd.C (Kd.int .i64) w Ak zs[i].2.length zs[i].2 := by
  obtain ⟨ad, c, e, _, hK, hc0⟩ := Kd.C_get h zs[i] (i : Int) (by omega) (by omega)
  have hx : zs.getD ((i : Int)).toNat zs[i] = zs[i] := by simp [hi]
  rw [hx] at hK
  have hc : ∀ j u, c[j]? = some u → w.cell? (ad.add (i * 2 + j)) = some u := hc0
  obtain ⟨_, _, rfl, rfl, ⟨A1, c1, rfl, l1, g1⟩⟩ := hK
  exact ⟨ad, A1, c1, e, hc 0 _ rfl, by rw [← add_field _ _ 1 (by omega)]; exact hc 1 _ rfl, l1, g1⟩
theorem z_kids {w : World} {A : Option Addr} {ks : List Int} (h : Kd.C (Kd.int .i64) w A ks.length ks) : (A = none → ks.length = 0) ∧ ∀ ad, A = some ad → ∀ j u, (ks.map num)[j]? = some u → w.cell? (ad.add j) = some u := by
  refine ⟨fun hA => ?_, fun ad hA j u hu => ?_⟩
  · rcases Nat.eq_zero_or_pos ks.length with h0 | h0
    · exact h0
    · obtain ⟨ad, e, _⟩ := h.2.2 h0
      rw [hA] at e
      cases e
  · rw [List.getElem?_map] at hu
    obtain ⟨k, hk, rfl⟩ := Option.map_eq_some_iff.1 hu
    have hj := (List.getElem?_eq_some_iff.1 hk).1
    obtain ⟨ad2, e, hc⟩ := Kd.at_int h (j : Int) (by omega) (by omega)
    rw [Int.toNat_natCast] at hc
    rw [hA] at e
    cases e
    rw [hc]
    simp [rd, hk]
def roomS : ByteArray := ⟨#[114, 111, 111, 109]⟩
def roomTl : List Value := [.string roomS, .slice none 0 0, .string roomS, .slice none 0 0]
set_option maxHeartbeats 8000000 in
theorem lent_calls {W w : World} {rs : List Res} {A : Option Addr} {c : Nat} {zs : List ZN} {C : World → Prop} (hf : Fit zs) (hM : Sep W w (readR W C :: rs)) (hCC : ∀ w', C w' → Kd.C kP w' A zs.length zs) :
    Calls Try.prog 21 #[.slice A zs.length c] w fun e w' => ∃ (g c' : Nat) (its : List SpM), e = .returned (.slice (some ⟨g, 0, none⟩) (zs.length + 2) c') ∧ its.map pr = zs ∧ zs.length + 2 ≤ c' ∧ Sep W w' (readR W (SpareC (-5) (-6) (some ⟨g, 0, none⟩) its roomTl) :: readR W C :: rs) := by
  have hl := hf.few
  have HKid : Aside0 (∀ z ∈ zs, z.2.length ≤ 1048576) := ⟨fun z hz => by
    have := FoldSame.mem_le_sum (List.mem_map_of_mem (f := fun x : ZN => x.2.length) hz)
    have := hf.sum
    omega⟩
  have M := Aside0.mk (sp_none (-5) (-6) (row_nil hM 27 2)).swap
  have HCC := Aside0.mk hCC
  have hbd := build27
  clear hf hM hCC
  go_enter Try.func21, Try.ntmps21
  go_wp2_with fail
  go_loopw [3, 4] (fun v3 v4 wr => ∃ (i : Nat) (A4 : Option Addr) (c4 : Nat) (its : List SpM), i ≤ zs.length ∧ i ≤ c4 ∧ v3 = .slice A4 i c4 ∧ v4 = .int .i64 i ∧ its.length = i ∧ Aside0 (its.map pr = zs.take i) ∧
    Aside0 (Sep W wr (rowR 27 2 (.slice A4 i c4) i (cellsS its) :: spR (-5) (-6) its :: readR W C :: rs))) (fun _ v4 _ => zs.length - (intOf v4).toNat)
  case atStart => exact ⟨0, none, 0, [], by omega, by omega, rfl, rfl, rfl, ⟨rfl⟩, M⟩
  case round =>
    clear M
    obtain ⟨i, A4, c4, its, hi, hc4, rfl, rfl, hil, HI, M⟩ := hrel
    by_cases hlt : i < zs.length
    · have hrl := row_nil M.out 3 1
      clear M
      obtain ⟨ad, Ak, ck, rfl, x0, x1, hck, hCk⟩ := z_at (HCC.out _ (read_at (hrl.pull 3 (by simp)))) hlt
      have hkle := HKid.out zs[i] (List.getElem_mem hlt)
      have hnw := Aside0.mk (z_kids hCk)
      clear hCk
      have HAt := Aside0.mk (List.take_append_getElem hlt)
      have hd1 : Sep W wr (readR W (fun w' => (C w' ∧ w'.cell? (ad.add (i * 2)) = some (.string zs[i].1)) ∧ w'.cell? ⟨(ad.add (i * 2)).block, (ad.add (i * 2)).off + 1, none⟩ = some (.slice Ak zs[i].2.length ck)) :: _) :=
        read_cell (read_cell (hrl.pull 3 (by simp)) _ (fun w' hc => (by obtain ⟨a2, _, _, e2, h0, _⟩ := z_at (HCC.out _ hc) hlt; cases e2; exact ⟨_, h0⟩)) x0) _ (fun w' hc => (by obtain ⟨a2, _, _, e2, _, h0, _⟩ := z_at (HCC.out _ hc.1) hlt; cases e2; exact ⟨_, h0⟩)) x1
      have hrl2 := ((hd1.pull 3 (by simp)).pull 3 (by simp)).pull 3 (by simp)
      clear hrl hd1
      have M := Aside0.mk hrl2
      clear hrl2
      generalize hx : zs[i] = q at x0 x1 hck hkle hnw HAt M
      go_upto_region 8 with (first
        | (at_builtin; refine wp_many M.out rfl (.tmp 12) (.tmp 17) 25 rfl Try.underlying25 info3 rfl rfl rfl (news := q.2.map num) (by simp) hnw.out.1 hnw.out.2 (by intro u hu; simp at hu; obtain ⟨_, _, rfl⟩ := hu; rfl) (by omega) (by omega) ?_; intro v6 w6 hm6; clear M; have M := Aside0.mk hm6; clear hm6)
        | (at_builtin; refine wp_many (M.out.alloc (.cells #[.int .i64 (-5), .int .i64 (-6)] 3)) rfl (.tmp 19) (.tmp 20) 25 rfl Try.underlying25 info3 rfl rfl rfl (news := [.int .i64 (-5), .int .i64 (-6)]) rfl (fun h => by cases h) (fun ad h => two_cells _ h) (by intro u hu; simp at hu; rcases hu with rfl | rfl <;> rfl) (by omega) (by omega) ?_; intro v7 w7 hm7; clear M; have M := Aside0.mk hm7; clear hm7))
      clear x0 x1 hnw
      have hM := M.out
      obtain ⟨g, c7, rfl, hgc7, _, _, _⟩ := row_some hM.row (by omega)
      have hC9 := read_at (hM.pull 3 (by simp))
      have x0 := hC9.1.2
      have x1 := hC9.2
      have hk7 : q.2.length ≤ c7 := by omega
      have hk8 : (q.2.length : Int) ≤ (c7 : Int) := by omega
      clear hM hC9
      refine start_ (n := 18) (S := fun w' => w'.cell? (ad.add (i * 2)) = some (.string q.1) ∧ w'.cell? ⟨(ad.add (i * 2)).block, (ad.add (i * 2)).off + 1, none⟩ = some (.slice Ak q.2.length ck)) (ds := []) #[false, false, false, false, false, false, false, false, false, false, false, false, false, false, false, false, false, false] (by kernel_rfl) rfl rfl ⟨x0, x1⟩ (fun hHeld => ?_)
      have M8 := Aside0.mk (M.out.drawn (w' := w7.drew) ⟨1, rfl⟩)
      clear M x0 x1
      have M := M8
      clear M8
      generalize w7.drew = w8 at M hHeld ⊢
      refine pure_ (i := 0) (N := some 22) (v := ?_) (a' := ?_) #[true, false, false, false, false, false, false, false, false, false, false, false, false, false, false, false, false, false] rfl rfl (by kernel_rfl) (fun _ _ _ h => h) (Or.inl ⟨by rfl, ?_⟩) ?_ ?_
      rotate_left
      · intro w'
        go_simp
        with_reducible rfl
      rotate_left
      · simp only [Act.put, List.setIfInBounds_toArray, List.set_cons_zero, List.set_cons_succ, i64_w, i32_w]
        rfl
      refine pure_ (i := 1) (N := some 23) (v := ?_) (a' := ?_) #[true, true, false, false, false, false, false, false, false, false, false, false, false, false, false, false, false, false] rfl rfl (by kernel_rfl) (fun _ _ _ h => h) (Or.inl ⟨by rfl, ?_⟩) ?_ ?_
      rotate_left
      · intro w'
        go_simp
        with_reducible rfl
      rotate_left
      · simp only [Act.put, List.setIfInBounds_toArray, List.set_cons_zero, List.set_cons_succ, i64_w, i32_w]
        rfl
      refine pure_ (i := 2) (N := some 24) (v := ?_) (a' := ?_) #[true, true, true, false, false, false, false, false, false, false, false, false, false, false, false, false, false, false] rfl rfl (by kernel_rfl) (fun _ _ _ h => h) (Or.inl ⟨by rfl, ?_⟩) ?_ ?_
      rotate_left
      · intro w'
        go_simp
        with_reducible rfl
      rotate_left
      · simp only [Act.put, List.setIfInBounds_toArray, List.set_cons_zero, List.set_cons_succ, i64_w, i32_w]
        rfl
      refine pure_ (i := 3) (N := some 25) (v := ?_) (a' := ?_) #[true, true, true, true, false, false, false, false, false, false, false, false, false, false, false, false, false, false] rfl rfl (by kernel_rfl) (fun _ _ _ h => h) (Or.inl ⟨by rfl, ?_⟩) ?_ ?_
      rotate_left
      · intro w'
        go_simp
        with_reducible rfl
      rotate_left
      · simp only [Act.put, List.setIfInBounds_toArray, List.set_cons_zero, List.set_cons_succ, i64_w, i32_w]
        rfl
      refine pure_ (i := 4) (N := some 26) (v := ?_) (a' := ?_) #[true, true, true, true, true, false, false, false, false, false, false, false, false, false, false, false, false, false] rfl rfl (by kernel_rfl) (fun _ _ _ h => h) (Or.inl ⟨by rfl, ?_⟩) ?_ ?_
      rotate_left
      · intro w'
        go_simp
        with_reducible rfl
      rotate_left
      · simp only [Act.put, List.setIfInBounds_toArray, List.set_cons_zero, List.set_cons_succ, i64_w, i32_w]
        rfl
      refine pure_ (i := 6) (N := some 28) (v := ?_) (a' := ?_) #[true, true, true, true, true, false, true, false, false, false, false, false, false, false, false, false, false, false] rfl rfl (by kernel_rfl) (fun _ _ _ h => h) (Or.inl ⟨by rfl, ?_⟩) ?_ ?_
      rotate_left
      · intro w'
        go_simp
        with_reducible rfl
      rotate_left
      · simp only [Act.put, List.setIfInBounds_toArray, List.set_cons_zero, List.set_cons_succ, i64_w, i32_w]
        rfl
      refine pure_ (i := 7) (N := some 29) (v := ?_) (a' := ?_) #[true, true, true, true, true, false, true, true, false, false, false, false, false, false, false, false, false, false] rfl rfl (by kernel_rfl) (fun _ _ _ h => h) (Or.inl ⟨by rfl, ?_⟩) ?_ ?_
      rotate_left
      · intro w'
        go_simp
        with_reducible rfl
      rotate_left
      · simp only [Act.put, List.setIfInBounds_toArray, List.set_cons_zero, List.set_cons_succ, i64_w, i32_w]
        rfl
      refine pure_ (i := 8) (N := some 30) (v := ?_) (a' := ?_) #[true, true, true, true, true, false, true, true, true, false, false, false, false, false, false, false, false, false] rfl rfl (by kernel_rfl) (fun _ _ _ h => h) (Or.inl ⟨by rfl, ?_⟩) ?_ ?_
      rotate_left
      · intro w'
        go_simp
        with_reducible rfl
      rotate_left
      · simp only [Act.put, List.setIfInBounds_toArray, List.set_cons_zero, List.set_cons_succ, i64_w, i32_w]
        rfl
      refine pure_ (i := 9) (N := some 31) (v := ?_) (a' := ?_) #[true, true, true, true, true, false, true, true, true, true, false, false, false, false, false, false, false, false] rfl rfl (by kernel_rfl) (fun _ _ _ h => h) (Or.inl ⟨by rfl, ?_⟩) ?_ ?_
      rotate_left
      · intro w'
        go_simp
        with_reducible rfl
      rotate_left
      · simp only [Act.put, List.setIfInBounds_toArray, List.set_cons_zero, List.set_cons_succ, i64_w, i32_w]
        rfl
      refine pure_ (i := 10) (N := some 32) (v := ?_) (a' := ?_) #[true, true, true, true, true, false, true, true, true, true, true, false, false, false, false, false, false, false] rfl rfl (by kernel_rfl) (fun _ _ _ h => h) (Or.inl ⟨by rfl, ?_⟩) ?_ ?_
      rotate_left
      · intro w'
        go_simp
        with_reducible rfl
      rotate_left
      · simp only [Act.put, List.setIfInBounds_toArray, List.set_cons_zero, List.set_cons_succ, i64_w, i32_w]
        rfl
      refine take_ (i := 5) (N := some 27) (v := ?_) (a' := ?_) #[true, true, true, true, true, true, true, true, true, true, true, false, false, false, false, false, false, false] rfl rfl (by kernel_rfl) (fun _ _ _ h => h) (Or.inl ⟨by rfl, ?_⟩) hHeld ?_ ?_
      rotate_left
      · rintro w' ⟨s0, s1⟩
        go_simp
        with_reducible rfl
      rotate_left
      · simp only [Act.put, List.setIfInBounds_toArray, List.set_cons_zero, List.set_cons_succ, i64_w, i32_w]
        rfl
      refine take_ (i := 11) (N := some 33) (v := ?_) (a' := ?_) #[true, true, true, true, true, true, true, true, true, true, true, true, false, false, false, false, false, false] rfl rfl (by kernel_rfl) (fun _ _ _ h => h) (Or.inl ⟨by rfl, ?_⟩) hHeld ?_ ?_
      rotate_left
      · rintro w' ⟨s0, s1⟩
        go_simp
        with_reducible rfl
      rotate_left
      · simp only [Act.put, List.setIfInBounds_toArray, List.set_cons_zero, List.set_cons_succ, i64_w, i32_w]
        rfl
      refine pure_ (i := 12) (N := some 34) (v := ?_) (a' := ?_) #[true, true, true, true, true, true, true, true, true, true, true, true, true, false, false, false, false, false] rfl rfl (by kernel_rfl) (fun _ _ _ h => h) (Or.inl ⟨by rfl, ?_⟩) ?_ ?_
      rotate_left
      · intro w'
        go_simp
        with_reducible rfl
      rotate_left
      · simp only [Act.put, List.setIfInBounds_toArray, List.set_cons_zero, List.set_cons_succ, i64_w, i32_w]
        rfl
      refine pure_ (i := 13) (N := some 35) (v := ?_) (a' := ?_) #[true, true, true, true, true, true, true, true, true, true, true, true, true, true, false, false, false, false] rfl rfl (by kernel_rfl) (fun _ _ _ h => h) (Or.inl ⟨by rfl, ?_⟩) ?_ ?_
      rotate_left
      · intro w'
        go_simp
        with_reducible rfl
      rotate_left
      · simp only [Act.put, List.setIfInBounds_toArray, List.set_cons_zero, List.set_cons_succ, i64_w, i32_w]
        rfl
      refine pure_ (i := 14) (N := some 36) (v := ?_) (a' := ?_) #[true, true, true, true, true, true, true, true, true, true, true, true, true, true, true, false, false, false] rfl rfl (by kernel_rfl) (fun _ _ _ h => h) (Or.inl ⟨by rfl, ?_⟩) ?_ ?_
      rotate_left
      · intro w'
        go_simp
        with_reducible rfl
      rotate_left
      · simp only [Act.put, List.setIfInBounds_toArray, List.set_cons_zero, List.set_cons_succ, i64_w, i32_w]
        rfl
      refine one_ (i := 15) (N := some 37) #[true, true, true, true, true, true, true, true, true, true, true, true, true, true, true, true, false, false] rfl rfl (by kernel_rfl) (by decide) (fun K hK => ?_)
      refine value_ (w1 := ?_) (v := ?_) (by rfl) rfl ?_ ?_
      rotate_left
      rotate_left
      · go_simp
        refine ⟨?_, ?_⟩ <;> rfl
      have M9 := Aside0.mk (M.out.alloc (.cells #[.string q.1, .slice (some ⟨g, 0, none⟩) q.2.length c7] 27))
      have hC9 := read_at (M9.out.pull 3 (by simp))
      refine hK.out _ _ ⟨hC9.1.2, hC9.2⟩ (fun hHeld => ?_)
      clear hK K hC9
      refine one_ (i := 16) (N := some 38) #[true, true, true, true, true, true, true, true, true, true, true, true, true, true, true, true, true, false] rfl rfl (by kernel_rfl) (by decide) (fun K hK => ?_)
      obtain ⟨i27, hi27, hz27, hs27, hb27⟩ := info_parts info27
      refine step_append_lies _ rfl _ _ _ rfl 0 27 i27 _ 2 40 Try.underlying24 hi27 hz27 hs27 hb27 rfl (by omega) (.slice A4 i c4) i (cellsS its) rfl (M9.out.pull 1 (by simp)).row
        ⟨w8.heap.size, 0, none⟩ 1 1 [.string q.1, .slice (some ⟨g, 0, none⟩) q.2.length c7] rfl rfl (World.news_of_block (cs := #[.string q.1, .slice (some ⟨g, 0, none⟩) q.2.length c7]) (t := 27) (fr := (0, 0)) (heap_alloc_new w8 _)) (by simp [Value.oneCell'])
        (by omega) (by unfold maxLen; omega) (by omega) (Nat.zero_le _) (w8.heap.size + 1) (by simp) ?_
      intro gg cap w10 hown hgrow hat hlt4
      have M10 := Aside0.mk ((M9.out.pull 1 (by simp)).appended hown hgrow (by
        rcases hat with h | h
        · exact .inl h.symm
        · right; rw [h]; simp [Value.ownBlock]))
      have hC9 := read_at (M10.out.pull 3 (by simp))
      refine hK.out _ _ ⟨hC9.1.2, hC9.2⟩ (fun hHeld => ?_)
      clear hK K hC9 hown hgrow hat hlt4 M9
      refine pure_ (i := 17) (N := some 3) (v := ?_) (a' := ?_) #[true, true, true, true, true, true, true, true, true, true, true, true, true, true, true, true, true, true] rfl rfl (by kernel_rfl) (fun _ _ _ h => h) (Or.inl ⟨by rfl, ?_⟩) ?_ ?_
      rotate_left
      · intro w'
        go_simp
        with_reducible rfl
      rotate_left
      · simp only [Act.put, List.setIfInBounds_toArray, List.set_cons_zero, List.set_cons_succ, i64_w, i32_w]
        rfl
      refine done_ (by kernel_rfl) ?_
      have hm10 := ((M10.out.pull 1 (by simp)).pull 2 (by simp)).pull 1 (by simp)
      have hm11 := sp_more (x := -5) (y := -6) (items := its) (q := ⟨q.1, q.2, some ⟨g, 0, none⟩, c7⟩) (by
        unfold spRow
        simp only [Nat.zero_add, List.nil_append] at hm10
        exact hm10)
      have hm12 := hm11.swap
      have hcm := cellsS_more its ⟨q.1, q.2, some ⟨g, 0, none⟩, c7⟩
      simp only at hcm
      rw [hcm] at hm12
      have hcap : i + 1 ≤ cap := by
        obtain ⟨A13, c13, e13, hc13⟩ := row_slice hm12.row
        simp only [Value.slice.injEq, true_and] at e13
        omega
      have hm13 := (read_weak (C' := C) (hm12.pull 2 (by simp)) (fun w' h => h.1.1))
      have hm14 : Sep W w10 (rowR 27 2 (.slice (some ⟨gg, 0, none⟩) (i + 1) cap) (i + 1) (cellsS (its ++ [(⟨q.1, q.2, some ⟨g, 0, none⟩, c7⟩ : SpM)])) :: spR (-5) (-6) (its ++ [(⟨q.1, q.2, some ⟨g, 0, none⟩, c7⟩ : SpM)]) :: readR W C :: rs) := (hm13.pull 2 (by simp)).pull 2 (by simp)
      have M := Aside0.mk hm14
      clear hm10 hm11 hm12 hm13 hm14 hcm M10
      go_wp2_with fail
      exact ⟨⟨i + 1, _, cap, its ++ [(⟨q.1, q.2, some ⟨g, 0, none⟩, c7⟩ : SpM)], by omega, by omega, rfl, by go_num, by simp [hil], ⟨by
        rw [List.map_append, HI.out, ← HAt.out]
        rfl⟩, M⟩, by simp [intOf]; omega⟩
    · have hie : i = zs.length := by omega
      subst hie
      have hnb := Aside0.mk (box_at (box_fresh M.out 27 #[.string roomS, .slice none 0 0, .string roomS, .slice none 0 0]))
      unfold roomS at hnb
      go_wp2_with (at_builtin; refine wp_two (M.out.alloc (.cells #[.string ⟨#[114, 111, 111, 109]⟩, .slice none 0 0, .string ⟨#[114, 111, 111, 109]⟩, .slice none 0 0] 27)) rfl (.tmp 39) (.tmp 42) rfl rfl rfl hnb.out rfl rfl rfl rfl (by omega) ?_; intro g4 c5 w5 hc5 hm5; clear M hnb; have M := Aside0.mk hm5; clear hm5)
      go_ret
      rw [List.take_length] at HI
      have hsp := sp_read (n := zs.length) (k := 2) hil (by omega) (fun p hp => by
        have h1 : pr p ∈ zs := by rw [← HI.out]; exact List.mem_map_of_mem hp
        have h2 := HKid.out _ h1
        have h3 : (pr p).2.length = p.kids.length := rfl
        omega) (by omega) M.out
      exact ⟨g4, c5, its, rfl, HI.out, hc5, hsp⟩
end Go.Proofs.Ytkonloadedbpkaa.LentW

namespace Go.Proofs.Ytkonloadedbpkaa.StillW
open Go.RowKit Go.Maps Go.Proofs.Ytkonloadedbpkaa.Sep Go.Proofs.Ytkonloadedbpkaa.FMaps Go.Proofs.Ytkonloadedbpkaa.FoldPure Go.Proofs.Ytkonloadedbpkaa.FoldMem Go.Proofs.Ytkonloadedbpkaa.Gather Go.Proofs.Ytkonloadedbpkaa.NodeMem Go.Proofs.Ytkonloadedbpkaa.Lits Go.Proofs.Ytkonloadedbpkaa.Spare Go.Proofs.Ytkonloadedbpkaa.Kept Go.Proofs.Ytkonloadedbpkaa.RefS Go.Proofs.Ytkonloadedbpkaa.LentW
open Go.Proofs.YtkonloadedbpkaaW.PrintWords Go.Proofs.YtkonloadedbpkaaW.PrintLast Go.Proofs.YtkonloadedbpkaaW.PrintMore
set_option linter.unusedVariables false
set_option linter.unusedSimpArgs false
set_option maxRecDepth 100000

theorem nodesw_calls {w : World} {A B : Option Addr} {ca cb : Nat} {zs : List ZN} (hfew : zs.length ≤ 4194304) (hk4 : ∀ z ∈ zs, z.2.length ≤ 4194304) (hA : Kd.C kP w A zs.length zs) (ha : zs.length ≤ ca) (hB : Kd.C kP w B zs.length zs) (hb : zs.length ≤ cb) :
    Calls Try.prog 26 #[.slice A zs.length ca, .slice B zs.length cb] w fun e w' => e = .returned (.bool true) ∧ Drawn0 w w' := by
  have hl : (zs.map SharesQ.toS2).length = zs.length := List.length_map ..
  obtain ⟨k, hk⟩ := SharesP.nodes_f (zs.map SharesQ.toS2) (by omega) (fun i => by
    unfold PTreeShares.rd_T27
    rw [Int.toNat_natCast, List.getD_eq_getElem?_getD, List.getElem?_map]
    cases hz : zs[i]? with
    | none => simp [PTreeShares.z27]
    | some z =>
      simp only [Option.map_some, Option.getD_some]
      have := hk4 z (List.mem_of_getElem? hz)
      show z.2.length ≤ _
      omega)
  have hC2 : ∀ {X : Option Addr}, Kd.C kP w X zs.length zs → Kd.C PTreeShares.k27 w X (zs.map SharesQ.toS2).length (zs.map SharesQ.toS2) := fun {X} h => by
    rw [hl]
    exact NodesIn.iso_C (d := kP) (f := fun x : PTreeShares.S27 => (x.f0, x.f1)) (g := SharesQ.toS2) (fun x => rfl) h
  have h := PTreeShares.lemmalaw13_nodes.calls k A ca (zs.map SharesQ.toS2) B cb (zs.map SharesQ.toS2) true w (hC2 hA) (by omega) (hC2 hB) (by omega) hk
  rw [hl] at h
  exact h
theorem nodesz_calls {w : World} {A B : Option Addr} {ca cb : Nat} {zs : List ZN} (hf : Fit zs) (hA : Kd.C kP w A zs.length zs) (ha : zs.length ≤ ca) (hB : Kd.C kP w B zs.length zs) (hb : zs.length ≤ cb) :
    Calls Try.prog 26 #[.slice A zs.length ca, .slice B zs.length cb] w fun e w' => e = .returned (.bool true) ∧ Drawn0 w w' :=
  nodesw_calls (by have := hf.few; omega) (fun z hz => by
    have := FoldSame.mem_le_sum (List.mem_map_of_mem (f := fun x : ZN => x.2.length) hz)
    have := hf.sum
    omega) hA ha hB hb
set_option maxHeartbeats 8000000 in
theorem still_calls {W w : World} {rs : List Res} {A : Option Addr} {c c5 g4 : Nat} {zs : List ZN} {its : List SpM} {C : World → Prop} (hf : Fit zs) (hM : Sep W w (readR W C :: rs)) (hCS : ∀ w', C w' → SpareC (-5) (-6) (some ⟨g4, 0, none⟩) its roomTl w') (hCC : ∀ w', C w' → Kd.C kP w' A zs.length zs) (hI : its.map pr = zs) (hc : zs.length ≤ c) (hc5 : zs.length + 2 ≤ c5) :
    Calls Try.prog 29 #[.slice (some ⟨g4, 0, none⟩) (zs.length + 2) c5, .slice A zs.length c] w fun e w' => e = .returned (.bool true) ∧ Sep W w' (readR W C :: rs) := by
  have hl := hf.few
  have HKid : Aside0 (∀ z ∈ zs, z.2.length ≤ 1048576) := ⟨fun z hz => by
    have := FoldSame.mem_le_sum (List.mem_map_of_mem (f := fun x : ZN => x.2.length) hz)
    have := hf.sum
    omega⟩
  have hil : its.length = zs.length := by rw [← hI, List.length_map]
  have M := Aside0.mk hM
  have HCC := Aside0.mk hCC
  have HCS := Aside0.mk hCS
  have HI := Aside0.mk hI
  have HIL := Aside0.mk hil
  have HF := Aside0.mk hf
  clear hf hM hCC hCS hI hil
  go_enter Try.func29, Try.ntmps29
  go_wp2_with fail
  go_loopw [5] (fun v5 wr => ∃ i : Nat, i ≤ zs.length ∧ v5 = .int .i64 i ∧ Aside0 (Sep W wr (readR W C :: rs))) (fun v5 _ => zs.length - (intOf v5).toNat)
  case atStart => exact ⟨0, by omega, rfl, M⟩
  case round =>
    clear M
    obtain ⟨i, hi, rfl, M⟩ := hrel
    by_cases hlt : i < zs.length
    · have hlt2 : i < zs.length + 2 := by omega
      obtain ⟨ad, Ak, ck0, rfl, x0, x1, hck, hCk⟩ := z_at (HCC.out _ (read_at M.out)) hlt
      have hkle := HKid.out zs[i] (List.getElem_mem hlt)
      have hpi : pr (its[i]'(by rw [HIL.out]; exact hlt)) = (zs[i].1, zs[i].2) := by
        have h1 := congrArg (·[i]?) HI.out
        simp only [List.getElem?_map] at h1
        rw [List.getElem?_eq_getElem hlt, List.getElem?_eq_getElem (show i < its.length by rw [HIL.out]; exact hlt)] at h1
        exact Option.some.inj h1
      have hspc := spare_cell (HCS.out _ (read_at M.out)) (i := i) (by rw [HIL.out]; exact hlt) hpi (by omega)
      clear hpi
      generalize zs[i] = q at x0 x1 hck hkle hCk hspc
      obtain ⟨b4, gk, ck, e4, y0, y1, hck2, z0, z1, hCin⟩ := hspc
      cases e4
      have HCin := Aside0.mk hCin
      have HCk := Aside0.mk hCk
      clear hCin hCk
      replace z0 : wr.cell? ⟨gk, q.2.length, none⟩ = some (.int .i64 (-5)) := z0
      replace z1 : wr.cell? ⟨gk, q.2.length + 1, none⟩ = some (.int .i64 (-6)) := z1
      obtain ⟨ks, hks⟩ : ∃ ks, ks = q.2 := ⟨_, rfl⟩
      rw [← hks] at x1 hck hkle y1 hck2 z0 z1 HCin HCk
      obtain ⟨K, hK⟩ : ∃ K, ks.length = K := ⟨_, rfl⟩
      rw [hK] at x1 hck hkle y1 hck2 z0 z1
      have hcl : ∀ w' n, w' = wr.drewN n → Calls Try.prog 31 #[.slice (some ⟨gk, 0, none⟩) K ck, .slice Ak K ck0] w' fun e w'' => e = .returned (.bool true) ∧ Drawn0 w' w'' := by
        intro w' n hw
        subst hw
        have h := SharesQ.ints_calls (ca := ck) (cb := ck0) (Kd.C_drewN HCin.out n) (by omega) (Kd.C_drewN HCk.out n) (by omega) (by omega)
        rw [hK, decide_eq_true rfl] at h
        exact h
      have HCL := Aside0.mk hcl
      clear hcl hK hks HCin HCk
      have hKc : K ≤ ck := by omega
      have e1 : ((K : Int) + 2) ≤ (ck : Int) := by omega
      have e2 : ((K : Int) + 1) < ((K : Int) + 2) := by omega
      have e3 : (K : Int) < ((K : Int) + 2) := by omega
      go_wp2_with fail
      go_quiet (first | (go_at_call 31; refine (HCL.out _ _ rfl).mono ?_; rintro e w' ⟨rfl, ⟨nd, rfl⟩⟩; (try first | exact ⟨rfl, _, World.drewN_drewN _ _ _⟩ | exact ⟨rfl, _, Eq.trans (World.drewN_drewN _ _ _) (congrArg (World.drewN _) (Nat.add_assoc _ _ _))⟩)))
      go_wp2_with fail
      exact ⟨⟨i + 1, by omega, by go_num, ⟨M.out.drawn ⟨_, rfl⟩⟩⟩, by simp [intOf]; omega⟩
    · have hie : i = zs.length := by omega
      subst hie
      have hsp := HCS.out _ (read_at M.out)
      have y0 : wr.cell? ⟨g4, zs.length * 2, none⟩ = some (.string ⟨#[114, 111, 111, 109]⟩) := spare_tail hsp rfl HIL.out (i := 0) rfl
      have y2 : wr.cell? ⟨g4, (zs.length + 1) * 2, none⟩ = some (.string ⟨#[114, 111, 111, 109]⟩) := by
        rw [show (zs.length + 1) * 2 = zs.length * 2 + 2 by omega]
        exact spare_tail hsp rfl HIL.out (i := 2) rfl
      have hn1 := hsp.nodes
      rw [HI.out, HIL.out] at hn1
      have hlc5 : zs.length ≤ c5 := by omega
      have hnc := Aside0.mk (nodesz_calls HF.out hn1 hlc5 (HCC.out _ (read_at M.out)) hc)
      clear hn1 hsp
      go_wp2_with fail
      refine hnc.out.mono ?_
      clear hnc
      rintro e w9 ⟨rfl, ⟨n9, rfl⟩⟩
      have M9 := Aside0.mk (M.out.drawn (w' := wr.drewN n9) ⟨_, rfl⟩)
      clear M
      go_wp2_with fail
      go_ret
      exact ⟨rfl, M9.out⟩
end Go.Proofs.Ytkonloadedbpkaa.StillW
