/- For every case of at most 1048576 values and letters together: what is handed to Nodes stays as it is, and what it tells is the caller's own (FoldMemory answers true, its argument as it was). -/
import Derived.Test.YtkonloadedbpkaaY4
import Derived.Test.YtkonloadedbpkaaY6
import Derived.Test.YtkonloadedbpkaaY10
import Derived.Test.YtkonloadedbpkaaY11
import Derived.Deep.DrawnRows
import Derived.StillTailTactics
import Derived.Test.YtkonloadedbpkaaRows
import Derived.Test.YtkonloadedbpkaaY9
import Derived.WalkKit
import Derived.ProofKit
import Derived.OpenShut
import Derived.JoinedCond
import Derived.ChangeOld
import Derived.Carry
import Derived.SliceStrings
import Derived.Lib.SmallJoins
namespace Go.Proofs.Ytkonloadedbpkaa.MemW
open Go.RowKit Go.Maps Go.Proofs.Ytkonloadedbpkaa.Sep Go.Proofs.Ytkonloadedbpkaa.FMaps Go.Proofs.Ytkonloadedbpkaa.FoldPure Go.Proofs.Ytkonloadedbpkaa.FoldMem Go.Proofs.Ytkonloadedbpkaa.Gather Go.Proofs.Ytkonloadedbpkaa.FoldRun Go.Proofs.Ytkonloadedbpkaa.NodesPure Go.Proofs.Ytkonloadedbpkaa.NodesMem Go.Proofs.Ytkonloadedbpkaa.NodesW Go.Proofs.Ytkonloadedbpkaa.FoldCount Go.Proofs.Ytkonloadedbpkaa.FoldSame Go.Proofs.Ytkonloadedbpkaa.NodeMem Go.Proofs.Ytkonloadedbpkaa.NamedP Go.Proofs.Ytkonloadedbpkaa.EmptyW Go.Proofs.Ytkonloadedbpkaa.AliveW Go.Proofs.Ytkonloadedbpkaa.Lits Go.Proofs.Ytkonloadedbpkaa.Spare Go.Proofs.Ytkonloadedbpkaa.Kept Go.Proofs.Ytkonloadedbpkaa.Onto
open Go.Proofs.YtkonloadedbpkaaW.PrintWords Go.Proofs.YtkonloadedbpkaaW.PrintLast Go.Proofs.YtkonloadedbpkaaW.PrintMore
set_option linter.unusedVariables false
set_option linter.unusedSimpArgs false
set_option maxRecDepth 100000

theorem kids_cells {w : World} {A : Option Addr} {ks : List Nat} (h : Kd.C (Kd.int .i64) w A ks.length (ints ks)) : (A = none → ks.length = 0) ∧ ∀ ad, A = some ad → ∀ j u, ((ints ks).map num)[j]? = some u → w.cell? (ad.add j) = some u := by
  refine ⟨fun hA => ?_, fun ad hA j u hu => ?_⟩
  · rcases Nat.eq_zero_or_pos ks.length with h0 | h0
    · exact h0
    · obtain ⟨ad, e, _⟩ := h.2.2 h0
      rw [hA] at e
      cases e
  · rw [List.map_map, List.getElem?_map] at hu
    obtain ⟨k, hk, rfl⟩ := Option.map_eq_some_iff.1 hu
    have hj := (List.getElem?_eq_some_iff.1 hk).1
    obtain ⟨ad2, e, hc⟩ := kid_at h rfl hj
    rw [hA] at e
    cases e
    rw [hc, (List.getElem?_eq_some_iff.1 hk).2]
    rfl
theorem two_cells (w : World) {u1 u2 : Value} {e : TypeId} {ad : Addr} (h : some (⟨w.heap.size, 0, none⟩ : Addr) = some ad) : ∀ j u, [u1, u2][j]? = some u → (w.alloc (.cells #[u1, u2] e)).cell? (ad.add j) = some u := by
  intro j u hu
  cases h
  rw [add0, (cell_at (heap_alloc_new w (.cells #[u1, u2] e)) j).1]
  simpa using hu
def othS : ByteArray := ⟨#[111, 116, 104, 101, 114]⟩
def hypCells : Array Value := #[.string sS, .bool false, .int .i64 (-1), .slice none 0 0, .string othS, .bool false, .int .i64 0, .slice none 0 0]
theorem build42b (s : ByteArray) (w : World) : (Instr.build 42 #[(0, .string s), (2, .int .i64 (-1))]).run Try.prog w = .ok (.agg #[.string s, .bool false, .int .i64 (-1), .slice none 0 0]) w := by kernel_rfl
theorem build35c (b : Nat) (w : World) : (Instr.build 35 #[(2, .slice (some ⟨b, 0, none⟩) 2 2)]).run Try.prog w = .ok (.agg #[.slice none 0 0, .slice none 0 0, .slice (some ⟨b, 0, none⟩) 2 2, .int .i64 0, .slice none 0 0]) w := by kernel_rfl
theorem mand_two {W w : World} {rs : List Res} {b : Nat} (h : Sep W w (boxR b 42 hypCells :: rs)) : Sep W w (readR W (fun w' => w'.heap[b]? = some (.cells hypCells 42 (0, 0))) :: rs) := by
  refine h.told fun f hf w' _ hw => ?_
  exact (hw b hf.2 (Array.getElem?_eq_some_iff.1 hf.1).1).trans hf.1
theorem hyp_mand {b : Nat} {w : World} (h : w.heap[b]? = some (.cells hypCells 42 (0, 0))) : MandC (some ⟨b, 0, none⟩) [sS, othS] w := by
  intro i hi
  have h4 := fun j => (cell_at h j).1
  match i, hi with
  | 0, _ =>
    refine ⟨⟨b, 0, none⟩, false, -1, none, 0, 0, rfl, ?_, ?_, ?_, ?_⟩
    all_goals
      rw [Nat.zero_mul, add0]
      exact h4 _
  | 1, _ =>
    refine ⟨⟨b, 0, none⟩, false, 0, none, 0, 0, rfl, ?_, ?_, ?_, ?_⟩
    all_goals
      rw [Nat.one_mul, add0]
      exact h4 _
theorem lit_cells (w : World) (us : Array Value) (e : TypeId) : ∀ j u, us.toList[j]? = some u → (w.alloc (.cells us e)).cell? ((⟨w.heap.size, 0, none⟩ : Addr).add j) = some u := by
  intro j u hu
  rw [add0, (cell_at (heap_alloc_new w (.cells us e)) j).1]
  simpa using hu
def gLit : Array Value := #[.string ⟨#[103]⟩, .string ⟨#[104]⟩, .string ⟨#[105]⟩, .string ⟨#[106]⟩]
def hLit : Array Value := #[.int .i64 (-1), .int .i64 (-2), .int .i64 (-3), .int .i64 (-4)]
def mineS : ByteArray := ⟨#[109, 105, 110, 101]⟩
def mineL (bs : List ByteArray) (i : Nat) : List Value := List.replicate i (.string mineS) ++ (bs.drop i).map Value.string
theorem mineL_set {bs : List ByteArray} {i : Nat} (h : i < bs.length) : (mineL bs i).set i (.string mineS) = mineL bs (i + 1) := by
  unfold mineL
  rw [List.set_append, if_neg (by simp), List.length_replicate, Nat.sub_self, List.drop_eq_getElem_cons h, List.map_cons, List.set_cons_zero, List.replicate_succ', List.append_assoc]
  rfl
theorem mineL_at {bs : List ByteArray} {i : Nat} (h : i < bs.length) : ∃ s, (mineL bs i)[i]? = some (.string s) := by
  unfold mineL
  rw [List.getElem?_append_right (by simp), List.length_replicate, Nat.sub_self, List.drop_eq_getElem_cons h]
  exact ⟨_, rfl⟩
def downL (cs : List Int) (i : Nat) : List Value := (List.range i).map (fun (k : Nat) => num (-700 - (k : Int))) ++ (cs.drop i).map num
theorem downL_set {cs : List Int} {i : Nat} (h : i < cs.length) : (downL cs i).set i (num (-700 - (i : Int))) = downL cs (i + 1) := by
  unfold downL
  rw [List.set_append, if_neg (by simp), List.length_map, List.length_range, Nat.sub_self, List.drop_eq_getElem_cons h, List.map_cons, List.set_cons_zero, List.range_succ, List.map_append, List.append_assoc]
  rfl
theorem downL_at {cs : List Int} {i : Nat} (h : i < cs.length) : ∃ n, (downL cs i)[i]? = some (num n) := by
  unfold downL
  rw [List.getElem?_append_right (by simp), List.length_map, List.length_range, Nat.sub_self, List.drop_eq_getElem_cons h]
  exact ⟨_, rfl⟩
theorem downL_get {cs : List Int} {i : Nat} (h : i < cs.length) : (downL cs cs.length)[i]? = some (num (-700 - (i : Int))) := by
  unfold downL
  rw [List.drop_length, List.map_nil, List.append_nil, List.getElem?_map, List.getElem?_range h]
  rfl
theorem mineL_get {bs : List ByteArray} {i : Nat} (h : i < bs.length) : (mineL bs bs.length)[i]? = some (.string mineS) := by
  unfold mineL
  rw [List.drop_length, List.map_nil, List.append_nil, List.getElem?_replicate, if_pos h]
theorem downL_len (cs : List Int) : (downL cs cs.length).length = cs.length := by simp [downL]
theorem mineL_len (bs : List ByteArray) : (mineL bs bs.length).length = bs.length := by simp [mineL]
theorem both_get {A : Option Addr} {xs us : List Value} {g i : Nat} {u : Value} {w : World} (h : BothC A xs g (xs ++ us) w) (hx : xs[i]? = some u) {ad : Addr} (hA : A = some ad) : w.cell? (ad.add i) = some u ∧ w.cell? ⟨g, i, none⟩ = some u :=
  ⟨h.1 ad hA i u hx, h.2 i u (by rw [List.getElem?_append_left (List.getElem?_eq_some_iff.1 hx).1]; exact hx)⟩
theorem both_more {A : Option Addr} {xs us : List Value} {g i n : Nat} {u : Value} {w : World} (h : BothC A xs g (xs ++ us) w) (hn : xs.length = n) (hx : us[i]? = some u) : w.cell? ⟨g, n + i, none⟩ = some u :=
  h.2 (n + i) u (by rw [List.getElem?_append_right (by omega), hn, Nat.add_sub_cancel_left]; exact hx)
theorem spare_cell {x y : Int} {A : Option Addr} {items : List SpM} {tl : List Value} {w : World} (h : SpareC x y A items tl w) {i : Nat} (hi : i < items.length) {lab : ByteArray} {kids : List Int} (hp : pr items[i] = (lab, kids)) (hk : kids.length ≤ 4194304) :
    ∃ b g c, A = some ⟨b, 0, none⟩ ∧ w.cell? ⟨b, i * 2, none⟩ = some (.string lab) ∧ w.cell? ⟨b, i * 2 + 1, none⟩ = some (.slice (some ⟨g, 0, none⟩) kids.length c) ∧ kids.length + 2 ≤ c ∧ w.cell? ⟨g, kids.length, none⟩ = some (num x) ∧ w.cell? ⟨g, kids.length + 1, none⟩ = some (num y) ∧ Kd.C (Kd.int .i64) w (some ⟨g, 0, none⟩) kids.length kids := by
  obtain ⟨b, hA, hcell⟩ := h.cells
  obtain ⟨n1, n2⟩ := cellsS_at items hi
  have hll := cellsS_len items
  obtain ⟨g, eg, hc, hg⟩ := h.rows items[i] (List.getElem_mem hi)
  have e1 : items[i].lab = lab := congrArg Prod.fst hp
  have e2 : items[i].kids = kids := congrArg Prod.snd hp
  rw [e1] at n1
  rw [e2, eg] at n2
  rw [e2] at hc
  unfold spRow at hg
  rw [e2] at hg
  refine ⟨b, g, items[i].c, hA, hcell _ _ (by rw [List.getElem?_append_left (by omega)]; exact n1), hcell _ _ (by rw [List.getElem?_append_left (by omega)]; exact n2), hc, hg _ _ ?_, hg _ _ ?_, rfl, by omega, fun _ => ⟨⟨g, 0, none⟩, rfl, fun j p hj => ⟨[.int .i64 p], rfl, rfl, fun u v hv => ?_⟩⟩⟩
  · rw [List.getElem?_append_right (by simp)]
    simp
  · rw [List.getElem?_append_right (by simp)]
    simp
  · have hu : u = 0 := by
      have := (List.getElem?_eq_some_iff.1 hv).1
      simpa using this
    subst hu
    simp at hv
    subst hv
    have hjl := (List.getElem?_eq_some_iff.1 hj).1
    have := hg j (num p) (by rw [List.getElem?_append_left (by simpa using hjl), List.getElem?_map, hj]; rfl)
    rw [show j * (Kd.int .i64).sz + 0 = j from by show j * 1 + 0 = j; omega, add0]
    exact this
theorem spare_tail {x y : Int} {A : Option Addr} {items : List SpM} {tl : List Value} {w : World} (h : SpareC x y A items tl w) {b i n : Nat} {u : Value} (hA : A = some ⟨b, 0, none⟩) (hn : items.length = n) (hu : tl[i]? = some u) : w.cell? ⟨b, n * 2 + i, none⟩ = some u := by
  obtain ⟨b2, hA2, hcell⟩ := h.cells
  rw [hA] at hA2
  cases hA2
  have hll := cellsS_len items
  refine hcell _ _ ?_
  rw [List.getElem?_append_right (by omega), show n * 2 + i - (cellsS items).length = i by omega]
  exact hu
structure MidR (w wx : World) (items : List PartM) (its : List SpM) (bs : List ByteArray) (cs : List Int) (A2 A9 A10 A12 A13 A18 A19 : Option Addr) (c2 c5 c12 c13 c18 c19 gg gh g4 hb : Nat) : Prop where
  its_ : its.map pr = items.map (fun q => toP (nd q))
  len : its.length = items.length
  kid : ∀ q ∈ items, q.part.kids.length ≤ 1048576
  few : items.length ≤ 1048576
  hc2 : items.length ≤ c2
  hc5 : items.length + 2 ≤ c5
  hbs : bs.length ≤ 4194304
  hcs : cs.length ≤ 4000
  h9 : A9 = none → bs.length = 0
  h10 : A10 = none → cs.length = 0
  sep : Sep w wx (rowR 9 1 (.slice A18 bs.length c18) bs.length (bs.map Value.string) :: rowR 3 1 (.slice A19 cs.length c19) cs.length (cs.map num) :: readR w (BothC A10 (downL cs cs.length) gh (downL cs cs.length ++ hLit.toList)) :: readR w (BothC A9 (mineL bs bs.length) gg (mineL bs bs.length ++ gLit.toList)) :: rowR 3 1 (.slice A13 cs.length c13) cs.length (cs.map num) :: rowR 9 1 (.slice A12 bs.length c12) bs.length (bs.map Value.string) :: boxR (hb + 1) 35 #[.slice none 0 0, .slice none 0 0, .slice (some ⟨hb, 0, none⟩) 2 2, .int .i64 0, .slice none 0 0] :: readR w (fun w' => w'.heap[hb]? = some (.cells hypCells 42 (0, 0))) :: readR w (SpareC 801 802 (some ⟨g4, 0, none⟩) its [.string ⟨#[98, 101, 104, 105, 110, 100]⟩, .slice none 0 0, .string ⟨#[116, 104, 105, 115]⟩, .slice none 0 0]) :: readR w (ItemsC A2 items) :: [])
set_option maxHeartbeats 8000000 in
theorem memory_calls {w : World} {A A2 A4 : Option Addr} {c l2 c2 l4 c4 : Nat} {t : ByteArray} {nn : Int} {zs : List (ByteArray × List Int)} (hC : Kd.C kP w A zs.length zs) (hc : zs.length ≤ c) (hl : zs.length ≤ 1048576) (he : (zs.map (·.2.length)).sum ≤ 1048576) :
    Calls Try.prog 4 #[.agg #[.string t, .int .i64 nn, .slice A2 l2 c2, .slice A zs.length c, .slice A4 l4 c4]] w fun e w' => e = .returned (.bool true) ∧ Below w.heap.size w w' := by
  have HE := Aside0.mk he
  have M0 := Aside0.mk (box_fresh (Sep.start w) 38 #[.string t, .int .i64 nn, .slice A2 l2 c2, .slice A zs.length c, .slice A4 l4 c4])
  have HC := Aside0.mk hC
  clear hC
  go_enter Try.func4, Try.ntmps4
  go_wp2_with fail
  refine (alive_calls _).mono ?_
  rintro e w1 ⟨rfl, hb1⟩
  have hm1 := M0.out.below hb1
  have f0 : w1.cell? ⟨w.heap.size, 3, none⟩ = some (.slice A zs.length c) := (box_cell hm1 (j := 3) rfl).1
  have M := Aside0.mk hm1
  have HC1 := Aside0.mk (Kd.C_below HC.out hm1.1)
  clear hb1 M0 hm1 HC
  go_wp2_with fail
  refine (named_calls M.out.tail HC1.out hc hl HE.out).mono ?_
  rintro e w2 ⟨items, A2, c2, rfl, hI, hil, hc2, hm2⟩
  clear M HC1 f0
  have hz1 := namedZ_len zs
  have hz2 := namedZ_sum zs
  have hkid : ∀ q ∈ items, q.part.kids.length ≤ 4194304 := fun q hq => by
    have h1 : nd q ∈ namedZ zs := by rw [← hI]; exact List.mem_map_of_mem hq
    have h2 := mem_le_sum (List.mem_map_of_mem (f := fun x : Nd => x.2.length) h1)
    have h3 : (nd q).2.length = q.part.kids.length := rfl
    have := HE.out
    omega
  have hr2 : Sep w w2 (readR w (ItemsC A2 items) :: []) := items_read (c := c2) (by rw [hil]; exact hm2) (by omega) hkid
  have hv := named_valid (zs.map toS2)
  have hlab := namedZ_lab HE.out
  have HL := Aside0.mk hI
  have HV := Aside0.mk (show Valid (namedZ zs) from hv)
  have HLab := Aside0.mk hlab
  have hsum : ((namedZ zs).map (·.2.length)).sum ≤ 1048576 := by have := HE.out; omega
  have HSum := Aside0.mk hsum
  have hkid2 : ∀ q ∈ items, q.part.kids.length ≤ 1048576 := fun q hq => by
    have h1 : nd q ∈ namedZ zs := by rw [← hI]; exact List.mem_map_of_mem hq
    have h2 := mem_le_sum (List.mem_map_of_mem (f := fun x : Nd => x.2.length) h1)
    have h3 : (nd q).2.length = q.part.kids.length := rfl
    omega
  have HKid := Aside0.mk hkid2
  have M := Aside0.mk (sp_none 801 802 (row_nil hr2 27 2)).swap
  rw [← hil]
  rw [← hil] at hc2 hl
  clear hm2 hr2 hkid hkid2 hil hz1 hz2 hv hlab hsum hc hI
  generalize namedZ zs = l at *
  go_wp2_with fail
  go_loopw [4, 5] (fun v4 v5 wr => ∃ (i : Nat) (A4 : Option Addr) (c4 : Nat) (its : List SpM), i ≤ items.length ∧ i ≤ c4 ∧ v4 = .slice A4 i c4 ∧ v5 = .int .i64 i ∧ its.length = i ∧ Aside0 (its.map pr = (items.take i).map (fun q => toP (nd q))) ∧
    Aside0 (Sep w wr (rowR 27 2 (.slice A4 i c4) i (cellsS its) :: spR 801 802 its :: readR w (ItemsC A2 items) :: []))) (fun _ v5 _ => items.length - (intOf v5).toNat)
  case atStart => exact ⟨0, none, 0, [], by omega, by omega, rfl, rfl, rfl, ⟨rfl⟩, M⟩
  case round =>
    clear M
    obtain ⟨i, A4, c4, its, hi, hc4, rfl, rfl, hil, HI, M⟩ := hrel
    by_cases hlt : i < items.length
    · obtain ⟨wo, rfl⟩ : ∃ wo : World, wo = wr := ⟨_, rfl⟩
      have hrl := row_lits M.out 3 1 0 #[] rfl (by unfold maxLen; omega)
      clear M
      have M := Aside0.mk hrl
      clear hrl
      obtain ⟨b, rfl, x0, x1, hck, hCk⟩ := (read_at (M.out.pull 3 (by simp))).cells i hlt
      have hkle := HKid.out items[i] (List.getElem_mem hlt)
      have hnw := Aside0.mk (kids_cells hCk)
      clear hCk
      have HAt := Aside0.mk (List.take_append_getElem hlt)
      generalize hx : items[i] = q at x0 x1 hck hkle hnw HAt
      have x2 : (wo.alloc (.cells #[] 3)).cell? ⟨b, i * 2 + 1, none⟩ = some (.slice q.A q.part.kids.length q.c) := x1
      go_upto_region 10 with (first
        | (at_builtin; refine wp_many M.out rfl (.tmp 39) (.tmp 44) 25 rfl Try.underlying25 info3 rfl rfl rfl (news := (ints q.part.kids).map num) (by simp) hnw.out.1 hnw.out.2 (by intro u hu; simp at hu; obtain ⟨_, _, rfl⟩ := hu; rfl) (by omega) (by omega) ?_; intro v6 w6 hm6; clear M; have M := Aside0.mk hm6; clear hm6)
        | (at_builtin; refine wp_many (M.out.alloc (.cells #[.int .i64 801, .int .i64 802] 3)) rfl (.tmp 46) (.tmp 47) 25 rfl Try.underlying25 info3 rfl rfl rfl (news := [.int .i64 801, .int .i64 802]) rfl (fun h => by cases h) (fun ad h => two_cells _ h) (by intro u hu; simp at hu; rcases hu with rfl | rfl <;> rfl) (by omega) (by omega) ?_; intro v7 w7 hm7; clear M; have M := Aside0.mk hm7; clear hm7))
      clear x0 x1 x2 hnw
      have hM := M.out
      obtain ⟨g, c7, rfl, hgc7, _, _, _⟩ := row_some hM.row (by omega)
      obtain ⟨b2, e2, x0, x1, _⟩ := (read_at (M.out.pull 3 (by simp))).cells i hlt
      cases e2
      rw [hx] at x0 x1
      replace x1 : w7.cell? ⟨b, i * 2 + 1, none⟩ = some (.slice q.A q.part.kids.length q.c) := x1
      have hk7 : q.part.kids.length ≤ c7 := by omega
      have hk8 : (q.part.kids.length : Int) ≤ (c7 : Int) := by omega
      clear hM
      -- region 10
      refine start_ (n := 18) (S := fun w' => w'.cell? ⟨b, i * 2, none⟩ = some (.string q.part.label) ∧ w'.cell? ⟨b, i * 2 + 1, none⟩ = some (.slice q.A q.part.kids.length q.c)) (ds := []) #[false, false, false, false, false, false, false, false, false, false, false, false, false, false, false, false, false, false] (by kernel_rfl) rfl rfl ⟨x0, x1⟩ (fun hHeld => ?_)
      have M8 := Aside0.mk (M.out.drawn (w' := w7.drew) ⟨1, rfl⟩)
      clear M x0 x1
      have M := M8
      clear M8
      generalize w7.drew = w8 at M hHeld ⊢
      refine pure_ (i := 0) (N := some 49) (v := ?_) (a' := ?_) #[true, false, false, false, false, false, false, false, false, false, false, false, false, false, false, false, false, false] rfl rfl (by kernel_rfl) (fun _ _ _ h => h) (Or.inl ⟨by rfl, ?_⟩) ?_ ?_
      rotate_left
      · intro w'
        go_simp
        with_reducible rfl
      rotate_left
      · simp only [Act.put, List.setIfInBounds_toArray, List.set_cons_zero, List.set_cons_succ, i64_w, i32_w]
        rfl
      refine pure_ (i := 1) (N := some 50) (v := ?_) (a' := ?_) #[true, true, false, false, false, false, false, false, false, false, false, false, false, false, false, false, false, false] rfl rfl (by kernel_rfl) (fun _ _ _ h => h) (Or.inl ⟨by rfl, ?_⟩) ?_ ?_
      rotate_left
      · intro w'
        go_simp
        with_reducible rfl
      rotate_left
      · simp only [Act.put, List.setIfInBounds_toArray, List.set_cons_zero, List.set_cons_succ, i64_w, i32_w]
        rfl
      refine pure_ (i := 2) (N := some 51) (v := ?_) (a' := ?_) #[true, true, true, false, false, false, false, false, false, false, false, false, false, false, false, false, false, false] rfl rfl (by kernel_rfl) (fun _ _ _ h => h) (Or.inl ⟨by rfl, ?_⟩) ?_ ?_
      rotate_left
      · intro w'
        go_simp
        with_reducible rfl
      rotate_left
      · simp only [Act.put, List.setIfInBounds_toArray, List.set_cons_zero, List.set_cons_succ, i64_w, i32_w]
        rfl
      refine pure_ (i := 3) (N := some 52) (v := ?_) (a' := ?_) #[true, true, true, true, false, false, false, false, false, false, false, false, false, false, false, false, false, false] rfl rfl (by kernel_rfl) (fun _ _ _ h => h) (Or.inl ⟨by rfl, ?_⟩) ?_ ?_
      rotate_left
      · intro w'
        go_simp
        with_reducible rfl
      rotate_left
      · simp only [Act.put, List.setIfInBounds_toArray, List.set_cons_zero, List.set_cons_succ, i64_w, i32_w]
        rfl
      refine pure_ (i := 4) (N := some 53) (v := ?_) (a' := ?_) #[true, true, true, true, true, false, false, false, false, false, false, false, false, false, false, false, false, false] rfl rfl (by kernel_rfl) (fun _ _ _ h => h) (Or.inl ⟨by rfl, ?_⟩) ?_ ?_
      rotate_left
      · intro w'
        go_simp
        with_reducible rfl
      rotate_left
      · simp only [Act.put, List.setIfInBounds_toArray, List.set_cons_zero, List.set_cons_succ, i64_w, i32_w]
        rfl
      refine pure_ (i := 6) (N := some 55) (v := ?_) (a' := ?_) #[true, true, true, true, true, false, true, false, false, false, false, false, false, false, false, false, false, false] rfl rfl (by kernel_rfl) (fun _ _ _ h => h) (Or.inl ⟨by rfl, ?_⟩) ?_ ?_
      rotate_left
      · intro w'
        go_simp
        with_reducible rfl
      rotate_left
      · simp only [Act.put, List.setIfInBounds_toArray, List.set_cons_zero, List.set_cons_succ, i64_w, i32_w]
        rfl
      refine pure_ (i := 7) (N := some 56) (v := ?_) (a' := ?_) #[true, true, true, true, true, false, true, true, false, false, false, false, false, false, false, false, false, false] rfl rfl (by kernel_rfl) (fun _ _ _ h => h) (Or.inl ⟨by rfl, ?_⟩) ?_ ?_
      rotate_left
      · intro w'
        go_simp
        with_reducible rfl
      rotate_left
      · simp only [Act.put, List.setIfInBounds_toArray, List.set_cons_zero, List.set_cons_succ, i64_w, i32_w]
        rfl
      refine pure_ (i := 8) (N := some 57) (v := ?_) (a' := ?_) #[true, true, true, true, true, false, true, true, true, false, false, false, false, false, false, false, false, false] rfl rfl (by kernel_rfl) (fun _ _ _ h => h) (Or.inl ⟨by rfl, ?_⟩) ?_ ?_
      rotate_left
      · intro w'
        go_simp
        with_reducible rfl
      rotate_left
      · simp only [Act.put, List.setIfInBounds_toArray, List.set_cons_zero, List.set_cons_succ, i64_w, i32_w]
        rfl
      refine pure_ (i := 9) (N := some 58) (v := ?_) (a' := ?_) #[true, true, true, true, true, false, true, true, true, true, false, false, false, false, false, false, false, false] rfl rfl (by kernel_rfl) (fun _ _ _ h => h) (Or.inl ⟨by rfl, ?_⟩) ?_ ?_
      rotate_left
      · intro w'
        go_simp
        with_reducible rfl
      rotate_left
      · simp only [Act.put, List.setIfInBounds_toArray, List.set_cons_zero, List.set_cons_succ, i64_w, i32_w]
        rfl
      refine pure_ (i := 10) (N := some 59) (v := ?_) (a' := ?_) #[true, true, true, true, true, false, true, true, true, true, true, false, false, false, false, false, false, false] rfl rfl (by kernel_rfl) (fun _ _ _ h => h) (Or.inl ⟨by rfl, ?_⟩) ?_ ?_
      rotate_left
      · intro w'
        go_simp
        with_reducible rfl
      rotate_left
      · simp only [Act.put, List.setIfInBounds_toArray, List.set_cons_zero, List.set_cons_succ, i64_w, i32_w]
        rfl
      refine take_ (i := 5) (N := some 54) (v := ?_) (a' := ?_) #[true, true, true, true, true, true, true, true, true, true, true, false, false, false, false, false, false, false] rfl rfl (by kernel_rfl) (fun _ _ _ h => h) (Or.inl ⟨by rfl, ?_⟩) hHeld ?_ ?_
      rotate_left
      · rintro w' ⟨s0, s1⟩
        go_simp
        with_reducible rfl
      rotate_left
      · simp only [Act.put, List.setIfInBounds_toArray, List.set_cons_zero, List.set_cons_succ, i64_w, i32_w]
        rfl
      refine take_ (i := 11) (N := some 60) (v := ?_) (a' := ?_) #[true, true, true, true, true, true, true, true, true, true, true, true, false, false, false, false, false, false] rfl rfl (by kernel_rfl) (fun _ _ _ h => h) (Or.inl ⟨by rfl, ?_⟩) hHeld ?_ ?_
      rotate_left
      · rintro w' ⟨s0, s1⟩
        go_simp
        with_reducible rfl
      rotate_left
      · simp only [Act.put, List.setIfInBounds_toArray, List.set_cons_zero, List.set_cons_succ, i64_w, i32_w]
        rfl
      refine pure_ (i := 12) (N := some 61) (v := ?_) (a' := ?_) #[true, true, true, true, true, true, true, true, true, true, true, true, true, false, false, false, false, false] rfl rfl (by kernel_rfl) (fun _ _ _ h => h) (Or.inl ⟨by rfl, ?_⟩) ?_ ?_
      rotate_left
      · intro w'
        go_simp
        with_reducible rfl
      rotate_left
      · simp only [Act.put, List.setIfInBounds_toArray, List.set_cons_zero, List.set_cons_succ, i64_w, i32_w]
        rfl
      refine pure_ (i := 13) (N := some 62) (v := ?_) (a' := ?_) #[true, true, true, true, true, true, true, true, true, true, true, true, true, true, false, false, false, false] rfl rfl (by kernel_rfl) (fun _ _ _ h => h) (Or.inl ⟨by rfl, ?_⟩) ?_ ?_
      rotate_left
      · intro w'
        go_simp
        with_reducible rfl
      rotate_left
      · simp only [Act.put, List.setIfInBounds_toArray, List.set_cons_zero, List.set_cons_succ, i64_w, i32_w]
        rfl
      refine pure_ (i := 14) (N := some 63) (v := ?_) (a' := ?_) #[true, true, true, true, true, true, true, true, true, true, true, true, true, true, true, false, false, false] rfl rfl (by kernel_rfl) (fun _ _ _ h => h) (Or.inl ⟨by rfl, ?_⟩) ?_ ?_
      rotate_left
      · intro w'
        go_simp
        with_reducible rfl
      rotate_left
      · simp only [Act.put, List.setIfInBounds_toArray, List.set_cons_zero, List.set_cons_succ, i64_w, i32_w]
        rfl
      refine one_ (i := 15) (N := some 64) #[true, true, true, true, true, true, true, true, true, true, true, true, true, true, true, true, false, false] rfl rfl (by kernel_rfl) (by decide) (fun K hK => ?_)
      refine value_ (w1 := ?_) (v := ?_) (by rfl) rfl ?_ ?_
      rotate_left
      rotate_left
      · go_simp
        refine ⟨?_, ?_⟩ <;> rfl
      have M9 := Aside0.mk (M.out.alloc (.cells #[.string q.part.label, .slice (some ⟨g, 0, none⟩) q.part.kids.length c7] 27))
      obtain ⟨b2, e2, y0, y1, _⟩ := (read_at (M9.out.pull 3 (by simp))).cells i hlt
      cases e2
      rw [hx] at y0 y1
      refine hK.out _ _ ⟨y0, y1⟩ (fun hHeld => ?_)
      clear hK K y0 y1
      refine one_ (i := 16) (N := some 65) #[true, true, true, true, true, true, true, true, true, true, true, true, true, true, true, true, true, false] rfl rfl (by kernel_rfl) (by decide) (fun K hK => ?_)
      obtain ⟨i27, hi27, hz27, hs27, hb27⟩ := info_parts info27
      refine step_append_lies _ rfl _ _ _ rfl 0 27 i27 _ 2 40 Try.underlying24 hi27 hz27 hs27 hb27 rfl (by omega) (.slice A4 i c4) i (cellsS its) rfl (M9.out.pull 1 (by simp)).row
        ⟨w8.heap.size, 0, none⟩ 1 1 [.string q.part.label, .slice (some ⟨g, 0, none⟩) q.part.kids.length c7] rfl rfl (World.news_of_block (cs := #[.string q.part.label, .slice (some ⟨g, 0, none⟩) q.part.kids.length c7]) (t := 27) (fr := (0, 0)) (heap_alloc_new w8 _)) (by simp [Value.oneCell'])
        (by omega) (by unfold maxLen; omega) (by omega) (Nat.zero_le _) (w8.heap.size + 1) (by simp) ?_
      intro gg cap w10 hown hgrow hat hlt4
      have M10 := Aside0.mk ((M9.out.pull 1 (by simp)).appended hown hgrow (by
        rcases hat with h | h
        · exact .inl h.symm
        · right; rw [h]; simp [Value.ownBlock]))
      obtain ⟨b2, e2, y0, y1, _⟩ := (read_at (M10.out.pull 3 (by simp))).cells i hlt
      cases e2
      rw [hx] at y0 y1
      refine hK.out _ _ ⟨y0, y1⟩ (fun hHeld => ?_)
      clear hK K y0 y1 hown hgrow hat hlt4 M9
      refine pure_ (i := 17) (N := some 4) (v := ?_) (a' := ?_) #[true, true, true, true, true, true, true, true, true, true, true, true, true, true, true, true, true, true] rfl rfl (by kernel_rfl) (fun _ _ _ h => h) (Or.inl ⟨by rfl, ?_⟩) ?_ ?_
      rotate_left
      · intro w'
        go_simp
        with_reducible rfl
      rotate_left
      · simp only [Act.put, List.setIfInBounds_toArray, List.set_cons_zero, List.set_cons_succ, i64_w, i32_w]
        rfl
      refine done_ (by kernel_rfl) ?_
      -- end of region 10
      have hl10 : (ints q.part.kids).length = q.part.kids.length := by simp
      have hm10 := ((M10.out.pull 1 (by simp)).pull 2 (by simp)).pull 1 (by simp)
      have hm11 := sp_more (x := 801) (y := 802) (items := its) (q := ⟨q.part.label, ints q.part.kids, some ⟨g, 0, none⟩, c7⟩) (rs := rowR 27 2 (.slice (some ⟨gg, 0, none⟩) (i + 1) cap) (i + 1) (cellsS its ++ [.string q.part.label, .slice (some ⟨g, 0, none⟩) q.part.kids.length c7]) :: readR w (ItemsC (some ⟨b, 0, none⟩) items) :: []) (by
        unfold spRow
        simp only [hl10]
        simp only [Nat.zero_add, List.nil_append] at hm10
        exact hm10)
      have hm12 := hm11.swap
      have hcm := cellsS_more its ⟨q.part.label, ints q.part.kids, some ⟨g, 0, none⟩, c7⟩
      simp only [hl10] at hcm
      rw [hcm] at hm12
      have hcap : i + 1 ≤ cap := by
        obtain ⟨A13, c13, e13, hc13⟩ := row_slice hm12.row
        simp only [Value.slice.injEq, true_and] at e13
        omega
      have M := Aside0.mk hm12
      clear hm10 hm11 hm12 hcm M10
      go_wp2_with fail
      exact ⟨⟨i + 1, _, cap, its ++ [⟨q.part.label, ints q.part.kids, some ⟨g, 0, none⟩, c7⟩], by omega, by omega, rfl, by go_num, by simp [hil], ⟨by
        rw [List.map_append, HI.out, ← HAt.out, List.map_append]
        rfl⟩, M⟩, by simp [intOf]; omega⟩
    · have hie : i = items.length := by omega
      subst hie
      go_wp2_with fail
      refine (node_calls M.out ⟨#[98, 101, 104, 105, 110, 100]⟩ none 0 0).mono ?_
      rintro e w3 ⟨rfl, hm3⟩
      clear M
      have M := Aside0.mk hm3
      clear hm3
      go_wp2_with fail
      refine (node_calls M.out ⟨#[116, 104, 105, 115]⟩ none 0 0).mono ?_
      rintro e w4 ⟨rfl, hm4⟩
      clear M
      have M := Aside0.mk hm4
      clear hm4
      have hnb := Aside0.mk (box_at (box_fresh M.out 27 #[.string ⟨#[98, 101, 104, 105, 110, 100]⟩, .slice none 0 0, .string ⟨#[116, 104, 105, 115]⟩, .slice none 0 0]))
      go_upto_region 12 with (at_builtin; refine wp_two (M.out.alloc (.cells #[.string ⟨#[98, 101, 104, 105, 110, 100]⟩, .slice none 0 0, .string ⟨#[116, 104, 105, 115]⟩, .slice none 0 0] 27)) rfl (.tmp 66) (.tmp 69) rfl rfl rfl hnb.out rfl rfl rfl rfl (by omega) ?_; intro g4 c5 w5 hc5 hm5; clear M hnb; have M := Aside0.mk hm5; clear hm5)
      have hsp := sp_read (n := items.length) (k := 2) hil (by omega) (fun p hp => by
        have h1 : pr p ∈ (items.take items.length).map (fun q => toP (nd q)) := by rw [← HI.out]; exact List.mem_map_of_mem hp
        obtain ⟨q, hq, e⟩ := List.mem_map.1 h1
        have h2 := HKid.out q (List.mem_of_mem_take hq)
        have h3 : p.kids = ints q.part.kids := (congrArg Prod.snd e).symm
        rw [h3]
        simp
        omega) (by omega) M.out
      clear M
      have M := Aside0.mk hsp
      clear hsp
      have hlc5 : items.length ≤ c5 := by omega
      have hb1 := build42
      have hb2 := build42b
      have hb3 := build35c
      have hbh := box_fresh M.out 42 hypCells
      have M2 := Aside0.mk (mand_two hbh)
      clear hbh
      have M3 := Aside0.mk (box_fresh M2.out 35 #[.slice none 0 0, .slice none 0 0, .slice (some ⟨w5.heap.size, 0, none⟩) 2 2, .int .i64 0, .slice none 0 0])
      have HSz := Aside0.mk (show (w5.alloc (.cells hypCells 42)).heap.size = w5.heap.size + 1 by simp)
      go_upto_region 14 with fail
      change Code.wp _ _ _ _ ((w5.alloc (.cells hypCells 42)).alloc (.cells #[.slice none 0 0, .slice none 0 0, .slice (some ⟨w5.heap.size, 0, none⟩) 2 2, .int .i64 0, .slice none 0 0] 35))
      clear M M2
      have M := M3
      clear M3
      generalize (w5.alloc (.cells hypCells 42)).alloc (.cells #[.slice none 0 0, .slice none 0 0, .slice (some ⟨w5.heap.size, 0, none⟩) 2 2, .int .i64 0, .slice none 0 0] 35) = w6 at M ⊢
      rw [HSz.out] at M
      have p0 : w6.cell? ⟨w5.heap.size + 1, 0, none⟩ = some (.slice none 0 0) := (box_cell M.out (j := 0) rfl).1
      have p1 : w6.cell? ⟨w5.heap.size + 1, 1, none⟩ = some (.slice none 0 0) := (box_cell M.out (j := 1) rfl).1
      have p2 : w6.cell? ⟨w5.heap.size + 1, 2, none⟩ = some (.slice (some ⟨w5.heap.size, 0, none⟩) 2 2) := (box_cell M.out (j := 2) rfl).1
      have p3 : w6.cell? ⟨w5.heap.size + 1, 3, none⟩ = some (.int .i64 0) := (box_cell M.out (j := 3) rfl).1
      have p4 : w6.cell? ⟨w5.heap.size + 1, 4, none⟩ = some (.slice none 0 0) := (box_cell M.out (j := 4) rfl).1
      go_wp2_with fail
      have hlen : l.length = items.length := by rw [← HL.out, List.length_map]
      have hN : ∀ w', (∀ k, k < w6.heap.size → w'.heap[k]? = w6.heap[k]?) → NodesC (some ⟨g4, 0, none⟩) l w' := fun w' hw => by
        have h1 := (read_hold (M.out.pull 2 (by simp)) w' hw).nodes
        rw [HI.out, List.take_length, hil] at h1
        have e : items.map (fun q => toP (nd q)) = l.map toP := by rw [← HL.out, List.map_map]; rfl
        rw [e] at h1
        show Kd.C kP w' _ l.length (l.map toP)
        rw [hlen]
        exact h1
      have hD : ∀ w', (∀ k, k < w6.heap.size → w'.heap[k]? = w6.heap[k]?) → MandC (some ⟨w5.heap.size, 0, none⟩) [sS, othS] w' := fun w' hw => hyp_mand (read_hold (M.out.pull 1 (by simp)) w' hw)
      have hna := nodes_any (c := c5) (mc := 2) (v0 := .slice none 0 0) (v1 := .slice none 0 0) (v3 := .int .i64 0) (v4 := .slice none 0 0) M.out hN hD (by omega) HV.out (by have := HSum.out; omega) HLab.out (by omega) (by simp) (by intro s hs; simp at hs; rcases hs with rfl | rfl <;> decide)
      rw [hlen] at hna
      refine hna.mono ?_
      clear hna hN hD
      intro e w7 hout
      unfold AnsOut at hout
      have hsm := ans_small (ms := [sS, othS]) (by omega) HV.out (by have := HSum.out; omega) HLab.out
      generalize hans : ansN [sS, othS] l = ans at hout hsm
      have HAns := Aside0.mk hans
      clear hans
      obtain ⟨bs, cs, cd⟩ := ans
      obtain ⟨lv, cv, rfl, hm7⟩ := hout
      clear M p0 p1 p2 p3 p4
      have M := Aside0.mk hm7
      clear hm7
      simp only at M
      obtain ⟨A9, c9, rfl, hc9, hs9, hr9⟩ := row_src M.out.row
      obtain ⟨A10, c10, rfl, hc10, hs10, hr10⟩ := row_src (M.out.pull 1 (by simp)).row
      obtain ⟨hb4, hc4'⟩ := hsm
      simp only at hb4 hc4'
      have hr9' := Aside0.mk hr9
      have hr10' := Aside0.mk hr10
      clear hr9 hr10
      have M2 := Aside0.mk (row_nil M.out 9 1)
      clear M
      have M := M2
      clear M2
      go_upto_region 18 with (at_builtin; refine wp_many M.out rfl (.tmp 86) (.tmp 87) 22 rfl Try.underlying22 (by kernel_rfl) rfl rfl rfl (z := .string .empty) (b := 16) (news := bs.map Value.string) (by simp) hs9 hr9'.out (by intro u hu; simp at hu; obtain ⟨_, _, rfl⟩ := hu; rfl) (by omega) (by omega) ?_; intro v12 w12 hm12; clear M; have M := Aside0.mk hm12; clear hm12)
      obtain ⟨A12, c12, rfl, hc12, hs12, _⟩ := row_src M.out.row
      clear hr10' hr9'
      have hr10 := Aside0.mk (row_src' (M.out.pull 2 (by simp)).row).2
      have M2 := Aside0.mk (row_nil M.out 3 1)
      clear M
      have M := M2
      clear M2
      go_upto_region 19 with (at_builtin; refine wp_many M.out rfl (.tmp 89) (.tmp 90) 25 rfl Try.underlying25 info3 rfl rfl rfl (news := cs.map num) (by simp) hs10 hr10.out (by intro u hu; simp at hu; obtain ⟨_, _, rfl⟩ := hu; rfl) (by omega) (by omega) ?_; intro v13 w13 hm13; clear M; have M := Aside0.mk hm13; clear hm13)
      clear hr10
      obtain ⟨A13, c13, rfl, hc13, hs13, _⟩ := row_src M.out.row
      simp only [Nat.zero_add, List.nil_append] at M hc12 hs12 hc13 hs13 ⊢
      obtain ⟨T, hT⟩ : ∃ T, T = boxR (w5.heap.size + 1) 35 #[.slice none 0 0, .slice none 0 0, .slice (some ⟨w5.heap.size, 0, none⟩) 2 2, .int .i64 0, .slice none 0 0] :: readR w (fun w' => w'.heap[w5.heap.size]? = some (.cells hypCells 42 (0, 0))) :: readR w (SpareC 801 802 (some ⟨g4, 0, none⟩) its [.string ⟨#[98, 101, 104, 105, 110, 100]⟩, .slice none 0 0, .string ⟨#[116, 104, 105, 115]⟩, .slice none 0 0]) :: readR w (ItemsC A2 items) :: [] := ⟨_, rfl⟩
      have M2 : Aside0 (Sep w w13 (rowR 3 1 (.slice A13 cs.length c13) cs.length (cs.map num) :: rowR 9 1 (.slice A12 bs.length c12) bs.length (bs.map Value.string) :: rowR 9 1 (.slice A9 bs.length c9) bs.length (bs.map Value.string) :: rowR 3 1 (.slice A10 cs.length c10) cs.length (cs.map num) :: T)) := ⟨by rw [hT]; exact M.out⟩
      have HT := Aside0.mk hT
      clear hT M
      have M := M2
      clear M2
      go_wp2_with fail
      go_loopw [14] (fun v14 wr => ∃ i : Nat, i ≤ bs.length ∧ v14 = .int .i64 i ∧ Aside0 (Sep w wr (rowR 9 1 (.slice A9 bs.length c9) bs.length (mineL bs i) :: rowR 3 1 (.slice A13 cs.length c13) cs.length (cs.map num) :: rowR 9 1 (.slice A12 bs.length c12) bs.length (bs.map Value.string) :: rowR 3 1 (.slice A10 cs.length c10) cs.length (cs.map num) :: T))) (fun v14 _ => bs.length - (intOf v14).toNat)
      case atStart => exact ⟨0, by omega, rfl, ⟨M.out.pull 2 (by simp)⟩⟩
      case round =>
        clear M
        obtain ⟨i, hi, rfl, M⟩ := hrel
        by_cases hlt : i < bs.length
        · obtain ⟨g9, cp, hv9, _, hcell, hfz, _⟩ := row_some M.out.row (by omega)
          injection hv9 with hA _ _
          subst hA
          obtain ⟨s0, hs0⟩ := mineL_at hlt
          have r0 : wr.cell? ⟨g9, i, none⟩ = some (.string s0) := hcell i _ hs0
          have f0 := hfz i
          have hst := Sep.stored M.out (j := i) (u := .string mineS) hlt rfl
          rw [mineL_set hlt] at hst
          clear hcell hfz
          go_wp2_with fail
          exact ⟨⟨i + 1, by omega, by go_num, ⟨hst⟩⟩, by simp [intOf]; omega⟩
        · have hie : i = bs.length := by omega
          subst hie
          go_wp2_with fail
          go_loopw [15] (fun v15 wr => ∃ i : Nat, i ≤ cs.length ∧ v15 = .int .i64 i ∧ Aside0 (Sep w wr (rowR 3 1 (.slice A10 cs.length c10) cs.length (downL cs i) :: rowR 9 1 (.slice A9 bs.length c9) bs.length (mineL bs bs.length) :: rowR 3 1 (.slice A13 cs.length c13) cs.length (cs.map num) :: rowR 9 1 (.slice A12 bs.length c12) bs.length (bs.map Value.string) :: T))) (fun v15 _ => cs.length - (intOf v15).toNat)
          case atStart => exact ⟨0, by omega, rfl, ⟨M.out.pull 3 (by simp)⟩⟩
          case round =>
            clear M
            obtain ⟨i, hi, rfl, M⟩ := hrel
            by_cases hlt : i < cs.length
            · obtain ⟨g10, cp, hv10, _, hcell, hfz, _⟩ := row_some M.out.row (by omega)
              injection hv10 with hA _ _
              subst hA
              obtain ⟨s0, hs0⟩ := downL_at hlt
              have r0 : wr.cell? ⟨g10, i, none⟩ = some (.int .i64 s0) := hcell i _ hs0
              have f0 := hfz i
              have hst := Sep.stored M.out (j := i) (u := .int .i64 (-700 - (i : Int))) hlt rfl
              replace hst := hst
              rw [show (Value.int .i64 (-700 - (i : Int))) = num (-700 - (i : Int)) from rfl, downL_set hlt] at hst
              clear hcell hfz
              go_wp2_with fail
              exact ⟨⟨i + 1, by omega, by go_num, ⟨hst⟩⟩, by simp [intOf]; omega⟩
            · have hie : i = cs.length := by omega
              subst hie
              go_upto_region 28 with (at_builtin; refine wp_onto ((M.out.alloc (.cells gLit 9)).pull 1 (by simp)) rfl (.tmp 112) (.tmp 113) 22 rfl Try.underlying22 (z := .string .empty) (b := 16) (by kernel_rfl) rfl rfl rfl (news := gLit.toList) rfl (by decide) (lit_cells _ gLit 9) (by intro u hu; simp [gLit] at hu; rcases hu with rfl | rfl | rfl | rfl <;> rfl) (by omega) (by omega) ?_; intro gg cg w16 hcg hm16; clear M; have M := Aside0.mk hm16; clear hm16)
              go_upto_region 29 with (at_builtin; refine wp_onto ((M.out.alloc (.cells hLit 3)).pull 1 (by simp)) rfl (.tmp 115) (.tmp 116) 25 rfl Try.underlying25 info3 rfl rfl rfl (news := hLit.toList) rfl (by decide) (lit_cells _ hLit 3) (by intro u hu; simp [hLit] at hu; rcases hu with rfl | rfl | rfl | rfl <;> rfl) (by omega) (by omega) ?_; intro gh ch w17 hch hm17; clear M; have M := Aside0.mk hm17; clear hm17)
              have hm18 := M.out
              rw [HT.out] at hm18
              have M2 := Aside0.mk hm18
              clear M hm18
              have M := M2
              clear M2
              have p0 : w17.cell? ⟨w5.heap.size + 1, 0, none⟩ = some (.slice none 0 0) := (box_cell (M.out.pull 4 (by simp)) (j := 0) rfl).1
              have p1 : w17.cell? ⟨w5.heap.size + 1, 1, none⟩ = some (.slice none 0 0) := (box_cell (M.out.pull 4 (by simp)) (j := 1) rfl).1
              have p2 : w17.cell? ⟨w5.heap.size + 1, 2, none⟩ = some (.slice (some ⟨w5.heap.size, 0, none⟩) 2 2) := (box_cell (M.out.pull 4 (by simp)) (j := 2) rfl).1
              have p3 : w17.cell? ⟨w5.heap.size + 1, 3, none⟩ = some (.int .i64 0) := (box_cell (M.out.pull 4 (by simp)) (j := 3) rfl).1
              have p4 : w17.cell? ⟨w5.heap.size + 1, 4, none⟩ = some (.slice none 0 0) := (box_cell (M.out.pull 4 (by simp)) (j := 4) rfl).1
              go_wp2_with fail
              have hN : ∀ w', (∀ k, k < w17.heap.size → w'.heap[k]? = w17.heap[k]?) → NodesC (some ⟨g4, 0, none⟩) l w' := fun w' hw => by
                have h1 := (read_hold (M.out.pull 6 (by simp)) w' hw).nodes
                rw [HI.out, List.take_length, hil] at h1
                have e : items.map (fun q => toP (nd q)) = l.map toP := by rw [← HL.out, List.map_map]; rfl
                rw [e] at h1
                show Kd.C kP w' _ l.length (l.map toP)
                rw [hlen]
                exact h1
              have hD : ∀ w', (∀ k, k < w17.heap.size → w'.heap[k]? = w17.heap[k]?) → MandC (some ⟨w5.heap.size, 0, none⟩) [sS, othS] w' := fun w' hw => hyp_mand (read_hold (M.out.pull 5 (by simp)) w' hw)
              have hna := nodes_any (c := c5) (mc := 2) (v0 := .slice none 0 0) (v1 := .slice none 0 0) (v3 := .int .i64 0) (v4 := .slice none 0 0) M.out hN hD (by omega) HV.out (by have := HSum.out; omega) HLab.out (by omega) (by simp) (by intro s hs; simp at hs; rcases hs with rfl | rfl <;> decide)
              rw [hlen] at hna
              refine hna.mono ?_
              clear hna hN hD
              intro e w18 hout
              unfold AnsOut at hout
              rw [HAns.out] at hout
              obtain ⟨lv2, cv2, rfl, hm18⟩ := hout
              clear M p0 p1 p2 p3 p4
              have M := Aside0.mk hm18
              clear hm18
              simp only at M
              obtain ⟨A18, c18, rfl, hc18, hs18, _⟩ := row_src M.out.row
              obtain ⟨A19, c19, rfl, hc19, hs19, _⟩ := row_src (M.out.pull 1 (by simp)).row
              clear hs18 hs19
              go_upto_region 30 with fail
              go_cut [3, 4, 7, 8, 9, 10, 11, 12, 13, 16, 17, 18, 19, 20, 139] (fun v3 v4 v7 v8 v9 v10 v11 v12 v13 v16 v17 v18 v19 v20 v139 wx => ∃ (items : List PartM) (its : List SpM) (bs : List ByteArray) (cs : List Int) (cd : Int) (A2 A9 A10 A12 A13 A18 A19 : Option Addr) (c2 c5 c9 c10 c12 c13 c18 c19 cg ch gg gh g4 hb : Nat), v3 = .slice A2 items.length c2 ∧ v4 = .slice (some ⟨g4, 0, none⟩) (items.length + 2) c5 ∧ v7 = .slice (some ⟨g4, 0, none⟩) items.length c5 ∧ v8 = .pointer (some ⟨hb + 1, 0, none⟩) ∧ v9 = .slice A9 bs.length c9 ∧ v10 = .slice A10 cs.length c10 ∧ v11 = .int .i64 cd ∧ v12 = .slice A12 bs.length c12 ∧ v13 = .slice A13 cs.length c13 ∧ v16 = .slice (some ⟨gg, 0, none⟩) (bs.length + 4) cg ∧ v17 = .slice (some ⟨gh, 0, none⟩) (cs.length + 4) ch ∧ v18 = .slice A18 bs.length c18 ∧ v19 = .slice A19 cs.length c19 ∧ v20 = .int .i64 cd ∧ v139 = .bool false ∧ Aside0 (MidR w wx items its bs cs A2 A9 A10 A12 A13 A18 A19 c2 c5 c12 c13 c18 c19 gg gh g4 hb))
              case first =>
                go_wp2_with fail
                have hR1 := row_Cs M.out.row (by omega)
                have hR2 := row_Cs (M.out.pull 5 (by simp)).row (by omega)
                refine (Eq16.texts_calls rfl hR1.2 hR1.1 hR2.2 hR2.1 (by omega)).mono ?_
                clear hR1 hR2
                rintro e w20 ⟨rfl, hd20⟩
                have hm20 := M.out.drawn hd20
                clear M hd20
                have M := Aside0.mk hm20
                clear hm20
                go_wp2_with fail
                have hR1 := row_Ci (M.out.pull 1 (by simp)).row (by omega)
                have hR2 := row_Ci (M.out.pull 4 (by simp)).row (by omega)
                refine (Eq16.ints_calls rfl hR1.2 hR1.1 hR2.2 hR2.1 (by omega)).mono ?_
                clear hR1 hR2
                rintro e w21 ⟨rfl, hd21⟩
                have hm21 := M.out.drawn hd21
                clear M hd21
                have M := Aside0.mk hm21
                clear hm21
                go_wp2_with fail
                go_meet
                exact ⟨items, its, bs, cs, cd, A2, A9, A10, A12, A13, A18, A19, c2, c5, c9, c10, c12, c13, c18, c19, cg, ch, gg, gh, g4, w5.heap.size, rfl, rfl, rfl, rfl, rfl, rfl, rfl, rfl, rfl, rfl, rfl, rfl, rfl, rfl, rfl, ⟨⟨by rw [HI.out, List.take_length], hil, HKid.out, by omega, by omega, by omega, hb4, hc4', hs9, hs10, M.out⟩⟩⟩
              case rest =>
                obtain ⟨items, its, bs, cs, cd, A2, A9, A10, A12, A13, A18, A19, c2, c5, c9, c10, c12, c13, c18, c19, cg, ch, gg, gh, g4, hb, rfl, rfl, rfl, rfl, rfl, rfl, rfl, rfl, rfl, rfl, rfl, rfl, rfl, rfl, rfl, H⟩ := hcut
                obtain ⟨hits, hil, hkid, hl, hc2, hc5, hb4, hc4', hs9, hs10, hsep⟩ := H.out
                have HI := Aside0.mk hits
                have HKid := Aside0.mk hkid
                have M := Aside0.mk hsep
                clear hits hkid hsep H
                obtain ⟨T2, hT2⟩ : ∃ T2, T2 = readR w (BothC A10 (downL cs cs.length) gh (downL cs cs.length ++ hLit.toList)) :: readR w (BothC A9 (mineL bs bs.length) gg (mineL bs bs.length ++ gLit.toList)) :: rowR 3 1 (.slice A13 cs.length c13) cs.length (cs.map num) :: rowR 9 1 (.slice A12 bs.length c12) bs.length (bs.map Value.string) :: boxR (hb + 1) 35 #[.slice none 0 0, .slice none 0 0, .slice (some ⟨hb, 0, none⟩) 2 2, .int .i64 0, .slice none 0 0] :: readR w (fun w' => w'.heap[hb]? = some (.cells hypCells 42 (0, 0))) :: readR w (SpareC 801 802 (some ⟨g4, 0, none⟩) its [.string ⟨#[98, 101, 104, 105, 110, 100]⟩, .slice none 0 0, .string ⟨#[116, 104, 105, 115]⟩, .slice none 0 0]) :: readR w (ItemsC A2 items) :: [] := ⟨_, rfl⟩
                have M2 : Aside0 (Sep w wc (rowR 9 1 (.slice A18 bs.length c18) bs.length (bs.map Value.string) :: rowR 3 1 (.slice A19 cs.length c19) cs.length (cs.map num) :: T2)) := ⟨by rw [hT2]; exact M.out⟩
                have HT2 := Aside0.mk hT2
                clear hT2 M
                have M := M2
                clear M2
                go_wp2_with fail
                as_aux_lemma =>
                  go_loopw [21] (fun v21 wr => ∃ (i : Nat) (xs : List ByteArray), i ≤ bs.length ∧ xs.length = bs.length ∧ v21 = .int .i64 i ∧ Aside0 (Sep w wr (rowR 9 1 (.slice A18 bs.length c18) bs.length (xs.map Value.string) :: rowR 3 1 (.slice A19 cs.length c19) cs.length (cs.map num) :: T2))) (fun v21 _ => bs.length - (intOf v21).toNat)
                  case atStart => exact ⟨0, bs, by omega, rfl, rfl, M⟩
                  case round =>
                    clear M
                    obtain ⟨i, xs, hi, hxl, rfl, M⟩ := hrel
                    by_cases hlt : i < bs.length
                    · obtain ⟨g18, cp, hv18, _, hcell, hfz, _⟩ := row_some M.out.row (by omega)
                      simp only [Value.slice.injEq, true_and] at hv18
                      obtain ⟨rfl, rfl⟩ := hv18
                      have r0 : wr.cell? ⟨g18, i, none⟩ = some (.string (xs[i]'(by omega))) := hcell i _ (by rw [List.getElem?_map, List.getElem?_eq_getElem (by omega)]; rfl)
                      have f0 := hfz i
                      have hst := Sep.stored M.out (j := i) (u := .string othS) hlt rfl
                      rw [← List.map_set] at hst
                      clear hcell hfz
                      go_wp2_with fail
                      exact ⟨⟨i + 1, xs.set i othS, by omega, by simp [hxl], by go_num, ⟨hst⟩⟩, by simp [intOf]; omega⟩
                    · have hie : i = bs.length := by omega
                      subst hie
                      go_wp2_with fail
                      go_loopw [22] (fun v22 wr => ∃ (i : Nat) (ys : List Int), i ≤ cs.length ∧ ys.length = cs.length ∧ v22 = .int .i64 i ∧ Aside0 (Sep w wr (rowR 3 1 (.slice A19 cs.length c19) cs.length (ys.map num) :: T2))) (fun v22 _ => cs.length - (intOf v22).toNat)
                      case atStart => exact ⟨0, cs, by omega, rfl, rfl, ⟨M.out.tail⟩⟩
                      case round =>
                        clear M
                        obtain ⟨i, ys, hi, hyl, rfl, M⟩ := hrel
                        by_cases hlt : i < cs.length
                        · obtain ⟨g19, cp, hv19, _, hcell, hfz, _⟩ := row_some M.out.row (by omega)
                          simp only [Value.slice.injEq, true_and] at hv19
                          obtain ⟨rfl, rfl⟩ := hv19
                          have r0 : wr.cell? ⟨g19, i, none⟩ = some (.int .i64 (ys[i]'(by omega))) := hcell i _ (by rw [List.getElem?_map, List.getElem?_eq_getElem (by omega)]; rfl)
                          have f0 := hfz i
                          have hst := Sep.stored M.out (j := i) (u := num (-9)) hlt rfl
                          rw [← List.map_set] at hst
                          clear hcell hfz
                          go_wp2_with fail
                          exact ⟨⟨i + 1, ys.set i (-9), by omega, by simp [hyl], by go_num, ⟨hst⟩⟩, by simp [intOf]; omega⟩
                        · have hie : i = cs.length := by omega
                          subst hie
                          have hm22 := M.out.tail
                          rw [HT2.out] at hm22
                          clear M
                          have M := Aside0.mk hm22
                          clear hm22 HT2
                          go_wp2_with fail
                          as_aux_lemma =>
                            go_loopw [23] (fun v23 wr => ∃ i : Nat, i ≤ cs.length ∧ v23 = .int .i64 i ∧ Aside0 (Sep w wr (readR w (BothC A10 (downL cs cs.length) gh (downL cs cs.length ++ hLit.toList)) :: readR w (BothC A9 (mineL bs bs.length) gg (mineL bs bs.length ++ gLit.toList)) :: rowR 3 1 (.slice A13 cs.length c13) cs.length (cs.map num) :: rowR 9 1 (.slice A12 bs.length c12) bs.length (bs.map Value.string) :: boxR (hb + 1) 35 #[.slice none 0 0, .slice none 0 0, .slice (some ⟨hb, 0, none⟩) 2 2, .int .i64 0, .slice none 0 0] :: readR w (fun w' => w'.heap[hb]? = some (.cells hypCells 42 (0, 0))) :: readR w (SpareC 801 802 (some ⟨g4, 0, none⟩) its [.string ⟨#[98, 101, 104, 105, 110, 100]⟩, .slice none 0 0, .string ⟨#[116, 104, 105, 115]⟩, .slice none 0 0]) :: readR w (ItemsC A2 items) :: []))) (fun v23 _ => cs.length - (intOf v23).toNat)
                            case atStart => exact ⟨0, by omega, rfl, M⟩
                            case round =>
                              clear M
                              obtain ⟨i, hi, rfl, M⟩ := hrel
                              by_cases hlt : i < cs.length
                              · obtain ⟨ad10, hA10⟩ : ∃ ad, A10 = some ad := by
                                  rcases A10 with _ | ad
                                  · have := hs10 rfl
                                    omega
                                  · exact ⟨ad, rfl⟩
                                obtain ⟨r0, r1⟩ := both_get (read_at M.out) (downL_get hlt) hA10
                                subst hA10
                                replace r0 : wr.cell? (ad10.add i) = some (.int .i64 (-700 - (i : Int))) := r0
                                replace r1 : wr.cell? ⟨gh, i, none⟩ = some (.int .i64 (-700 - (i : Int))) := r1
                                go_wp2_with fail
                                exact ⟨⟨i + 1, by omega, by go_num, M⟩, by simp [intOf]; omega⟩
                              · have hie : i = cs.length := by omega
                                subst hie
                                go_wp2_with fail
                                go_loopw [24] (fun v24 wr => ∃ i : Nat, i ≤ bs.length ∧ v24 = .int .i64 i ∧ Aside0 (Sep w wr (readR w (BothC A10 (downL cs cs.length) gh (downL cs cs.length ++ hLit.toList)) :: readR w (BothC A9 (mineL bs bs.length) gg (mineL bs bs.length ++ gLit.toList)) :: rowR 3 1 (.slice A13 cs.length c13) cs.length (cs.map num) :: rowR 9 1 (.slice A12 bs.length c12) bs.length (bs.map Value.string) :: boxR (hb + 1) 35 #[.slice none 0 0, .slice none 0 0, .slice (some ⟨hb, 0, none⟩) 2 2, .int .i64 0, .slice none 0 0] :: readR w (fun w' => w'.heap[hb]? = some (.cells hypCells 42 (0, 0))) :: readR w (SpareC 801 802 (some ⟨g4, 0, none⟩) its [.string ⟨#[98, 101, 104, 105, 110, 100]⟩, .slice none 0 0, .string ⟨#[116, 104, 105, 115]⟩, .slice none 0 0]) :: readR w (ItemsC A2 items) :: []))) (fun v24 _ => bs.length - (intOf v24).toNat)
                                case atStart => exact ⟨0, by omega, rfl, M⟩
                                case round =>
                                  clear M
                                  obtain ⟨i, hi, rfl, M⟩ := hrel
                                  by_cases hlt : i < bs.length
                                  · obtain ⟨ad9, hA9⟩ : ∃ ad, A9 = some ad := by
                                      rcases A9 with _ | ad
                                      · have := hs9 rfl
                                        omega
                                      · exact ⟨ad, rfl⟩
                                    have hb9 : BothC A9 (mineL bs bs.length) gg (mineL bs bs.length ++ gLit.toList) wr := read_at (M.out.pull 1 (by simp))
                                    obtain ⟨r0, r1⟩ := both_get hb9 (mineL_get hlt) hA9
                                    clear hb9
                                    cases hA9
                                    replace r0 : wr.cell? (ad9.add i) = some (.string ⟨#[109, 105, 110, 101]⟩) := r0
                                    replace r1 : wr.cell? ⟨gg, i, none⟩ = some (.string ⟨#[109, 105, 110, 101]⟩) := r1
                                    go_wp2_with fail
                                    exact ⟨⟨i + 1, by omega, by go_num, M⟩, by simp [intOf]; omega⟩
                                  · have hie : i = bs.length := by omega
                                    subst hie
                                    go_wp2_with fail
                                    as_aux_lemma =>
                                      go_loopw [25] (fun v25 wr => ∃ i : Nat, i ≤ items.length ∧ v25 = .int .i64 i ∧ Aside0 (Sep w wr (readR w (BothC A10 (downL cs cs.length) gh (downL cs cs.length ++ hLit.toList)) :: readR w (BothC A9 (mineL bs bs.length) gg (mineL bs bs.length ++ gLit.toList)) :: rowR 3 1 (.slice A13 cs.length c13) cs.length (cs.map num) :: rowR 9 1 (.slice A12 bs.length c12) bs.length (bs.map Value.string) :: boxR (hb + 1) 35 #[.slice none 0 0, .slice none 0 0, .slice (some ⟨hb, 0, none⟩) 2 2, .int .i64 0, .slice none 0 0] :: readR w (fun w' => w'.heap[hb]? = some (.cells hypCells 42 (0, 0))) :: readR w (SpareC 801 802 (some ⟨g4, 0, none⟩) its [.string ⟨#[98, 101, 104, 105, 110, 100]⟩, .slice none 0 0, .string ⟨#[116, 104, 105, 115]⟩, .slice none 0 0]) :: readR w (ItemsC A2 items) :: []))) (fun v25 _ => items.length - (intOf v25).toNat)
                                      case atStart => exact ⟨0, by omega, rfl, M⟩
                                      case round =>
                                        clear M
                                        obtain ⟨i, hi, rfl, M⟩ := hrel
                                        by_cases hlt : i < items.length
                                        · obtain ⟨b, rfl, x0, x1, hck, hCk⟩ := (read_at (M.out.pull 7 (by simp))).cells i hlt
                                          have hkle := HKid.out items[i] (List.getElem_mem hlt)
                                          have hpi : pr (its[i]'(by omega)) = (items[i].part.label, ints items[i].part.kids) := by
                                            have h1 := congrArg (·[i]?) HI.out
                                            simp only [List.getElem?_map] at h1
                                            rw [List.getElem?_eq_getElem hlt, List.getElem?_eq_getElem (show i < its.length by omega)] at h1
                                            exact Option.some.inj h1
                                          have hspc := spare_cell (read_at (M.out.pull 6 (by simp))) (i := i) (by omega) hpi (by simp; omega)
                                          clear hpi
                                          generalize items[i] = q at x0 x1 hck hkle hCk hspc
                                          obtain ⟨b4, gk, ck, e4, y0, y1, hck2, z0, z1, hCin⟩ := hspc
                                          cases e4
                                          have hKl : (ints q.part.kids).length = q.part.kids.length := List.length_map ..
                                          rw [hKl] at y1 hck2 z0 z1 hCin
                                          have HKl := Aside0.mk hKl
                                          have HCin := Aside0.mk hCin
                                          have HCk := Aside0.mk hCk
                                          clear hKl hCin hCk
                                          replace x1 : wr.cell? ⟨b, i * 2 + 1, none⟩ = some (.slice q.A q.part.kids.length q.c) := x1
                                          replace z0 : wr.cell? ⟨gk, q.part.kids.length, none⟩ = some (.int .i64 801) := z0
                                          replace z1 : wr.cell? ⟨gk, q.part.kids.length + 1, none⟩ = some (.int .i64 802) := z1
                                          generalize q.part.kids.length = K at *
                                          generalize q.part.label = qlab at *
                                          have hKc : K ≤ ck := by omega
                                          have e1 : ((K : Int) + 2) ≤ (ck : Int) := by omega
                                          have e2 : ((K : Int) + 1) < ((K : Int) + 2) := by omega
                                          have e3 : (K : Int) < ((K : Int) + 2) := by omega
                                          go_wp2_with fail
                                          go_quiet (first | (go_at_call 15; (with_reducible refine (Eq16.ints_calls HKl.out ?side1 ?side2 ?side3 ?side4 (by omega)).mono ?_); (case side1 => repeat (first | exact HCin.out | (with_reducible refine Kd.C_alloc ?_ _) | (with_reducible refine Kd.C_drewN ?_ _) | (with_reducible refine Kd.C_drew ?_))); (case side2 => exact hKc); (case side3 => repeat (first | exact HCk.out | (with_reducible refine Kd.C_alloc ?_ _) | (with_reducible refine Kd.C_drewN ?_ _) | (with_reducible refine Kd.C_drew ?_))); (case side4 => exact hck); rintro e w' ⟨rfl, ⟨nd, rfl⟩⟩; (try first | exact ⟨rfl, _, World.drewN_drewN _ _ _⟩ | exact ⟨rfl, _, Eq.trans (World.drewN_drewN _ _ _) (congrArg (World.drewN _) (Nat.add_assoc _ _ _))⟩)))
                                          go_wp2_with fail
                                          exact ⟨⟨i + 1, by omega, by go_num, ⟨M.out.drawn ⟨_, rfl⟩⟩⟩, by simp [intOf]; omega⟩
                                        · have hie : i = items.length := by omega
                                          subst hie
                                          have hsp : SpareC 801 802 (some ⟨g4, 0, none⟩) its [.string ⟨#[98, 101, 104, 105, 110, 100]⟩, .slice none 0 0, .string ⟨#[116, 104, 105, 115]⟩, .slice none 0 0] wr := read_at (M.out.pull 6 (by simp))
                                          have y0 : wr.cell? ⟨g4, items.length * 2, none⟩ = some (.string ⟨#[98, 101, 104, 105, 110, 100]⟩) := spare_tail hsp rfl hil (i := 0) rfl
                                          have y2 : wr.cell? ⟨g4, (items.length + 1) * 2, none⟩ = some (.string ⟨#[116, 104, 105, 115]⟩) := by
                                            rw [show (items.length + 1) * 2 = items.length * 2 + 2 by omega]
                                            exact spare_tail hsp rfl hil (i := 2) rfl
                                          have p2 : wr.cell? ⟨hb + 1, 2, none⟩ = some (.slice (some ⟨hb, 0, none⟩) 2 2) := (box_cell (M.out.pull 4 (by simp)) (j := 2) rfl).1
                                          have hh : wr.heap[hb]? = some (.cells hypCells 42 (0, 0)) := read_at (M.out.pull 5 (by simp))
                                          have q0 : wr.cell? ⟨hb, 0, none⟩ = some (.string ⟨#[115]⟩) := (cell_at hh 0).1
                                          have q4 : wr.cell? ⟨hb, 4, none⟩ = some (.string ⟨#[111, 116, 104, 101, 114]⟩) := (cell_at hh 4).1
                                          have hg : BothC A9 (mineL bs bs.length) gg (mineL bs bs.length ++ gLit.toList) wr := read_at (M.out.pull 1 (by simp))
                                          have hh2 : BothC A10 (downL cs cs.length) gh (downL cs cs.length ++ hLit.toList) wr := read_at M.out
                                          have r0 : wr.cell? ⟨gg, bs.length, none⟩ = some (.string ⟨#[103]⟩) := both_more hg (mineL_len bs) (i := 0) rfl
                                          have r3 : wr.cell? ⟨gg, bs.length + 3, none⟩ = some (.string ⟨#[106]⟩) := both_more hg (mineL_len bs) (i := 3) rfl
                                          have s0 : wr.cell? ⟨gh, cs.length, none⟩ = some (.int .i64 (-1)) := both_more hh2 (downL_len cs) (i := 0) rfl
                                          have s3 : wr.cell? ⟨gh, cs.length + 3, none⟩ = some (.int .i64 (-4)) := both_more hh2 (downL_len cs) (i := 3) rfl
                                          have HB := Aside0.mk M.out.1
                                          clear hsp hh hg hh2 M
                                          go_wp2_with fail
                                          go_ret
                                          exact ⟨rfl, HB.out⟩
end Go.Proofs.Ytkonloadedbpkaa.MemW

namespace Go.Proofs.Ytkonloadedbpkaa.foldMemory
open Go.ChangeShapes Go.WideShapes Go.ChangeAt Go.RowKit Go.Deep Go.Joins
open Go.Proofs.YtkonloadedbpkaaW.PrintWords
set_option linter.unusedVariables false

/-- A struct of five one-cell fields, by value, opened. -/
theorem open_agg5 {H : Type} {enc : TypeId × Value → H} {P : Program} {w : World} {base : Nat} {spare : Nat → Bool} {held : Bool} {r : Reach} {b0 : Nat} {t : TypeId} {f0 f1 f2 f3 f4 : Field} {v : Value} {d : DataW H} {p : List MemPlace} (hs : P.underlying t = some (.struct #[f0, f1, f2, f3, f4])) (hone : oneCellFields P #[f0, f1, f2, f3, f4] = true) (hC : P.cellsOf t = 5)
    (hv : Value.okWide P w r b0 t v) (h : DataW.Trod enc P w base spare held t v d p) :
    ∃ (v0 v1 v2 v3 v4 : Value) (y0 y1 y2 y3 y4 : DataW H × List MemPlace) (n : Nat), v = .agg #[v0, v1, v2, v3, v4] ∧ d = .agg [y0.1, y1.1, y2.1, y3.1, y4.1] ∧ p = y0.2 ++ (y1.2 ++ (y2.2 ++ (y3.2 ++ y4.2))) ∧
      DataW.trod enc P w base spare held n f0.type [v0] = some y0 ∧ DataW.trod enc P w base spare held n f1.type [v1] = some y1 ∧ DataW.trod enc P w base spare held n f2.type [v2] = some y2 ∧ DataW.trod enc P w base spare held n f3.type [v3] = some y3 ∧ DataW.trod enc P w base spare held n f4.type [v4] = some y4 := by
  obtain ⟨cs, rfl, hsz⟩ := okWide_struct hs hv
  obtain ⟨l⟩ := cs
  match l, hsz.trans hC with
  | [c0, c1, c2, c3, c4], _ =>
  obtain ⟨fuel, hf⟩ := h
  obtain ⟨xs, n, _, hx, _, hlen, hg⟩ := DataW.trod_struct hs hf
  match xs, hlen with
  | [y0, y1, y2, y3, y4], _ =>
  have g0 := hg 0 f0 rfl
  have g1 := hg 1 f1 rfl
  have g2 := hg 2 f2 rfl
  have g3 := hg 3 f3 rfl
  have g4 := hg 4 f4 rfl
  obtain ⟨o0, k0⟩ := hone_of hone 0 f0 rfl
  obtain ⟨o1, k1⟩ := hone_of hone 1 f1 rfl
  obtain ⟨o2, k2⟩ := hone_of hone 2 f2 rfl
  obtain ⟨o3, k3⟩ := hone_of hone 3 f3 rfl
  obtain ⟨o4, k4⟩ := hone_of hone 4 f4 rfl
  simp only [Prod.mk.injEq] at hx
  exact ⟨c0, c1, c2, c3, c4, y0, y1, y2, y3, y4, n, rfl, by simpa using hx.1, by simpa using hx.2, by simpa [Value.cells, o0, k0] using g0, by simpa [Value.cells, o1, k1] using g1, by simpa [Value.cells, o2, k2] using g2, by simpa [Value.cells, o3, k3] using g3, by simpa [Value.cells, o4, k4] using g4⟩
theorem own : ownKnob Try.prog.godebug = none := by kernel_rfl
theorem laidOut : laidOutB Try.prog = true := by kernel_rfl
set_option maxRecDepth 100000 in
/-- What the walk gives. -/
theorem contract (H : Type) (enc : TypeId × Value → H) (W : World) (base : Nat) (args : Array Value) (ds gs : List (DataW H)) (before : List MemPlace)
    (hval : ∀ (j : Nat) t v, Try.f4.params[j]? = some t → args[j]? = some v → Value.okWide Try.prog W .any base t v)
    (hW : DataW.Whole enc Try.prog Try.f4.params.toList Rows.foldMemorySpec.vars false W args.toList ds gs before) (hk : Rows.uptoSmall H (ds ++ gs) = true) :
    Calls Try.prog 4 args W fun e W' => ∃ v, e = .returned v ∧ Rows.foldMemorySpec.post enc Try.prog Try.f4 false true false false W args v W' := by
  have hW' := hW
  obtain ⟨p, q, hA0, hV, rfl, hfz, hnd⟩ := hW
  have hA : DataW.TrodAll enc Try.prog W 0 (fun _ => true) true Try.f4.params.toList args.toList ds p := hA0
  rw [Try.params4] at hA hval
  obtain ⟨v0, vs0, d0, ds0, p0, q0, hargs, rfl, rfl, h0, r0⟩ := trodAll_cons hA
  obtain ⟨rfl, rfl, rfl⟩ := trodAll_nil r0
  obtain rfl : args = #[v0] := by cases args; simp_all
  obtain ⟨rfl, rfl⟩ := trodVars_none hV
  have k0 := h0
  have lt0 : ∀ x ∈ p0, x.block < W.heap.size := by obtain ⟨m, hm⟩ := k0; exact DataW.trod_lt m _ _ _ hm
  obtain ⟨u0, u1, u2, u3, u4, y0, y1, y2, y3, y4, n, rfl, hd, hp, t0, t1, t2, t3, t4⟩ := open_agg5 Try.underlying38 (by kernel_rfl) (by kernel_rfl) (hval 0 38 v0 rfl rfl) h0
  obtain ⟨s0, e0, _⟩ := DataW.trod_string Try.underlying9 t0
  obtain ⟨n1, e1, _⟩ := DataW.trod_int Try.underlying3 t1
  obtain ⟨a2, l2, c2, e2⟩ := slice_form Try.underlying22 t2
  obtain ⟨a3, l3, c3, e3⟩ := slice_form Try.underlying24 t3
  obtain ⟨a4, l4, c4, e4⟩ := slice_form Try.underlying22 t4
  simp only [List.cons.injEq, and_true] at e0 e1 e2 e3 e4
  subst e0 e1 e2 e3 e4
  obtain ⟨zs, rfl, hc0, hn0, hC0, hlab, hb1, hb2, hs0⟩ := NodesIn.nodes_in (d := y3.1) (ps := y3.2) (show DataW.Trod enc Try.prog W 0 (fun _ => true) true 24 (.slice a3 l3 c3) y3.1 y3.2 from ⟨n, t3⟩)
  have hbd := bulks.bound hk
  simp only [List.append_nil] at hbd
  have hm0 := bulks.part_le (H := H) (d := d0) (l := [d0]) (by simp)
  have hm1 : Rows.uptoBulk y3.1 ≤ Rows.uptoBulk d0 := by
    rw [hd]
    have := bulks.part_le (H := H) (d := y3.1) (l := [y0.1, y1.1, y2.1, y3.1, y4.1]) (by simp)
    simp only [Rows.uptoBulk]
    omega
  clear hA0
  refine (MemW.memory_calls (c := c3) hC0 hc0 (by omega) (by omega)).mono fun e W' ⟨he, bel⟩ => ?_
  subst he
  exact ⟨_, rfl, _, _, _, [], _, [], hW', trodAll_mk1 (shut_bool Try.underlying4 _), (trodAll_cons_mk (Below.trod laidOut (by kernel_rfl) (of_decide_eq_true (by kernel_rfl)) k0 bel lt0) trodAll_mk0), rfl, bel.frame _, fun h => by cases h⟩

set_option maxRecDepth 100000 in
theorem lifted (os : Os) (started : os.Started) (H : Type) (enc : TypeId × Value → H) (F : Stop.Interp) :
    ReturnsInHanded {} Try.checked os 4 .any ((Rows.OpenSpec.upto Rows.foldMemorySpec).pre6 enc Try.prog Try.f4 Rows.foldMemoryUptoRow.domain false) (((Rows.OpenSpec.upto Rows.foldMemorySpec).at F).post enc Try.prog Try.f4 false true false false) := by
  refine returnsInHanded_of_cond (C := Try.checked) (s := Rows.OpenSpec.upto Rows.foldMemorySpec) (k := Rows.uptoSmall) rfl own started (by kernel_rfl) Try.func4
    (OpenSpec.witness (enc := enc) (C := Try.checked) (s := Rows.OpenSpec.upto Rows.foldMemorySpec) (k := Rows.uptoSmall) rfl false ⟨#[], #[.agg #[.string .empty, .int .i64 0, .slice none 0 0, .slice none 0 0, .slice none 0 0]], []⟩ 8 (by kernel_rfl) (by kernel_rfl) (by kernel_rfl)
      (x := ([.agg [.lit (.string []), .lit (.int .i64 0), .nil, .nil, .nil]], [], [])) (by kernel_rfl) rfl (by kernel_rfl)) ?_
  intro W base args ds gs before hval hW _ hk _
  exact contract H enc W base args ds gs before hval hW hk

theorem over : Rows.foldMemoryUptoRow.holds Try.pinned (Rows.OpenSpec.upto Rows.foldMemorySpec) :=
  OpenClaim.holds_of_cond 4 Try.f4 rfl rfl rfl rfl rfl rfl rfl ⟨rfl, rfl, rfl, rfl, rfl⟩ rfl rfl rfl rfl rfl (by kernel_rfl) Try.func4 (by kernel_rfl)
    (of_decide_eq_true (by kernel_rfl)) (by unfold Func.isWrapper; first | (rw [if_pos (by decide +kernel)]; kernel_rfl) | (rw [if_neg (by decide +kernel)]; exact ⟨rfl, rfl⟩))
    (fun os started H enc _ F => lifted os started H enc F)

theorem proved : Rows.FoldMemoryUptoSaid := over
#print axioms proved
end Go.Proofs.Ytkonloadedbpkaa.foldMemory
