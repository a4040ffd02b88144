/- TreeShares walked. -/
import Derived.Test.YtkonloadedbpkaaSharesQ
import Derived.Test.YtkonloadedbpkaaLabX
import Derived.Test.YtkonloadedbpkaaLits
import Derived.Deep.AppendLies
import Derived.Deep.RegionHeld3
import Derived.Deep.DeepCutAuto
import Derived.Deep.DrawnRows
namespace Go.Proofs.Ytkonloadedbpkaa.SharesW
open Go.RowKit Go.Maps Go.Proofs.Ytkonloadedbpkaa.Sep Go.Proofs.Ytkonloadedbpkaa.FMaps Go.Proofs.Ytkonloadedbpkaa.FoldPure Go.Proofs.Ytkonloadedbpkaa.FoldMem Go.Proofs.Ytkonloadedbpkaa.Gather Go.Proofs.Ytkonloadedbpkaa.FoldSame Go.Proofs.Ytkonloadedbpkaa.NodeMem Go.Proofs.Ytkonloadedbpkaa.RowsOf Go.Proofs.Ytkonloadedbpkaa.NodesIn Go.Proofs.Ytkonloadedbpkaa.KindsP Go.Proofs.Ytkonloadedbpkaa.KindsW Go.Proofs.Ytkonloadedbpkaa.TreeW Go.Proofs.Ytkonloadedbpkaa.KindsS Go.Proofs.Ytkonloadedbpkaa.ShareP Go.Proofs.Ytkonloadedbpkaa.ShareR Go.Proofs.Ytkonloadedbpkaa.ShareL Go.Proofs.Ytkonloadedbpkaa.SameW Go.Proofs.Ytkonloadedbpkaa.TreeP Go.Proofs.Ytkonloadedbpkaa.LabX Go.Proofs.Ytkonloadedbpkaa.Lits Go.Proofs.Ytkonloadedbpkaa.SharesP Go.Proofs.Ytkonloadedbpkaa.SharesQ
open Go.Proofs.YtkonloadedbpkaaW.PrintWords Go.Proofs.YtkonloadedbpkaaW.PrintLast Go.Proofs.YtkonloadedbpkaaW.PrintMore
set_option linter.unusedVariables false
set_option linter.unusedSimpArgs false
set_option maxRecDepth 100000
attribute [local go_sem] max2_int min2_int max_two min_two

theorem row_stored {W w : World} {rs : List Res} {e size b c n j : Nat} {u : Value} {xs : List Value} (h : Sep W w (rowR e size (.slice (some ⟨b, 0, none⟩) n c) n xs :: rs)) :
    Sep W (w.setCell ⟨b, j, none⟩ u) (rowR e size (.slice (some ⟨b, 0, none⟩) n c) n (xs.set j u) :: rs) :=
  h.turn fun f ⟨h1, h2⟩ => ⟨⟨(h1.stored j u).1, fun k hk => .inl (h2 k hk)⟩, Turns.setCell w ⟨b, j, none⟩ u (h2 b rfl)⟩
theorem row_short {W w : World} {rs : List Res} {e size b c n k : Nat} {xs : List Value} (h : Sep W w (rowR e size (.slice (some ⟨b, 0, none⟩) n c) n xs :: rs)) (hk : k ≤ n) :
    Sep W w (rowR e size (.slice (some ⟨b, 0, none⟩) k c) k (xs.take (k * size)) :: rs) :=
  h.turn fun f ⟨h1, h2⟩ => ⟨⟨⟨by
    have := h1.1
    rw [List.length_take]
    exact Nat.min_eq_left (by rw [this]; exact Nat.mul_le_mul_right _ hk), .inr (by
    rcases h1.2 with ⟨e1, _⟩ | ⟨g', cap', cur, e1, hb, hgg, hn, hc, hsz, htk⟩
    · cases e1
    · simp only [Value.slice.injEq, Option.some.injEq, Addr.mk.injEq, and_true, true_and] at e1
      obtain ⟨rfl, rfl⟩ := e1
      exact ⟨b, c, cur, rfl, hb, hgg, by omega, hc, hsz, by rw [← htk, List.take_take, Nat.min_eq_left (Nat.mul_le_mul_right _ hk)]⟩)⟩, fun k hk => .inl (h2 k hk)⟩, Turns.refl _ _⟩
theorem nodes_last (items : List PartM) (s v : Value) : (nodeCells items ++ [s, v])[items.length * 2 + 1]? = some v := by
  have hl : (nodeCells items).length = items.length * 2 := by
    induction items with
    | nil => rfl
    | cons a l ih =>
      show (cells2 a ++ nodeCells l).length = _
      rw [List.length_append, ih, List.length_cons]
      show 2 + _ = _
      omega
  rw [List.getElem?_append_right (by omega), hl, show items.length * 2 + 1 - items.length * 2 = 1 by omega]
  rfl
theorem nodes_set (items : List PartM) (s : Value) (v v' : Value) : (nodeCells items ++ [s, v]).set (items.length * 2 + 1) v' = nodeCells items ++ [s, v'] := by
  have hl : (nodeCells items).length = items.length * 2 := by
    induction items with
    | nil => rfl
    | cons a l ih =>
      show (cells2 a ++ nodeCells l).length = _
      rw [List.length_append, ih, List.length_cons]
      show 2 + _ = _
      omega
  rw [List.set_append, if_neg (by omega), hl, show items.length * 2 + 1 - items.length * 2 = 1 by omega]
  rfl
theorem built {W w : World} {items : List PartM} {b c g n k : Nat} {m bs : List Nd} (hn : items.length = n) (hI : items.map nd = bs) (hm : m = bs ++ [(rootS, rootK n)]) (hn2 : n ≤ 200) (hS : Small m) (hk : k = min n 2)
    (h : Sep W w (rowR 27 2 (.slice (some ⟨b, 0, none⟩) (n + 1) c) (n + 1) (nodeCells items ++ [.string rootS, .slice (some ⟨g, 0, none⟩) 3 3]) :: rowR 3 1 (.slice (some ⟨g, 0, none⟩) 3 3) 3 [.int .i64 0, .int .i64 ((n / 2 : Nat) : Int), .int .i64 n] :: kidsR items :: [])) :
    m.length = n + 1 ∧ Sep W (w.setCell ⟨b, n * 2 + 1, none⟩ (.slice (some ⟨g, 0, none⟩) k 3)) (readR W (NodesC (some ⟨b, 0, none⟩) m) :: []) := by
  have hkk : (rootK n).length = k := by
    unfold rootK
    rw [List.length_take]
    simp only [List.length_cons, List.length_nil]
    omega
  have h1 := row_stored (j := n * 2 + 1) (u := .slice (some ⟨g, 0, none⟩) k 3) h
  rw [show n * 2 + 1 = items.length * 2 + 1 by omega, nodes_set] at h1
  have h2 := row_short (k := k) (h1.pull 1 (by simp)) (by omega)
  have h3 := (h2.pull 1 (by simp)).pull 2 (by simp)
  have h4 := h3.pull 1 (by simp)
  have e1 : [Value.int .i64 0, .int .i64 ((n / 2 : Nat) : Int), .int .i64 n].take (k * 1) = (rootK n).map nat := by
    unfold rootK
    rw [Nat.mul_one, hk]
    match n with
    | 0 => rfl
    | 1 => rfl
    | n + 2 =>
      have : min (n + 2) 2 = 2 := by omega
      rw [this]
      rfl
  have h5 := item_more (items := items) (q := ⟨⟨rootS, rootK n, 0⟩, 0, some ⟨g, 0, none⟩, 3⟩) (v := .slice (some ⟨b, 0, none⟩) (n + 1) c) (rs := []) (by
    simp only [PartM.kv, hkk, hn]
    rw [← e1]
    exact h4)
  have hml : m.length = n + 1 := by
    rw [hm, List.length_append, ← hI, List.length_map, hn]
    rfl
  refine ⟨hml, ?_⟩
  have hmm : (items ++ [(⟨⟨rootS, rootK n, 0⟩, 0, some ⟨g, 0, none⟩, 3⟩ : PartM)]).map nd = m := by
    rw [List.map_append, hI, hm]
    rfl
  have h6 := nodes_read (A := some ⟨b, 0, none⟩) (c := c) (items := items ++ [(⟨⟨rootS, rootK n, 0⟩, 0, some ⟨g, 0, none⟩, 3⟩ : PartM)]) (rs := []) (by
    rw [List.length_append, hn]
    rw [List.length_append, hn] at h5
    exact h5) (by rw [List.length_append, hn]; simp; omega) (fun q hq => by
      have h7 : nd q ∈ m := by rw [← hmm]; exact List.mem_map_of_mem hq
      have h8 := hS.three _ h7
      show (nd q).2.length ≤ _
      omega)
  rw [hmm] at h6
  exact h6
theorem read_both {W w : World} {C D : World → Prop} {rs : List Res} (h : Sep W w (readR W C :: readR W D :: rs)) : Sep W w (readR W (fun w' => C w' ∧ D w') :: rs) :=
  h.join fun f g hf hg w' h1 h2 => ⟨hf w' h1 fun k hk hl => h2 k (.inl hk) hl, hg w' h1 fun k hk hl => h2 k (.inr hk) hl⟩
/-- Share, its answer to be read. -/
theorem share_read {W w : World} {rs : List Res} {A : Option Addr} {c : Nat} {m : List Nd} {C : World → Prop} (hS : Small m) (hM : Sep W w (readR W C :: rs)) (hCC : ∀ w', C w' → NodesC A m w') :
    Calls Try.prog 27 #[.slice A m.length c] w fun e w' => ∃ (A' : Option Addr) (c' : Nat), e = .returned (.slice A' (shareN m).length c') ∧ (shareN m).length ≤ c' ∧ Sep W w' (readR W (fun w' => NodesC A' (shareN m) w' ∧ C w') :: rs) := by
  refine (share_calls (c := c) hM hCC hS.pos (by have := hS.few; omega) hS.valid hS.sum hS.labs).mono ?_
  rintro e w' ⟨A', c', items, rfl, hI, hc', hm⟩
  have hlen : items.length = (shareN m).length := by rw [← hI, List.length_map]
  have hs := share_small hS
  have h1 := nodes_read (c := c') hm (by have := hs.few; omega) (fun q hq => by
    have h7 : nd q ∈ shareN m := by rw [← hI]; exact List.mem_map_of_mem hq
    have h8 := hs.three _ h7
    show (nd q).2.length ≤ _
    omega)
  rw [hI] at h1
  rw [hlen] at hc' ⊢
  exact ⟨A', c', rfl, hc', read_both h1⟩
def labR (l : List Nd) : List ByteArray := if (labN l).length ≤ 2000 then labN l else []
theorem labels_read {W w : World} {rs : List Res} {A : Option Addr} {c : Nat} {m : List Nd} {C : World → Prop} (hS : Small m) (hM : Sep W w (readR W C :: rs)) (hCC : ∀ w', C w' → NodesC A m w') :
    Calls Try.prog 22 #[.slice A m.length c] w fun e w' => ∃ (A' : Option Addr) (c' : Nat), e = .returned (.tuple #[.slice A' (labR m).length c', .bool (decide ((labN m).length ≤ 2000))]) ∧ (labR m).length ≤ c' ∧ (labR m).length ≤ 2000 ∧ Sep W w' (readR W (fun w' => Kd.C Kd.string w' A' (labR m).length (labR m) ∧ C w') :: rs) := by
  refine (labels_calls (c := c) hM hCC hS.pos (by have := hS.few; omega) hS.valid hS.sum).mono ?_
  intro e w' h
  unfold LabOut at h
  unfold labR
  by_cases h2 : (labN m).length ≤ 2000
  · rw [if_pos h2] at h
    simp only [if_pos h2]
    obtain ⟨v, rfl, hm⟩ := h
    obtain ⟨A', c', rfl, hc'⟩ := row_slice hm.row
    refine ⟨A', c', by rw [decide_eq_true h2], hc', h2, join_read (fun w' => Kd.C Kd.string w' A' (labN m).length (labN m)) hm (fun w f h => (row_Cs h.1 (by omega)).2)⟩
  · rw [if_neg h2] at h
    simp only [if_neg h2]
    obtain ⟨rfl, hm⟩ := h
    refine ⟨none, 0, by rw [decide_eq_false h2]; rfl, by simp, by simp, read_weak hm (fun w' h => ⟨Kd.C_nil _ _, h⟩)⟩
/-- What is marked: the last, the kids of those behind, and the first so many kids of the one at hand. -/
def Marks (s : List Nd) (i k : Nat) (xs : List Nat) : Prop := xs[s.length - 1]? = some 1 ∧ (∀ p x, i ≤ p → s[p]? = some x → ∀ j ∈ x.2, xs[j]? = some 1) ∧ (0 < i → ∀ x, s[i - 1]? = some x → ∀ j ∈ x.2.take k, xs[j]? = some 1)
theorem marks_start {s : List Nd} (h : 0 < s.length) : Marks s s.length 0 ((List.replicate s.length 0).set (s.length - 1) 1) := by
  refine ⟨?_, fun p x hp hx => ?_, fun _ x _ j hj => by simp at hj⟩
  · rw [List.getElem?_set_self (by simp; omega)]
  · have := (List.getElem?_eq_some_iff.1 hx).1
    omega
theorem marked {s : List Nd} {i : Nat} {xs : List Nat} (hv : Valid s) (hr : AllLed s) (h : Marks s (i + 1) 0 xs) (hi : i < s.length) (hx : xs.length = s.length) : xs[i]? = some 1 := by
  by_cases e : i + 1 = s.length
  · have := h.1
    rw [show s.length - 1 = i by omega] at this
    exact this
  · obtain ⟨r, hr2, hj⟩ := hr i (by omega)
    have hlt := hv r s[r] (List.getElem?_eq_getElem hr2) i hj
    exact h.2.1 r s[r] (by omega) (List.getElem?_eq_getElem hr2) i hj
theorem marks_kid {s : List Nd} {i k : Nat} {xs : List Nat} {hlt : i < s.length} (h : Marks s (i + 1) k xs) (hk : k < s[i].2.length) (hb : s[i].2[k] < s.length) (hx : xs.length = s.length) : Marks s (i + 1) (k + 1) (xs.set s[i].2[k] 1) := by
  have keep : ∀ {j : Nat}, xs[j]? = some 1 → (xs.set s[i].2[k] 1)[j]? = some 1 := fun {j} hj => by
    by_cases e : s[i].2[k] = j
    · rw [e, List.getElem?_set_self (by rw [← e]; omega)]
    · rw [List.getElem?_set_ne e]
      exact hj
  refine ⟨keep h.1, fun p x hp hxp j hj => keep (h.2.1 p x hp hxp j hj), fun h0 x hxp j hj => ?_⟩
  have hx0 := hxp
  rw [show i + 1 - 1 = i by omega, List.getElem?_eq_getElem hlt] at hx0
  have hx1 := Option.some.inj hx0
  subst hx1
  rw [List.take_succ_eq_append_getElem hk] at hj
  rcases List.mem_append.1 hj with hj | hj
  · exact keep (h.2.2 h0 _ hxp j hj)
  · simp at hj
    subst hj
    rw [List.getElem?_set_self (by omega)]
theorem marks_next {s : List Nd} {i : Nat} {xs : List Nat} (hlt : i < s.length) (h : Marks s (i + 1) s[i].2.length xs) : Marks s i 0 xs := by
  refine ⟨h.1, fun p x hp hx j hj => ?_, fun _ x _ j hj => by simp at hj⟩
  by_cases e : p = i
  · subst e
    refine h.2.2 (by omega) x (by rw [show p + 1 - 1 = p by omega]; exact hx) j ?_
    rw [List.getElem?_eq_getElem hlt] at hx
    have := Option.some.inj hx
    rw [this, List.take_length]
    exact hj
  · exact h.2.1 p x (by omega) hx j hj
theorem ints_inj {a b : List Nat} (h : ints a = ints b) : a = b := (List.map_inj_right (fun x y e => by omega)).1 h
theorem toList_inj {s t : ByteArray} (h : s.toList = t.toList) : s = t := by
  rw [ByteArray.toList_eq, ByteArray.toList_eq] at h
  exact ByteArray.ext (Array.toList_inj.1 h)
theorem ints_nat {w : World} {A B : Option Addr} {ca cb : Nat} {a b : List Nat} (hne : ¬ a = b) (hn : a.length ≤ 9007199254740991) (hA : Kd.C (Kd.int .i64) w A a.length (ints a)) (ha : a.length ≤ ca) (hB : Kd.C (Kd.int .i64) w B b.length (ints b)) (hb : b.length ≤ cb) :
    Calls Try.prog 31 #[.slice A a.length ca, .slice B b.length cb] w fun e w' => e = .returned (.bool false) ∧ Drawn0 w w' := by
  have hl : ∀ x : List Nat, (ints x).length = x.length := fun x => List.length_map ..
  have h := ints_calls (w := w) (A := A) (B := B) (ca := ca) (cb := cb) (a := ints a) (b := ints b) (by rw [hl]; exact hA) (by rw [hl]; exact ha) (by rw [hl]; exact hB) (by rw [hl]; exact hb) (by rw [hl]; exact hn)
  rw [hl, hl] at h
  rw [decide_eq_false (fun e => hne (ints_inj e))] at h
  exact h
set_option maxHeartbeats 8000000 in
theorem shares_calls {w : World} {A : Option Addr} {c : Nat} {zs : List (ByteArray × List Int)} (hC : Kd.C kP w A zs.length zs) (hc : zs.length ≤ c) (hlab : ∀ z ∈ zs, z.1.size ≤ maxLen) :
    Calls Try.prog 6 #[.slice A zs.length c] w fun e w' => e = .returned (.bool true) ∧ Below w.heap.size w w' := by
  have hsm : Small (lawL (zs.map toS2)) := law_small _ fun x hx => by
    obtain ⟨z, hz, rfl⟩ := List.mem_map.1 hx
    exact hlab z hz
  have hbl := boundN_len (zs.map toS2)
  have HL := Aside0.mk (show lawL (zs.map toS2) = boundN (zs.map toS2) ++ [(rootS, rootK (boundN (zs.map toS2)).length)] from rfl)
  have HS := Aside0.mk hsm
  have hfew := hsm.few
  clear hlab hsm
  generalize lawL (zs.map toS2) = m at HL HS hfew
  have hbc := bounded_calls (Sep.start w) hC hc
  generalize boundN (zs.map toS2) = bs at HL hbl hbc
  clear hC
  go_enter Try.func6, Try.ntmps6
  go_wp2_with fail
  refine hbc.mono ?_
  clear hbc
  rintro e w1 ⟨items, A1, c1, rfl, hI, hc1, hm1⟩
  have hil : items.length = bs.length := by rw [← hI, List.length_map]
  have hn2 : bs.length ≤ 200 := by omega
  rw [hil] at hm1 hc1 ⊢
  have M := Aside0.mk hm1
  have HI := Aside0.mk hI
  have HN := Aside0.mk hil
  have HBS := Aside0.mk hbl
  clear hm1 hbl hI hil
  generalize hnn : bs.length = n at *
  have e3 := Aside0.mk (show ((n : Int) / 2) = ((n / 2 : Nat) : Int) by omega)
  have hrl := row_lits M.out 3 1 3 #[.int .i64 0, .int .i64 ((n / 2 : Nat) : Int), .int .i64 n] rfl (by unfold maxLen; omega)
  have hnew := box_at (box_fresh hrl 27 #[.string rootS, .slice (some ⟨w1.heap.size, 0, none⟩) 3 3])
  rw [show (w1.alloc (.cells #[.int .i64 0, .int .i64 ((n / 2 : Nat) : Int), .int .i64 n] 3)).heap.size = w1.heap.size + 1 by simp] at hnew
  have HNew := Aside0.mk hnew
  have M3 := Aside0.mk ((hrl.pull 1 (by simp)).alloc (.cells #[.string rootS, .slice (some ⟨w1.heap.size, 0, none⟩) 3 3] 27))
  clear hnew hrl
  have i0 : ((n + 1 : Nat) : Int) - 1 = (n : Int) := by omega
  have i1 : (min (n : Int) 2) = ((min n 2 : Nat) : Int) := by omega
  go_upto_region 3 with (first | rw [e3.out] | (at_builtin; refine wp_node (b := w1.heap.size + 1) (u0 := .string rootS) (u1 := .slice (some ⟨w1.heap.size, 0, none⟩) 3 3) M3.out rfl (.tmp 16) (.tmp 24) rfl rfl rfl HNew.out rfl rfl (by omega) ?_; intro A6 c6 w6 hc6 hm6; clear M M3 HNew; obtain ⟨b, cap, hv, _, hcell, hfz, _⟩ := row_some hm6.row (by omega); injection hv with hA _ _; subst hA; have r0 : w6.cell? ⟨b, n * 2 + 1, none⟩ = some (.slice (some ⟨w1.heap.size, 0, none⟩) 3 3) := hcell (n * 2 + 1) _ (by rw [← HN.out]; exact nodes_last items _ _); have f0 := hfz (n * 2 + 1); have M := Aside0.mk hm6; clear hm6 hcell hfz))
  go_cut [3] (fun v3 wx => ∃ (Ax : Option Addr) (cx : Nat), v3 = .slice Ax m.length cx ∧ m.length ≤ cx ∧ Aside0 (Sep w wx (readR w (NodesC Ax m) :: [])))
  case first =>
    go_wp2_with fail
    all_goals go_meet
    all_goals (first
      | (obtain ⟨hml, hm⟩ := built (k := n) HN.out HI.out HL.out hn2 HS.out (by omega) M.out; exact ⟨_, cap, by rw [hml], by omega, ⟨hm⟩⟩)
      | (obtain ⟨hml, hm⟩ := built (k := 2) HN.out HI.out HL.out hn2 HS.out (by omega) M.out; exact ⟨_, cap, by rw [hml], by omega, ⟨hm⟩⟩))
  case rest =>
    obtain ⟨Ax, cx, rfl, hcx, M⟩ := hcut
    have mpos := HS.out.pos
    clear HL HI HN HBS hnn hn2 e3 i0 i1
    go_wp2_with fail
    refine (share_read (c := cx) HS.out M.out (fun _ h => h)).mono ?_
    rintro e w3 ⟨A3, c3, rfl, hc3, hm3⟩
    have HS2 := Aside0.mk (share_small HS.out)
    have E1 := Aside0.mk (share_size HS.out)
    have E2 := Aside0.mk (share_depth HS.out)
    have E3 := Aside0.mk (share_labs HS.out)
    have E4 := Aside0.mk (share_same HS.out)
    have E5 := Aside0.mk (same_share HS.out)
    have E6 := Aside0.mk (share_twice HS.out.valid HS.out.pos)
    have E7 := Aside0.mk (share_led HS.out.valid HS.out.pos)
    have E8 := Aside0.mk (share_nodup HS.out.valid HS.out.pos)
    generalize shareN m = s at hc3 hm3 HS2 E1 E2 E3 E4 E5 E6 E7 E8
    clear M
    have M := Aside0.mk hm3
    clear hm3
    have sfew := HS2.out.few
    have spos := HS2.out.pos
    go_wp2_with fail
    refine (labels_read (c := cx) HS.out M.out (fun _ h => h.2)).mono ?_
    rintro e w4 ⟨A5, c5, rfl, hc5, hl5, hm4⟩
    clear M
    have M := Aside0.mk hm4
    clear hm4
    go_wp2_with fail
    have hlr := labels_read (c := c3) HS2.out M.out (fun _ h => h.2.1)
    rw [show labR s = labR m by unfold labR; rw [E3.out], show labN s = labN m from E3.out.symm] at hlr
    refine hlr.mono ?_
    clear hlr
    rintro e w5 ⟨A7, c7, rfl, hc7, _, hm5⟩
    clear M
    have M := Aside0.mk hm5
    clear hm5
    generalize labR m = ls at *
    generalize decide ((labN m).length ≤ 2000) = ok at *
    have f0 : ((s.length : Int) == 0) = false := by rw [beq_eq_false_iff_ne]; omega
    go_wp2_with fail
    refine (size_calls (c := cx) M.out (fun _ h => h.2.2.2) HS.out.pos (by omega) HS.out.valid HS.out.sum).mono ?_
    rintro e w6 ⟨rfl, hm6⟩
    clear M
    have M := Aside0.mk hm6
    clear hm6
    go_wp2_with fail
    have hz := size_calls (c := c3) M.out (fun _ h => h.2.2.1) HS2.out.pos (by omega) HS2.out.valid HS2.out.sum
    rw [← E1.out] at hz
    refine hz.mono ?_
    clear hz
    rintro e w7 ⟨rfl, hm7⟩
    clear M
    have M := Aside0.mk hm7
    clear hm7
    generalize sizeN m = sz
    unfold nat
    go_wp2_with fail
    refine (depth_calls (c := cx) M.out (fun _ h => h.2.2.2) HS.out.pos (by omega) HS.out.valid HS.out.sum).mono ?_
    rintro e w8 ⟨rfl, hm8⟩
    clear M
    have M := Aside0.mk hm8
    clear hm8
    go_wp2_with fail
    have hz := depth_calls (c := c3) M.out (fun _ h => h.2.2.1) HS2.out.pos (by omega) HS2.out.valid HS2.out.sum
    rw [← E2.out] at hz
    refine hz.mono ?_
    clear hz
    rintro e w9 ⟨rfl, hm9⟩
    clear M
    have M := Aside0.mk hm9
    clear hm9
    generalize depthN m = dpt
    unfold nat
    go_wp2_with fail
    have hcc := read_at M.out
    refine (texts_calls hcc.2.1 hc5 hcc.1 hc7 (by omega)).mono ?_
    clear hcc
    rintro e w10 ⟨rfl, hd10⟩
    have hm10 := M.out.drawn hd10
    clear M
    have M := Aside0.mk hm10
    clear hm10 hd10
    go_wp2_with fail
    refine (same_calls (ca := cx) (cb := c3) M.out (fun _ h => h.2.2.2) (fun _ h => h.2.2.1) HS.out.pos (by omega) HS.out.valid HS.out.sum HS.out.labs HS2.out.pos (by omega) HS2.out.valid HS2.out.sum HS2.out.labs).mono ?_
    rintro e w11 ⟨rfl, hm11⟩
    clear M
    have M := Aside0.mk hm11
    clear hm11
    rw [decide_eq_true E4.out]
    go_wp2_with fail
    refine (same_calls (ca := c3) (cb := cx) M.out (fun _ h => h.2.2.1) (fun _ h => h.2.2.2) HS2.out.pos (by omega) HS2.out.valid HS2.out.sum HS2.out.labs HS.out.pos (by omega) HS.out.valid HS.out.sum HS.out.labs).mono ?_
    rintro e w12 ⟨rfl, hm12⟩
    clear M
    have M := Aside0.mk (read_weak hm12 (C' := fun w' => NodesC A3 s w') (fun _ h => h.2.2.1))
    clear hm12
    rw [decide_eq_true E5.out]
    have i0 : ((s.length : Int) - 1) = ((s.length - 1 : Nat) : Int) := by omega
    go_upto_region 10 with (at_make; refine wp_make M.out rfl _ _ 25 3 rfl Try.underlying25 info3 rfl rfl rfl (by omega) (by omega) ?_; intro w13 hm13; clear M; have M := Aside0.mk hm13; clear hm13)
    have n9 : s.length - 1 < s.length := by omega
    have r9 : w13.cell? ⟨w12.heap.size, s.length - 1, none⟩ = some (.int .i64 0) := row_cell M.out (by rw [List.getElem?_replicate, if_pos n9])
    have hnf := row_free M.out spos (s.length - 1)
    have hst := Sep.stored M.out (j := s.length - 1) (u := nat 1) n9 rfl
    clear M
    have M := Aside0.mk hst
    clear hst
    go_wp2_with fail
    clear r9 hnf n9 i0
    go_loopw [10] (fun v10 wr => ∃ (i : Nat) (xs : List Nat), i ≤ s.length ∧ xs.length = s.length ∧ v10 = .int .i64 ((i : Int) - 1) ∧ Aside0 (Marks s i 0 xs) ∧ Aside0 (Sep w wr (rowR 3 1 (.slice (some ⟨w12.heap.size, 0, none⟩) s.length s.length) s.length (xs.map nat) :: readR w (NodesC A3 s) :: []))) (fun v10 _ => (intOf v10 + 1).toNat)
    case atStart => exact ⟨s.length, (List.replicate s.length 0).set (s.length - 1) 1, Nat.le_refl _, by simp, by go_num, ⟨marks_start spos⟩, ⟨by rw [map_set, List.map_replicate]; exact M.out⟩⟩
    case round =>
      clear M
      obtain ⟨i, xs, hi, hxl, rfl, HM, M⟩ := hrel
      rcases i with _ | i
      · have e0 : (((0 : Nat) : Int) - 1) = -1 := rfl
        rw [e0]
        go_wp2_with fail
        have hsr := share_read (c := c3) HS2.out M.out.tail (fun _ h => h)
        rw [E6.out] at hsr
        refine hsr.mono ?_
        clear hsr
        rintro e w14 ⟨A9, c9, rfl, hc9, hm14⟩
        clear M
        have hcc := read_at hm14
        have HB := Aside0.mk hm14.1
        have HNS := Aside0.mk (nodes_same (ca := c9) (cb := c3) HS2.out hcc.1 hc9 hcc.2 hc3)
        clear hm14 hcc
        go_wp2_with fail
        refine HNS.out.mono ?_
        rintro e w15 ⟨rfl, hd15⟩
        have HB2 := Aside0.mk (HB.out.trans ((hd15.below).mono HB.out.size))
        clear hd15
        go_wp2_with fail
        go_ret
        exact ⟨rfl, HB2.out⟩
      · have e0 : (((i + 1 : Nat) : Int) - 1) = (i : Int) := by omega
        rw [e0]
        clear e0
        have hlt : i < s.length := by omega
        have hx1 : xs[i]? = some 1 := marked HS2.out.valid E7.out HM.out hlt hxl
        have r0 : wr.cell? ⟨w12.heap.size, i, none⟩ = some (.int .i64 1) := row_cell M.out (by rw [List.getElem?_map, hx1]; rfl)
        go_wp2_with fail
        go_loopw [11] (fun v11 wq => ∃ (k : Nat) (xs : List Nat), k ≤ s[i].2.length ∧ xs.length = s.length ∧ v11 = .int .i64 k ∧ Aside0 (Marks s (i + 1) k xs) ∧ Aside0 (Sep w wq (rowR 3 1 (.slice (some ⟨w12.heap.size, 0, none⟩) s.length s.length) s.length (xs.map nat) :: readR w (NodesC A3 s) :: []))) (fun v11 _ => s[i].2.length - (intOf v11).toNat)
        case atStart => exact ⟨0, xs, by omega, hxl, rfl, HM, M⟩
        case round =>
          clear M r0 hx1 HM hxl xs
          obtain ⟨k, xs, hk, hxl, rfl, HM, M⟩ := hrel
          obtain ⟨ad, Ak, ck, rfl, x0, x1, hck, hCk⟩ := node_at (read_at (M.out.pull 1 (by simp))) hlt
          have hkle := HS2.out.three s[i] (List.getElem_mem hlt)
          by_cases hkl : k < s[i].2.length
          · obtain ⟨ak, rfl, hk0⟩ := kid_at hCk rfl hkl
            have hki := HS2.out.valid i s[i] (List.getElem?_eq_getElem hlt) _ (List.getElem_mem hkl)
            have hstep := Aside0.mk (marks_kid HM.out hkl (by omega) hxl)
            generalize s[i].2[k] = kid at hk0 hki hstep
            have hkm : kid < s.length := by omega
            obtain ⟨old, hold⟩ : ∃ old, xs[kid]? = some old := ⟨xs[kid]'(by omega), List.getElem?_eq_getElem _⟩
            have r0 : wr.cell? ⟨w12.heap.size, kid, none⟩ = some (nat old) := row_cell M.out (by rw [List.getElem?_map, hold]; rfl)
            have hnf := row_free M.out spos kid
            replace hk0 : wr.cell? (ak.add k) = some (.int .i64 (kid : Int)) := hk0
            have hst := Sep.stored M.out (j := kid) (u := nat 1) hkm rfl
            have b1 : decide ((kid : Int) < 0) = false := decide_eq_false (by omega)
            have b2 : decide ((i : Int) ≤ (kid : Int)) = false := decide_eq_false (by omega)
            go_wp2_with fail
            go_roundw
            case rel => exact ⟨k + 1, xs.set kid 1, by omega, by simp [hxl], by go_num, hstep, ⟨by rw [map_set]; exact hst⟩⟩
            case measure => simp [intOf]; omega
          · have hke : k = s[i].2.length := by omega
            subst hke
            have HM2 := Aside0.mk (marks_next hlt HM.out)
            clear HM
            go_wp2_with fail
            go_loopw [13] (fun v13 wq => ∃ (k : Nat), k ≤ i ∧ v13 = .int .i64 k ∧ Aside0 (Sep w wq (rowR 3 1 (.slice (some ⟨w12.heap.size, 0, none⟩) s.length s.length) s.length (xs.map nat) :: readR w (NodesC (some ad) s) :: []))) (fun v13 _ => i - (intOf v13).toNat)
            case atStart => exact ⟨0, by omega, rfl, M⟩
            case round =>
              clear M x0 x1 hck hCk
              obtain ⟨k, hk, rfl, M⟩ := hrel
              by_cases hkl : k < i
              · obtain ⟨ad2, Ai, ci, e2, x0, x1, hci, hCi⟩ := node_at (read_at (M.out.pull 1 (by simp))) hlt
                cases e2
                obtain ⟨ad3, Aj, cj, e3, y0, y1, hcj, hCj⟩ := node_at (read_at (M.out.pull 1 (by simp))) (show k < s.length by omega)
                cases e3
                have hne : s[k]'(by omega) ≠ s[i] := fun e => by
                  have := (List.getElem_inj E8.out).1 e
                  omega
                have hki := Aside0.mk (show ¬ (s[k]'(by omega)).2 = s[i].2 ∨ ¬ (s[k]'(by omega)).1 = s[i].1 from Classical.byContradiction fun h => hne (Prod.ext (Classical.byContradiction fun h1 => h (.inr h1)) (Classical.byContradiction fun h1 => h (.inl h1))))
                have ha3 := HS2.out.three s[i] (List.getElem_mem hlt)
                have hb3 := HS2.out.three (s[k]'(by omega)) (List.getElem_mem _)
                clear hne
                generalize s[k]'(by omega) = b1 at y0 y1 hcj hCj hki hb3
                have HCi := Aside0.mk hCi
                have HCj := Aside0.mk hCj
                have hci' := Aside0.mk hci
                have hcj' := Aside0.mk hcj
                clear hCi hCj hci hcj
                by_cases hl : b1.1 = s[i].1
                · have hkne : ¬ b1.2 = s[i].2 := hki.out.resolve_right (fun h => h hl)
                  have e1 : (b1.1.toList == s[i].1.toList) = true := by rw [hl]; exact beq_self_eq_true _
                  go_wp2_with fail
                  go_quiet (first | (go_at_call 31; (with_reducible refine (ints_nat hkne (by omega) ?side1 ?side2 ?side3 ?side4).mono ?_); (case side1 => repeat (first | exact HCj.out | (with_reducible refine Kd.C_alloc ?_ _) | (with_reducible refine Kd.C_drewN ?_ _) | (with_reducible refine Kd.C_drew ?_))); (case side2 => exact hcj'.out); (case side3 => repeat (first | exact HCi.out | (with_reducible refine Kd.C_alloc ?_ _) | (with_reducible refine Kd.C_drewN ?_ _) | (with_reducible refine Kd.C_drew ?_))); (case side4 => exact hci'.out); rintro e w' ⟨rfl, ⟨nd, rfl⟩⟩; (try first | exact ⟨rfl, _, World.drewN_drewN _ _ _⟩ | exact ⟨rfl, _, Eq.trans (World.drewN_drewN _ _ _) (congrArg (World.drewN _) (Nat.add_assoc _ _ _))⟩)))
                  go_wp2_with fail
                  go_roundw
                  case rel => exact ⟨k + 1, by omega, by go_num, ⟨M.out.drawn ⟨_, rfl⟩⟩⟩
                  case measure => simp [intOf]; omega
                · have e1 : (b1.1.toList == s[i].1.toList) = false := by rw [beq_eq_false_iff_ne]; exact fun h => hl (toList_inj h)
                  go_wp2_with fail
                  go_quiet (fail)
                  go_wp2_with fail
                  go_roundw
                  case rel => exact ⟨k + 1, by omega, by go_num, ⟨M.out.drawn ⟨_, rfl⟩⟩⟩
                  case measure => simp [intOf]; omega
              · have hke : k = i := by omega
                subst hke
                go_wp2_with fail
                exact ⟨⟨k, xs, by omega, hxl, rfl, HM2, M⟩, by simp [intOf]⟩
end Go.Proofs.Ytkonloadedbpkaa.SharesW
