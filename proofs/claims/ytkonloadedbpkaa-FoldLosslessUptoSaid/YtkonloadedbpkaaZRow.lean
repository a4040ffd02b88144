/- For every list of nodes, of at most 1048576 values and letters together: what Nodes writes, written out, is the unfolded derivation, with mandatory hypotheses or none (FoldLossless answers true, its arguments as they were). -/
import Derived.Test.YtkonloadedbpkaaZ11
import Derived.Test.YtkonloadedbpkaaZ10
import Derived.Test.YtkonloadedbpkaaZ12
import Derived.Test.YtkonloadedbpkaaZ13
import Derived.Deep.DrawnRows
import Derived.Deep.RegionHeld3
import Derived.Deep.DeepCutAuto
import Derived.Test.YtkonloadedbpkaaRows
import Derived.Test.YtkonloadedbpkaaZ9
import Derived.WalkKit
import Derived.ProofKit
import Derived.OpenShut
import Derived.JoinedCond
import Derived.ChangeOld
import Derived.Carry
import Derived.SliceStrings
namespace Go.Proofs.Ytkonloadedbpkaa.LossW
open Go.RowKit Go.Maps Go.Proofs.Ytkonloadedbpkaa.PFoldLossless Go.Proofs.Ytkonloadedbpkaa.Sep Go.Proofs.Ytkonloadedbpkaa.FMaps Go.Proofs.Ytkonloadedbpkaa.FoldPure Go.Proofs.Ytkonloadedbpkaa.FoldMem Go.Proofs.Ytkonloadedbpkaa.Gather Go.Proofs.Ytkonloadedbpkaa.FoldRun Go.Proofs.Ytkonloadedbpkaa.NodesPure Go.Proofs.Ytkonloadedbpkaa.NodesMem Go.Proofs.Ytkonloadedbpkaa.NodesW Go.Proofs.Ytkonloadedbpkaa.FoldCount Go.Proofs.Ytkonloadedbpkaa.FoldSame Go.Proofs.Ytkonloadedbpkaa.NodeMem Go.Proofs.Ytkonloadedbpkaa.ShareP Go.Proofs.Ytkonloadedbpkaa.ShareR Go.Proofs.Ytkonloadedbpkaa.ShareL Go.Proofs.Ytkonloadedbpkaa.NamedP Go.Proofs.Ytkonloadedbpkaa.EmptyW Go.Proofs.Ytkonloadedbpkaa.LeastP Go.Proofs.Ytkonloadedbpkaa.AliveW Go.Proofs.Ytkonloadedbpkaa.Lits Go.Proofs.Ytkonloadedbpkaa.Spare Go.Proofs.Ytkonloadedbpkaa.Kept Go.Proofs.Ytkonloadedbpkaa.CutW Go.Proofs.Ytkonloadedbpkaa.FoldBis Go.Proofs.Ytkonloadedbpkaa.SpreadP Go.Proofs.Ytkonloadedbpkaa.SpreadW Go.Proofs.Ytkonloadedbpkaa.CopyW Go.Proofs.Ytkonloadedbpkaa.Arit Go.Proofs.Ytkonloadedbpkaa.TreeP Go.Proofs.Ytkonloadedbpkaa.LabX
open Go.Proofs.YtkonloadedbpkaaW.PrintWords Go.Proofs.YtkonloadedbpkaaW.PrintLast Go.Proofs.YtkonloadedbpkaaW.PrintMore
set_option linter.unusedVariables false
set_option linter.unusedSimpArgs false
set_option maxRecDepth 100000

/-! ### plain -/
def zzS : ByteArray := ⟨#[122, 122]⟩
def msOf (m : Bool) : List ByteArray := if m then [sS, zzS] else []
theorem labI_one {b : ByteArray} (hb : b = sS ∨ b = tS) (n : Nat) : (labI b n).size = n + 1 := by
  rw [labI_size]
  rcases hb with rfl | rfl <;> (show 1 + n = n + 1; omega)
theorem labI_ne {b : ByteArray} (hb : b = sS ∨ b = tS) (n : Nat) : labI b n ≠ zzS := by
  intro h
  have h1 := congrArg ByteArray.size h
  rw [labI_one hb] at h1
  have h2 : n = 1 := by
    have : zzS.size = 2 := rfl
    omega
  subst h2
  rcases hb with rfl | rfl <;> revert h <;> decide
theorem named_size {l : List S27} {x : Nd} (h : x ∈ namedL l) : x.1.size = x.2.length + 1 ∧ x.1 ≠ zzS := by
  obtain ⟨b, hb, e⟩ := named_lab l x h
  rw [e]
  exact ⟨labI_one hb _, labI_ne hb _⟩
theorem lab_from {l : List Nd} (hv : Valid l) : ∀ (k i : Nat), i < k → i < l.length → ∀ s ∈ labF l i, ∃ y ∈ l, y.1 = s := by
  intro k
  induction k with
  | zero => intro i h; omega
  | succ k ih =>
    intro i hk hi s hs
    rw [labF_at hv hi] at hs
    rcases List.mem_append.1 hs with hs | hs
    · obtain ⟨L, hL, hs2⟩ := List.mem_flatten.1 hs
      obtain ⟨j, hj, rfl⟩ := List.mem_map.1 hL
      have := hv i l[i] (List.getElem?_eq_getElem hi) j hj
      exact ih j (by omega) (by omega) s hs2
    · exact ⟨l[i], List.getElem_mem hi, (List.mem_singleton.1 hs).symm⟩
def arOf (m : Bool) (ns : List ByteArray) : List Nat := if m then (arL ns).set 1 0 else arL ns
theorem ar_at {m : Bool} {bs : List ByteArray} {s : ByteArray} {k j : Nat} (hs : s.size = k + 1) (hz : s ≠ zzS) (h : ix (msOf m ++ bs) s = some j) : (arOf m (msOf m ++ bs)).getD j 0 = k := by
  have h1 := ix_some h
  have e : (arL (msOf m ++ bs)).getD j 0 = k := by
    unfold arL
    rw [List.getD_eq_getElem?_getD, List.getElem?_map, h1]
    show s.size - 1 = k
    omega
  unfold arOf
  cases m with
  | false => exact e
  | true =>
    have hj : j ≠ 1 := by
      rintro rfl
      have : zzS = s := by simpa [msOf] using h1
      exact hz this.symm
    rw [if_pos rfl, List.getD_eq_getElem?_getD, List.getElem?_set_ne (Ne.symm hj), ← List.getD_eq_getElem?_getD]
    exact e
theorem ans_cases {ms : List ByteArray} {l : List Nd} (h0 : 0 < l.length) : (ansN ms l).2.2 = 104 ∨ ansN ms l = ((namesL ms l).labels, (codesL ms l).codes, 0) := by
  unfold ansN
  rw [if_neg (by omega)]
  split
  · exact .inl rfl
  · exact .inr rfl
theorem ans_alike {a b : List Nd} {R : Nat → Nat → Prop} (ms : List ByteArray) (hB : ShareR.Bis a b R) (hv : Valid a) (hw : Valid b) (h0 : 0 < a.length) (h1 : 0 < b.length) (hr : R (a.length - 1) (b.length - 1)) : ansN ms a = ansN ms b := by
  obtain ⟨e1, e2⟩ := fold_alike ms hB hv hw h0 h1 hr
  have ha : ¬ a.length = 0 := by omega
  have hb : ¬ b.length = 0 := by omega
  unfold ansN
  simp only [if_neg ha, if_neg hb, e1, e2]
theorem nm_mem {s : ByteArray} : ∀ (L ns : List ByteArray), s ∈ L.foldl nmStep ns → s ∈ ns ∨ s ∈ L
  | [], ns, h => .inl h
  | x :: L, ns, h => by
    rcases nm_mem L _ h with h | h
    · unfold nmStep at h
      split at h
      · exact .inl h
      · rcases List.mem_append.1 h with h | h
        · exact .inl h
        · exact .inr (by simp [List.mem_singleton.1 h])
    · exact .inr (List.mem_cons_of_mem _ h)
structure LF (m : Bool) (l : List Nd) (labs bs : List ByteArray) (cs : List Int) : Prop where
  share : ansN (msOf m) (shareN l) = (bs, cs, 0)
  names : labs.foldl nmStep (msOf m) = msOf m ++ bs
  spread : labs.length ≤ 2000 → ∃ sv, spRun (msOf m ++ bs) (arOf m (msOf m ++ bs)) 2000 cs ([], []) = some ([labs], sv)
  copy : ∃ cpy op, cpRun labs ([], []) = some (cpy, op) ∧ 0 < cpy.length ∧ cpy.length = labs.length ∧ Valid cpy ∧ (cpy.map (·.2.length)).sum ≤ cpy.length ∧ (∀ x ∈ cpy, x.1.size ≤ maxLen) ∧ ansN (msOf m) cpy = (bs, cs, 0)
  sizes : ∀ s ∈ msOf m ++ bs, 1 ≤ s.size ∧ s.size ≤ maxLen
  pos : 0 < labs.length
  posn : 0 < (msOf m ++ bs).length
  few : bs.length ≤ 4194304
  codes : cs.length ≤ 4000
theorem ms_size {m : Bool} {s : ByteArray} (h : s ∈ msOf m) : 1 ≤ s.size ∧ s.size ≤ maxLen := by
  cases m with
  | false => simp [msOf] at h
  | true =>
    simp [msOf] at h
    rcases h with rfl | rfl <;> decide
theorem ms_len (m : Bool) : (msOf m).length ≤ 2 := by cases m <;> simp [msOf]
theorem loss_facts {m : Bool} {l : List Nd} (hv : Valid l) (h0 : 0 < l.length) (hl : l.length ≤ 1048576) (he : (l.map (·.2.length)).sum ≤ 1048576) (hlab : ∀ x ∈ l, x.1.size ≤ maxLen) (hsz : ∀ x ∈ l, x.1.size = x.2.length + 1 ∧ x.1 ≠ zzS) (hok : ansN (msOf m) l = ((namesL (msOf m) l).labels, (codesL (msOf m) l).codes, 0)) :
    LF m l (labN l) (namesL (msOf m) l).labels (codesL (msOf m) l).codes := by
  obtain ⟨_, hnm, hin⟩ := names_law (msOf m) hv h0
  have hsm := ans_small (ms := msOf m) (l := l) (by omega) hv (by omega) hlab
  rw [hok] at hsm
  have hlz : ∀ s ∈ labN l, 1 ≤ s.size ∧ s.size ≤ maxLen := fun s hs => by
    obtain ⟨y, hy, rfl⟩ := lab_from hv l.length (l.length - 1) (by omega) (by omega) s hs
    exact ⟨by have := (hsz y hy).1; omega, hlab y hy⟩
  refine ⟨?_, hnm, fun h2 => spread_law hv h0 h2 (fun x hx j hj => ar_at (hsz x hx).1 (hsz x hx).2 hj), ?_, fun s hs => ?_, labN_pos hv h0, List.length_pos_of_mem (hin _ (List.getElem_mem (labN_pos hv h0))), hsm.1, hsm.2⟩
  · rw [← ans_alike (msOf m) (came_bis hv h0) hv (share_valid hv h0) h0 (share_pos hv h0) (came_last hv h0)]
    exact hok
  · obtain ⟨cpy, h1, h2, h3, h4, h5, R, hB, hR⟩ := copies_law hv h0 (fun x hx => (hsz x hx).1)
    refine ⟨cpy, _, h1, h2, by rw [← h4, List.length_map], h3, h5, fun x hx => ?_, ?_⟩
    · exact (hlz x.1 (by rw [← h4]; exact List.mem_map_of_mem hx)).2
    · rw [← ans_alike (msOf m) hB hv h3 h0 h2 hR]
      exact hok
  · rw [← hnm] at hs
    rcases nm_mem _ _ hs with hs | hs
    · exact ms_size hs
    · exact hlz s hs
def zeroHyp : Array Value := #[.string sS, .bool false, .int .i64 0, .slice none 0 0, .string zzS, .bool false, .int .i64 0, .slice none 0 0]
theorem build42z (s : ByteArray) (w : World) : (Instr.build 42 #[(0, .string s)]).run Try.prog w = .ok (.agg #[.string s, .bool false, .int .i64 0, .slice none 0 0]) w := by kernel_rfl
theorem zero_mand {b : Nat} {w : World} (h : w.heap[b]? = some (.cells zeroHyp 42 (0, 0))) : MandC (some ⟨b, 0, none⟩) (msOf true) w := by
  intro i hi
  have h4 := fun j => (cell_at h j).1
  match i, hi with
  | 0, _ =>
    refine ⟨⟨b, 0, none⟩, false, 0, none, 0, 0, rfl, ?_, ?_, ?_, ?_⟩
    all_goals
      rw [Nat.zero_mul, add0]
      exact h4 _
  | 1, _ =>
    refine ⟨⟨b, 0, none⟩, false, 0, none, 0, 0, rfl, ?_, ?_, ?_, ?_⟩
    all_goals
      rw [Nat.one_mul, add0]
      exact h4 _
theorem zero_told {W w : World} {rs : List Res} {b : Nat} (h : Sep W w (boxR b 42 zeroHyp :: rs)) : Sep W w (readR W (MandC (some ⟨b, 0, none⟩) (msOf true)) :: rs) := by
  refine h.told fun f hf w' _ hw => ?_
  exact zero_mand ((hw b hf.2 (Array.getElem?_eq_some_iff.1 hf.1).1).trans hf.1)
theorem box5 {W w : World} {rs : List Res} {B : Nat} {v0 v1 v2 v3 v4 : Value} (h : Sep W w (boxR B 35 #[v0, v1, v2, v3, v4] :: rs)) : w.cell? ⟨B, 0, none⟩ = some v0 ∧ w.cell? ⟨B, 1, none⟩ = some v1 ∧ w.cell? ⟨B, 2, none⟩ = some v2 ∧ w.cell? ⟨B, 3, none⟩ = some v3 ∧ w.cell? ⟨B, 4, none⟩ = some v4 :=
  ⟨(box_cell h (j := 0) rfl).1, (box_cell h (j := 1) rfl).1, (box_cell h (j := 2) rfl).1, (box_cell h (j := 3) rfl).1, (box_cell h (j := 4) rfl).1⟩
theorem share_rd {W w : World} {rs : List Res} {A : Option Addr} {c : Nat} {l : List Nd} {C : World → Prop} (hM : Sep W w (readR W C :: rs)) (hCC : ∀ w', C w' → NodesC A l w') (h0 : 0 < l.length) (hl : l.length ≤ 1048576) (hv : Valid l) (he : (l.map (·.2.length)).sum ≤ 1048576) (hlab : ∀ x ∈ l, x.1.size ≤ maxLen) :
    Calls Try.prog 27 #[.slice A l.length c] w fun e w' => ∃ (A' : Option Addr) (c' : Nat), e = .returned (.slice A' (shareN l).length c') ∧ (shareN l).length ≤ c' ∧ Sep W w' (readR W (NodesC A' (shareN l)) :: readR W C :: rs) := by
  refine (share_calls (c := c) hM hCC h0 (by omega) hv (by omega) hlab).mono ?_
  rintro e w' ⟨A', c', items, rfl, hI, hc', hm⟩
  have hle := share_le hv h0
  have hss := share_sum hv h0
  have hlen : items.length = (shareN l).length := by rw [← hI, List.length_map]
  have h1 := nodes_read (c := c') hm (by omega) (fun q hq => by
    have h7 : nd q ∈ shareN l := by rw [← hI]; exact List.mem_map_of_mem hq
    have h8 := mem_le_sum (List.mem_map_of_mem (f := fun x : Nd => x.2.length) h7)
    show (nd q).2.length ≤ _
    omega)
  rw [hI] at h1
  rw [hlen] at hc' ⊢
  exact ⟨A', c', rfl, hc', h1⟩
theorem share_labs' {l : List Nd} (hv : Valid l) (h0 : 0 < l.length) (hlab : ∀ x ∈ l, x.1.size ≤ maxLen) : ∀ x ∈ shareN l, x.1.size ≤ maxLen := by
  intro x hx
  obtain ⟨p, hpl, rfl⟩ := List.mem_iff_getElem.1 hx
  obtain ⟨i, hi⟩ := came_from hv h0 hpl
  obtain ⟨hil, _, e, _⟩ := came_bis hv h0 i p hi
  rw [← e]
  exact hlab _ (List.getElem_mem hil)
theorem copies_rd {W w : World} {rs : List Res} {A0 : Option Addr} {c0 : Nat} {labs : List ByteArray} {out : List Nd} {op : List Nat} (M : Sep W w rs)
    (hC : ∀ w' : World, (∀ k, k < w.heap.size → w'.heap[k]? = w.heap[k]?) → Kd.C Kd.string w' A0 labs.length labs) (hl : labs.length ≤ 4194304) (hrun : cpRun labs ([], []) = some (out, op)) (ho : out.length ≤ 1048576) (hs : (out.map (·.2.length)).sum ≤ 1048576) :
    Calls Try.prog 34 #[.slice A0 labs.length c0] w fun e w' => ∃ A c, e = .returned (.slice A out.length c) ∧ out.length ≤ c ∧ Sep W w' (readR W (NodesC A out) :: rs) := by
  refine (copies_calls M hC hl hrun).mono ?_
  rintro e w' ⟨items, A, c, rfl, hI, hc, hm⟩
  have hlen : items.length = out.length := by rw [← hI, List.length_map]
  have h1 := nodes_read (c := c) hm (by omega) (fun q hq => by
    have h7 : nd q ∈ out := by rw [← hI]; exact List.mem_map_of_mem hq
    have h8 := mem_le_sum (List.mem_map_of_mem (f := fun x : Nd => x.2.length) h7)
    show (nd q).2.length ≤ _
    omega)
  rw [hI] at h1
  rw [hlen] at hc ⊢
  exact ⟨A, c, rfl, hc, h1⟩
theorem ix_mem {l : List ByteArray} {s : ByteArray} : (ix l s).isSome = true ↔ s ∈ l := by
  cases h : ix l s with
  | none => simp [ix_none.1 h]
  | some j => simp [List.mem_of_getElem? (ix_some h)]
theorem ix_take {l : List ByteArray} {s : ByteArray} {k : Nat} (hk : k < l.length) : ((ix (l.take k) s).isSome = true → (ix (l.take (k + 1)) s).isSome = true) ∧ (l[k] = s → (ix (l.take (k + 1)) s).isSome = true) ∧ ((ix (l.take k) s).isSome = false → l[k] ≠ s → (ix (l.take (k + 1)) s).isSome = false) := by
  rw [List.take_succ_eq_append_getElem hk]
  refine ⟨fun h => ix_mem.2 (List.mem_append_left _ (ix_mem.1 h)), fun h => ix_mem.2 (by simp [h]), fun h h2 => ?_⟩
  rw [← Bool.not_eq_true, ix_mem] at h ⊢
  intro h3
  rcases List.mem_append.1 h3 with h3 | h3
  · exact h h3
  · exact h2 (List.mem_singleton.1 h3).symm
theorem Cs_tail {w : World} {g n c k : Nat} {xs ys : List ByteArray} (h : w.ownsRow 0 9 1 (.slice (some ⟨g, 0, none⟩) n c) n (xs.map Value.string)) (hk : k ≤ n) (hd : xs.drop k = ys) (hn : n ≤ 4194304) : ys.length = n - k ∧ n - k ≤ c - k ∧ Kd.C Kd.string w (if c = k then some (⟨g, 0, none⟩ : Addr) else some ⟨g, k, none⟩) (n - k) ys := by
  have hl := h.1
  rw [List.length_map, Nat.mul_one] at hl
  have hyl : ys.length = n - k := by rw [← hd, List.length_drop, hl]
  obtain ⟨A2, c2, e1, hc⟩ := row_slice h
  simp only [Value.slice.injEq, true_and] at e1
  obtain ⟨rfl, rfl⟩ := e1
  obtain ⟨_, ht⟩ := tail_src h hk
  refine ⟨hyl, by omega, hyl, by omega, fun hp => ?_⟩
  have hne : ¬ c = k := by omega
  refine ⟨⟨g, k, none⟩, by rw [if_neg hne], fun j p hp => ⟨[.string p], rfl, rfl, fun i u hu => ?_⟩⟩
  have hi : i = 0 := by
    have := (List.getElem?_eq_some_iff.1 hu).1
    simpa using this
  subst hi
  simp at hu
  subst hu
  have := ht ⟨g, k, none⟩ (by rw [if_neg hne]) j (.string p) (by rw [← List.map_drop, hd, List.getElem?_map, hp]; rfl)
  rw [show j * Kd.string.sz + 0 = j from by show j * 1 + 0 = j; omega]
  exact this
theorem toList_inj {s t : ByteArray} (h : s.toList = t.toList) : s = t := by
  rw [ByteArray.toList_eq, ByteArray.toList_eq] at h
  exact ByteArray.ext (Array.toList_inj.1 h)
theorem texts2 {w : World} {A B : Option Addr} {ca cb n n2 : Nat} {a : List ByteArray} (he : a.length = n) (he2 : a.length = n2) (hA : Kd.C Kd.string w A n a) (ha : n ≤ ca) (hB : Kd.C Kd.string w B n2 a) (hb : n2 ≤ cb) (hn : n ≤ 9007199254740991) :
    Calls Try.prog 14 #[.slice A n ca, .slice B n2 cb] w fun e w' => e = .returned (.bool true) ∧ Drawn0 w w' := by
  subst he
  subst he2
  exact Eq16.texts_calls rfl hA ha hB hb hn
theorem ints_num (ks : List Nat) : ks.map nat = (ints ks).map num := by
  unfold ints
  rw [List.map_map]
  rfl
set_option maxHeartbeats 8000000 in
theorem loss_calls {w : World} {A : Option Addr} {c : Nat} {m : Bool} {zs : List (ByteArray × List Int)} (hC : Kd.C kP w A zs.length zs) (hc : zs.length ≤ c) (hl : zs.length ≤ 1048576) (he : (zs.map (·.2.length)).sum ≤ 1048576) :
    Calls Try.prog 9 #[.slice A zs.length c, .bool m] w fun e w' => e = .returned (.bool true) ∧ Below w.heap.size w w' := by
  have HE := Aside0.mk he
  have HC := Aside0.mk hC
  clear hC
  go_enter Try.func9, Try.ntmps9
  go_wp2_with fail
  refine (alive_calls _).mono ?_
  rintro e w1 ⟨rfl, hb1⟩
  have M := Aside0.mk ((Sep.start w).below hb1)
  have HC1 := Aside0.mk (Kd.C_below HC.out hb1)
  clear hb1 HC
  go_wp2_with fail
  refine (named_calls M.out HC1.out hc hl HE.out).mono ?_
  rintro e w2 ⟨items, A2, c2, rfl, hI, hil, hc2, hm2⟩
  clear M HC1
  have hz1 := namedZ_len zs
  have hz2 := namedZ_sum zs
  have hkid : ∀ q ∈ items, q.part.kids.length ≤ 4194304 := fun q hq => by
    have h1 : nd q ∈ namedZ zs := by rw [← hI]; exact List.mem_map_of_mem hq
    have h2 := mem_le_sum (List.mem_map_of_mem (f := fun x : Nd => x.2.length) h1)
    have h3 : (nd q).2.length = q.part.kids.length := rfl
    have := HE.out
    omega
  have hr2 : Sep w w2 (readR w (NodesC A2 (items.map nd)) :: []) := nodes_read (c := c2) (by rw [hil]; exact hm2) (by omega) hkid
  rw [hI] at hr2
  have M := Aside0.mk hr2
  have HV := Aside0.mk (show Valid (namedZ zs) from named_valid _)
  have HLab := Aside0.mk (namedZ_lab HE.out)
  have HSz := Aside0.mk (show ∀ x ∈ namedZ zs, x.1.size = x.2.length + 1 ∧ x.1 ≠ zzS from fun x hx => named_size hx)
  have HSum := Aside0.mk (show ((namedZ zs).map (·.2.length)).sum ≤ 1048576 by have := HE.out; omega)
  clear hm2 hr2 hkid hI hil hz2
  rw [← hz1] at hc2 hl ⊢
  clear hz1 HE hc he
  generalize namedZ zs = l at *
  by_cases h0 : l.length = 0
  · rw [h0]
    go_wp2_with fail
    refine (nodes_empty M.out none A2 0 0 c2 (.slice none 0 0) (.slice none 0 0) (.int .i64 0) (.slice none 0 0)).mono ?_
    rintro e w3 ⟨rfl, hm3⟩
    have HB := Aside0.mk hm3.1
    clear M hm3
    go_wp2_with fail
    go_ret
    exact ⟨rfl, HB.out⟩
  · have e0 : ((l.length : Int) == 0) = false := by rw [beq_eq_false_iff_ne]; omega
    have hb1 := build35
    have hb2 := build42z
    have hpos : 0 < l.length := by omega
    have hX := box_fresh M.out 35 #[.slice none 0 0, .slice none 0 0, .slice none 0 0, .int .i64 0, .slice none 0 0]
    go_upto_if 45 with fail
    clear M
    have M := Aside0.mk hX
    clear hX
    have hBs : w2.heap.size < (w2.alloc (.cells #[.slice none 0 0, .slice none 0 0, .slice none 0 0, .int .i64 0, .slice none 0 0] 35)).heap.size := by simp
    generalize w2.heap.size = B at M hBs ⊢
    generalize w2.alloc (.cells #[.slice none 0 0, .slice none 0 0, .slice none 0 0, .int .i64 0, .slice none 0 0] 35) = w3 at M hBs ⊢
    go_cut [1, 5, 9] (fun v1 v5 v9 wx => ∃ (mA : Option Addr) (mc : Nat), v1 = .bool m ∧ v5 = .slice A2 l.length c2 ∧ v9 = .pointer (some ⟨B, 0, none⟩) ∧ Aside0 (Sep w wx (boxR B 35 #[.slice none 0 0, .slice none 0 0, .slice mA (msOf m).length mc, .int .i64 0, .slice none 0 0] :: readR w (MandC mA (msOf m)) :: readR w (NodesC A2 l) :: [])))
    case first =>
      cases m with
      | false =>
        go_wp2_with fail
        go_meet
        exact ⟨none, 0, rfl, rfl, rfl, ⟨(read_old (C := MandC none (msOf false)) (M.out) (fun w' _ => mand_nil _ _)).swap⟩⟩
      | true =>
        have p2 : w3.cell? ⟨B, 2, none⟩ = some (.slice none 0 0) := (box_cell M.out (j := 2) rfl).1
        have pf2 := (box_cell M.out (j := 2) rfl).2
        have h1 := box_fresh (box_set M.out 2 (.slice (some ⟨w3.heap.size, 0, none⟩) 2 2)) 42 zeroHyp
        rw [show (w3.setCell ⟨B, 2, none⟩ (.slice (some ⟨w3.heap.size, 0, none⟩) 2 2)).heap.size = w3.heap.size by simp] at h1
        have M5 := Aside0.mk ((zero_told h1).swap)
        clear h1 M
        go_wp2_with fail
        go_meet
        exact ⟨some ⟨w3.heap.size, 0, none⟩, 2, rfl, rfl, rfl, ⟨M5.out⟩⟩
    case rest =>
      obtain ⟨mA, mc, rfl, rfl, rfl, M⟩ := hcut
      have p0 : wc.cell? ⟨B, 0, none⟩ = some (.slice none 0 0) := (box_cell M.out (j := 0) rfl).1
      have p1 : wc.cell? ⟨B, 1, none⟩ = some (.slice none 0 0) := (box_cell M.out (j := 1) rfl).1
      have p2 : wc.cell? ⟨B, 2, none⟩ = some (.slice mA (msOf m).length mc) := (box_cell M.out (j := 2) rfl).1
      have p3 : wc.cell? ⟨B, 3, none⟩ = some (.int .i64 0) := (box_cell M.out (j := 3) rfl).1
      have p4 : wc.cell? ⟨B, 4, none⟩ = some (.slice none 0 0) := (box_cell M.out (j := 4) rfl).1
      go_wp2_with fail
      have hml := ms_len m
      refine (nodes_any (c := c2) (mc := mc) (v0 := .slice none 0 0) (v1 := .slice none 0 0) (v3 := .int .i64 0) (v4 := .slice none 0 0) M.out (read_hold (M.out.pull 2 (by simp))) (read_hold (M.out.pull 1 (by simp))) (by omega) HV.out (by have := HSum.out; omega) HLab.out hc2 (by omega) (fun s hs => (ms_size hs).2)).mono ?_
      intro e w4 hout
      unfold AnsOut at hout
      clear M p0 p1 p2 p3 p4
      rcases ans_cases (ms := msOf m) hpos with h104 | hok
      · rw [h104] at hout
        obtain ⟨lv, cv, rfl, hm4⟩ := hout
        have HB := Aside0.mk hm4.1
        clear hm4
        go_wp2_with fail
        go_ret
        exact ⟨rfl, HB.out⟩
      · rw [hok] at hout
        have hF := loss_facts HV.out hpos (by omega) HSum.out HLab.out HSz.out hok
        have HF := Aside0.mk hF
        have hcs := hF.codes
        have hbs := hF.few
        obtain ⟨lv, cv, rfl, hm4⟩ := hout
        simp only at hm4
        clear hok hF
        obtain ⟨labs, hlabs⟩ : ∃ labs, labs = labN l := ⟨_, rfl⟩
        have HLabs := Aside0.mk hlabs
        rw [← hlabs] at HF
        clear hlabs
        generalize (namesL (msOf m) l).labels = bs at HF hbs hm4
        generalize (codesL (msOf m) l).codes = cs at HF hcs hm4
        obtain ⟨A10, c10, rfl, hc10⟩ := row_slice hm4.row
        obtain ⟨A11, c11, rfl, hc11⟩ := row_slice hm4.tail.row
        have M := Aside0.mk (hm4.pull 4 (by simp))
        clear hm4
        go_upto_region 15 with fail
        go_cut [1, 5, 9, 10, 11, 13, 14, 15] (fun v1 v5 v9 v10 v11 v13 v14 v15 wx => ∃ (A13 A14 : Option Addr) (c13 c14 : Nat), v1 = .bool m ∧ v5 = .slice A2 l.length c2 ∧ v9 = .pointer (some ⟨B, 0, none⟩) ∧ v10 = .slice A10 bs.length c10 ∧ v11 = .slice A11 cs.length c11 ∧ v13 = .slice A13 bs.length c13 ∧ v14 = .slice A14 cs.length c14 ∧ v15 = .int .i64 0 ∧ bs.length ≤ c13 ∧ cs.length ≤ c14 ∧
          Aside0 (Sep w wx (rowR 9 1 (.slice A13 bs.length c13) bs.length (bs.map Value.string) :: rowR 3 1 (.slice A14 cs.length c14) cs.length (cs.map num) :: readR w (NodesC A2 l) :: rowR 9 1 (.slice A10 bs.length c10) bs.length (bs.map Value.string) :: rowR 3 1 (.slice A11 cs.length c11) cs.length (cs.map num) :: boxR B 35 #[.slice none 0 0, .slice none 0 0, .slice mA (msOf m).length mc, .int .i64 0, .slice none 0 0] :: readR w (MandC mA (msOf m)) :: [])))
        case first =>
          have MD := Aside0.mk (M.out.drawn (w' := w4.drew) ⟨1, rfl⟩)
          go_region_held3 (fun w' => w'.cell? ⟨B, 0, none⟩ = some (.slice none 0 0) ∧ w'.cell? ⟨B, 1, none⟩ = some (.slice none 0 0) ∧ w'.cell? ⟨B, 2, none⟩ = some (.slice mA (msOf m).length mc) ∧ w'.cell? ⟨B, 3, none⟩ = some (.int .i64 0) ∧ w'.cell? ⟨B, 4, none⟩ = some (.slice none 0 0))
            (first | exact box5 (M6.out.pull 6 (by simp)) | exact box5 (M5.out.pull 4 (by simp)) | exact box5 (MD.out.pull 3 (by simp)))
            (first
              | (go_at_call 27; refine (share_rd (c := c2) MD.out (fun _ h => h) hpos hl HV.out HSum.out HLab.out).mono ?_; rintro e w5 ⟨A5, c5, rfl, hc5, hm5⟩; have M5 := Aside0.mk hm5; clear hm5)
              | (go_at_call 11; refine (nodes_any (c := c5) (mc := mc) (v0 := .slice none 0 0) (v1 := .slice none 0 0) (v3 := .int .i64 0) (v4 := .slice none 0 0) M5.out (read_hold M5.out) (read_hold (M5.out.pull 5 (by simp))) (by have := share_le HV.out hpos; omega) (share_valid HV.out hpos) (by have := share_sum HV.out hpos; have := HSum.out; omega) (share_labs' HV.out hpos HLab.out) hc5 (by omega) (fun s hs => (ms_size hs).2)).mono ?_; intro e w6 hout; unfold AnsOut at hout; rw [HF.out.share] at hout; obtain ⟨lv, cv, rfl, hm6⟩ := hout; have M6 := Aside0.mk hm6; clear hm6))
          obtain ⟨A13, c13, rfl, h13⟩ := row_slice M6.out.row
          obtain ⟨A14, c14, rfl, h14⟩ := row_slice M6.out.tail.row
          have M7 := Aside0.mk (M6.out.pull 2 (by simp)).tail
          clear M M5 M6 MD
          go_wp2_with fail
          go_meet
          exact ⟨A13, A14, c13, c14, rfl, rfl, rfl, rfl, rfl, rfl, rfl, rfl, h13, h14, ⟨M7.out⟩⟩
        case rest =>
          clear M
          obtain ⟨A13, A14, c13, c14, rfl, rfl, rfl, rfl, rfl, rfl, rfl, rfl, hc13, hc14, M⟩ := hcut
          go_wp2_with fail
          have hR1 := row_Cs M.out.row (by omega)
          have hR2 := row_Cs (M.out.pull 3 (by simp)).row (by omega)
          refine (Eq16.texts_calls rfl hR1.2 hR1.1 hR2.2 hR2.1 (by omega)).mono ?_
          clear hR1 hR2
          rintro e w20 ⟨rfl, hd20⟩
          have hm20 := M.out.drawn hd20
          clear M hd20
          have M := Aside0.mk hm20
          clear hm20
          go_wp2_with fail
          have hR1 := row_Ci (M.out.pull 1 (by simp)).row (by omega)
          have hR2 := row_Ci (M.out.pull 4 (by simp)).row (by omega)
          refine (Eq16.ints_calls rfl hR1.2 hR1.1 hR2.2 hR2.1 (by omega)).mono ?_
          clear hR1 hR2
          rintro e w21 ⟨rfl, hd21⟩
          have hm21 := (M.out.drawn hd21).tail.tail
          clear M hd21
          have M := Aside0.mk hm21
          clear hm21
          go_wp2_with fail
          refine (labels_calls (c := c2) M.out (fun _ h => h) hpos (by omega) HV.out (by have := HSum.out; omega)).mono ?_
          intro e w22 hout
          unfold LabOut at hout
          rw [← HLabs.out] at hout
          by_cases h2000 : labs.length ≤ 2000
          · rw [if_pos h2000] at hout
            obtain ⟨v16, rfl, hm22⟩ := hout
            obtain ⟨A16, c16, rfl, hc16⟩ := row_slice hm22.row
            obtain ⟨sv, hspr⟩ := HF.out.spread h2000
            obtain ⟨cpy, op, hcp1, hcp2, hcp3, hcp4, hcp5, hcp6, hcp7⟩ := HF.out.copy
            have HSpr := Aside0.mk hspr
            have HCp3 := Aside0.mk hcp3
            have HCp := Aside0.mk hcp1
            have HCpV := Aside0.mk hcp4
            have HCpS := Aside0.mk hcp5
            have HCpL := Aside0.mk hcp6
            have HCpA := Aside0.mk hcp7
            have hlp := HF.out.pos
            clear hspr hcp1 hcp3 hcp4 hcp5 hcp6 hcp7 M HLabs HV HSum HSz
            have M := Aside0.mk (((hm22.pull 1 (by simp)).tail))
            clear hm22
            go_wp2_with fail
            go_loopw [18, 19] (fun v18 v19 wr => ∃ (i : Nat) (A18 : Option Addr) (c18 : Nat), i ≤ (msOf m).length ∧ v18 = .slice A18 i c18 ∧ v19 = .int .i64 i ∧ Aside0 (Sep w wr (rowR 9 1 (.slice A18 i c18) i (((msOf m).take i).map Value.string) :: rowR 9 1 (.slice A16 labs.length c16) labs.length (labs.map Value.string) :: rowR 9 1 (.slice A10 bs.length c10) bs.length (bs.map Value.string) :: rowR 3 1 (.slice A11 cs.length c11) cs.length (cs.map num) :: boxR B 35 #[.slice none 0 0, .slice none 0 0, .slice mA (msOf m).length mc, .int .i64 0, .slice none 0 0] :: readR w (MandC mA (msOf m)) :: []))) (fun _ v19 _ => (msOf m).length - (intOf v19).toNat)
            case atStart => exact ⟨0, none, 0, by omega, rfl, rfl, ⟨row_nil M.out 9 1⟩⟩
            case round =>
              clear M
              obtain ⟨i, A18, c18, hi, rfl, rfl, M⟩ := hrel
              have p2 : wr.cell? ⟨B, 2, none⟩ = some (.slice mA (msOf m).length mc) := (box_cell (M.out.pull 4 (by simp)) (j := 2) rfl).1
              by_cases hlt : i < (msOf m).length
              · obtain ⟨ad, _, _, _, _, _, rfl, x0, _⟩ := (read_at (M.out.pull 5 (by simp))) i hlt
                have Htk := Aside0.mk (show (msOf m).take (i + 1) = (msOf m).take i ++ [(msOf m)[i]] from List.take_succ_eq_append_getElem hlt)
                generalize (msOf m)[i] = s at x0 Htk
                go_wp2_with (at_builtin; refine wp_one24 (M.out.alloc (.cells #[.string s] 9)) rfl (.tmp 97) (.tmp 104) 22 rfl Try.underlying22 info9 rfl rfl rfl (new_cell _ _ _) rfl (by omega) (by omega) ?_; intro A6 c6 w6 hc6 hm6; clear M p2 x0; have M := Aside0.mk hm6; clear hm6)
                exact ⟨⟨i + 1, A6, c6, by omega, rfl, by go_num, ⟨by rw [Htk.out, List.map_append]; exact M.out⟩⟩, by simp [intOf]; omega⟩
              · have hie : i = (msOf m).length := by omega
                subst hie
                go_wp2_with fail
                go_loopw [18, 21] (fun v18 v21 wr => ∃ (i : Nat) (N : List ByteArray) (A18 : Option Addr) (c18 : Nat), i ≤ labs.length ∧ N.length ≤ 2 + i ∧ v18 = .slice A18 N.length c18 ∧ v21 = .int .i64 i ∧ Aside0 ((labs.take i).foldl nmStep (msOf m) = N) ∧ Aside0 (Sep w wr (rowR 9 1 (.slice A18 N.length c18) N.length (N.map Value.string) :: rowR 9 1 (.slice A16 labs.length c16) labs.length (labs.map Value.string) :: rowR 9 1 (.slice A10 bs.length c10) bs.length (bs.map Value.string) :: rowR 3 1 (.slice A11 cs.length c11) cs.length (cs.map num) :: boxR B 35 #[.slice none 0 0, .slice none 0 0, .slice mA (msOf m).length mc, .int .i64 0, .slice none 0 0] :: readR w (MandC mA (msOf m)) :: []))) (fun _ v21 _ => labs.length - (intOf v21).toNat)
                case atStart => exact ⟨0, msOf m, A18, c18, by omega, by omega, rfl, rfl, ⟨rfl⟩, ⟨by have h := M.out; rw [List.take_length] at h; exact h⟩⟩
                case round =>
                  clear M p2
                  obtain ⟨i, N, A18, c18, hi, hNl, rfl, rfl, HN, M⟩ := hrel
                  by_cases hlt : i < labs.length
                  · have Htk := Aside0.mk (show labs.take (i + 1) = labs.take i ++ [labs[i]] from List.take_succ_eq_append_getElem hlt)
                    have Hli := Aside0.mk (show labs[i]? = some labs[i] from List.getElem?_eq_getElem hlt)
                    generalize labs[i] = lab at Htk Hli
                    go_wp2_with fail
                    go_loopw [22, 23] (fun v22 v23 wq => ∃ (k : Nat), k ≤ N.length ∧ v22 = .bool (ix (N.take k) lab).isSome ∧ v23 = .int .i64 k ∧ Aside0 (Sep w wq (rowR 9 1 (.slice A18 N.length c18) N.length (N.map Value.string) :: rowR 9 1 (.slice A16 labs.length c16) labs.length (labs.map Value.string) :: rowR 9 1 (.slice A10 bs.length c10) bs.length (bs.map Value.string) :: rowR 3 1 (.slice A11 cs.length c11) cs.length (cs.map num) :: boxR B 35 #[.slice none 0 0, .slice none 0 0, .slice mA (msOf m).length mc, .int .i64 0, .slice none 0 0] :: readR w (MandC mA (msOf m)) :: []))) (fun _ v23 _ => N.length - (intOf v23).toNat)
                    case atStart => exact ⟨0, by omega, rfl, rfl, M⟩
                    case round =>
                      clear M
                      obtain ⟨k, hk, rfl, rfl, M⟩ := hrel
                      by_cases hkl : k < N.length
                      · obtain ⟨g18, cp, hv18, _, hcell, _⟩ := row_some M.out.row (by omega)
                        simp only [Value.slice.injEq, true_and] at hv18
                        obtain ⟨rfl, rfl⟩ := hv18
                        obtain ⟨g16, cp, hv16, _, hcell6, _⟩ := row_some (M.out.pull 1 (by simp)).row (by omega)
                        simp only [Value.slice.injEq, true_and] at hv16
                        obtain ⟨rfl, rfl⟩ := hv16
                        have r0 : wr.cell? ⟨g18, k, none⟩ = some (.string N[k]) := hcell _ _ (by rw [List.getElem?_map, List.getElem?_eq_getElem hkl]; rfl)
                        have r1 : wr.cell? ⟨g16, i, none⟩ = some (.string lab) := hcell6 _ _ (by rw [List.getElem?_map, Hli.out]; rfl)
                        obtain ⟨t1, t2, t3⟩ := ix_take (s := lab) hkl
                        clear hcell hcell6
                        generalize N[k] = nk at r0 t2 t3
                        cases hb : (ix (N.take k) lab).isSome with
                        | true =>
                          have t4 := Aside0.mk (t1 hb)
                          clear t1 t2 t3
                          rw [hb] at *
                          go_wp2_with fail
                          go_quiet (fail)
                          go_wp2_with fail
                          exact ⟨⟨k + 1, by omega, by rw [t4.out], by go_num, ⟨M.out.drawn ⟨_, rfl⟩⟩⟩, by simp [intOf]; omega⟩
                        | false =>
                          have t5 := t3 hb
                          clear t3
                          rw [hb] at *
                          by_cases e : nk = lab
                          · have t4 := Aside0.mk (t2 e)
                            have e1 : (nk.toList == lab.toList) = true := by rw [e]; exact beq_self_eq_true _
                            clear t1 t2 t5
                            go_wp2_with fail
                            go_quiet (fail)
                            go_wp2_with fail
                            exact ⟨⟨k + 1, by omega, by rw [t4.out], by go_num, ⟨M.out.drawn ⟨_, rfl⟩⟩⟩, by simp [intOf]; omega⟩
                          · have t4 := Aside0.mk (t5 e)
                            have e1 : (nk.toList == lab.toList) = false := by rw [beq_eq_false_iff_ne]; exact fun h => e (toList_inj h)
                            clear t1 t2 t5
                            go_wp2_with fail
                            go_quiet (fail)
                            go_wp2_with fail
                            exact ⟨⟨k + 1, by omega, by rw [t4.out], by go_num, ⟨M.out.drawn ⟨_, rfl⟩⟩⟩, by simp [intOf]; omega⟩
                      · have hke : k = N.length := by omega
                        subst hke
                        rw [List.take_length] at *
                        cases hb : (ix N lab).isSome with
                        | true =>
                          have hn2 : (labs.take (i + 1)).foldl nmStep (msOf m) = N := by
                            rw [Htk.out, List.foldl_append, HN.out]
                            show nmStep N lab = N
                            unfold nmStep
                            rw [if_pos hb]
                          have HN2 := Aside0.mk hn2
                          clear hn2
                          rw [hb] at *
                          go_wp2_with fail
                          exact ⟨⟨i + 1, N, A18, c18, by omega, by omega, rfl, by go_num, HN2, M⟩, by simp [intOf]; omega⟩
                        | false =>
                          have hn2 : (labs.take (i + 1)).foldl nmStep (msOf m) = N ++ [lab] := by
                            rw [Htk.out, List.foldl_append, HN.out]
                            show nmStep N lab = _
                            unfold nmStep
                            rw [if_neg (by rw [hb]; simp)]
                          have HN2 := Aside0.mk hn2
                          clear hn2
                          rw [hb] at *
                          obtain ⟨g16, cp, hv16, _, hcell6, _⟩ := row_some (M.out.pull 1 (by simp)).row (by omega)
                          simp only [Value.slice.injEq, true_and] at hv16
                          obtain ⟨rfl, rfl⟩ := hv16
                          have r1 : wr.cell? ⟨g16, i, none⟩ = some (.string lab) := hcell6 _ _ (by rw [List.getElem?_map, Hli.out]; rfl)
                          clear hcell6
                          go_wp2_with (at_builtin; refine wp_one24 (M.out.alloc (.cells #[.string lab] 9)) rfl (.tmp 134) (.tmp 139) 22 rfl Try.underlying22 info9 rfl rfl rfl (new_cell _ _ _) rfl (by omega) (by omega) ?_; intro A6 c6 w6 hc6 hm6; clear M r1; have M := Aside0.mk hm6; clear hm6)
                          exact ⟨⟨i + 1, N ++ [lab], A6, c6, by omega, by simp; omega, by simp, by go_num, HN2, ⟨by rw [List.length_append, List.map_append]; exact M.out⟩⟩, by simp [intOf]; omega⟩
                  · have hie : i = labs.length := by omega
                    subst hie
                    have hN := HN.out
                    rw [List.take_length, HF.out.names] at hN
                    have hnp := HF.out.posn
                    have hsz := HF.out.sizes
                    have hdr : N.drop (msOf m).length = bs := by rw [← hN, List.drop_left]
                    have hmk : (msOf m).length ≤ N.length := by rw [← hN, List.length_append]; omega
                    rw [hN] at HSpr hnp hsz
                    have HDr := Aside0.mk hdr
                    have HSzN := Aside0.mk hsz
                    have HNe := Aside0.mk hN
                    clear hdr hsz hN HN
                    obtain ⟨g18, cp, hv18, hcp, _⟩ := row_some M.out.row hnp
                    simp only [Value.slice.injEq, true_and] at hv18
                    obtain ⟨rfl, rfl⟩ := hv18
                    have hkc : (msOf m).length ≤ c18 := by omega
                    have hkc2 : ((msOf m).length : Int) ≤ (c18 : Int) := by omega
                    have hkc3 : ((msOf m).length : Int) ≤ (N.length : Int) := by omega
                    go_upto_region 37 with fail
                    go_cut [1, 9, 10, 11, 16, 18, 146] (fun v1 v9 v10 v11 v16 v18 v146 wx => v1 = .bool m ∧ v9 = .pointer (some ⟨B, 0, none⟩) ∧ v10 = .slice A10 bs.length c10 ∧ v11 = .slice A11 cs.length c11 ∧ v16 = .slice A16 labs.length c16 ∧ v18 = .slice (some ⟨g18, 0, none⟩) N.length c18 ∧ v146 = .bool false ∧ Aside0 (Sep w wx (rowR 9 1 (.slice (some ⟨g18, 0, none⟩) N.length c18) N.length (N.map Value.string) :: rowR 9 1 (.slice A16 labs.length c16) labs.length (labs.map Value.string) :: rowR 9 1 (.slice A10 bs.length c10) bs.length (bs.map Value.string) :: rowR 3 1 (.slice A11 cs.length c11) cs.length (cs.map num) :: boxR B 35 #[.slice none 0 0, .slice none 0 0, .slice mA (msOf m).length mc, .int .i64 0, .slice none 0 0] :: readR w (MandC mA (msOf m)) :: [])))
                    case first =>
                      have ht := Cs_tail M.out.row hmk HDr.out (by omega)
                      have hR2 := row_Cs (M.out.pull 2 (by simp)).row (by omega)
                      obtain ⟨At, hAt⟩ : ∃ At : Option Addr, (if c18 = (msOf m).length then some (⟨g18, 0, none⟩ : Addr) else some ⟨g18, (msOf m).length, none⟩) = At := ⟨_, rfl⟩
                      rw [hAt] at ht
                      have HT := Aside0.mk ht
                      have HR2 := Aside0.mk hR2
                      clear ht hR2
                      go_wp2_with fail
                      refine (texts2 HT.out.1 rfl HT.out.2.2 HT.out.2.1 HR2.out.2 HR2.out.1 (by omega)).mono ?_
                      rintro e w23 ⟨rfl, hd23⟩
                      have hm23 := M.out.drawn hd23
                      clear M hd23 HT HR2 hAt
                      have M := Aside0.mk hm23
                      clear hm23
                      go_wp2_with fail
                      go_meet
                      exact ⟨rfl, rfl, rfl, rfl, rfl, rfl, rfl, M⟩
                    case rest =>
                      clear M
                      obtain ⟨rfl, rfl, rfl, rfl, rfl, rfl, rfl, M⟩ := hcut
                      go_wp2_with fail
                      have hR1 := row_Cs M.out.row (by omega)
                      refine (arities_calls M.out rfl hR1.2 hR1.1 (by omega) HSzN.out).mono ?_
                      clear hR1
                      rintro e w24 ⟨A24, c24, rfl, hc24, hm24⟩
                      clear M
                      have M := Aside0.mk hm24
                      clear hm24
                      go_upto_if 149 with fail
                      go_cut [9, 10, 11, 16, 18, 24] (fun v9 v10 v11 v16 v18 v24 wx => v9 = .pointer (some ⟨B, 0, none⟩) ∧ v10 = .slice A10 bs.length c10 ∧ v11 = .slice A11 cs.length c11 ∧ v16 = .slice A16 labs.length c16 ∧ v18 = .slice (some ⟨g18, 0, none⟩) N.length c18 ∧ v24 = .slice A24 N.length c24 ∧ Aside0 (Sep w wx (rowR 3 1 (.slice A24 N.length c24) N.length ((arOf m N).map nat) :: rowR 9 1 (.slice (some ⟨g18, 0, none⟩) N.length c18) N.length (N.map Value.string) :: rowR 9 1 (.slice A16 labs.length c16) labs.length (labs.map Value.string) :: rowR 9 1 (.slice A10 bs.length c10) bs.length (bs.map Value.string) :: rowR 3 1 (.slice A11 cs.length c11) cs.length (cs.map num) :: boxR B 35 #[.slice none 0 0, .slice none 0 0, .slice mA (msOf m).length mc, .int .i64 0, .slice none 0 0] :: readR w (MandC mA (msOf m)) :: [])))
                      case first =>
                        cases m with
                        | false =>
                          go_wp2_with fail
                          go_meet
                          exact ⟨rfl, rfl, rfl, rfl, rfl, rfl, M⟩
                        | true =>
                          have h1N : 1 < N.length := by
                            have : (msOf true).length = 2 := rfl
                            omega
                          obtain ⟨g24, cp, hv24, hcp4, hcell, hfz, _⟩ := row_some M.out.row (by omega)
                          simp only [Value.slice.injEq, true_and] at hv24
                          obtain ⟨rfl, rfl⟩ := hv24
                          have r0 : w24.cell? ⟨g24, 1, none⟩ = some (nat ((arL N)[1]'(by simp [arL]; exact h1N))) := hcell 1 _ (by rw [List.getElem?_map, List.getElem?_eq_getElem (by simp [arL]; exact h1N)]; rfl)
                          have f0 := hfz 1
                          have hst := Sep.stored M.out (j := 1) (u := nat 0) h1N rfl
                          rw [← List.map_set] at hst
                          have M2 := Aside0.mk hst
                          clear hst M hcell hfz
                          go_wp2_with fail
                          go_meet
                          exact ⟨rfl, rfl, rfl, rfl, rfl, rfl, ⟨M2.out⟩⟩
                      case rest =>
                        clear M
                        obtain ⟨rfl, rfl, rfl, rfl, rfl, rfl, M⟩ := hcut
                        go_wp2_with fail
                        have hsp := spread_calls (c0 := c18) (c1 := c11) (c2 := c24) (most := 2000) M.out (fun w' hw => ⟨(row_Cs (row_hold (M.out.pull 1 (by simp)) w' hw) (by omega)).2, (row_Ci (row_hold (M.out.pull 4 (by simp)) w' hw) (by omega)).2, (row_Ci (by have h := row_hold M.out w' hw; rw [ints_num] at h; exact h) (by omega)).2⟩) (by omega) (by omega) (by omega) HSpr.out
                        rw [show ((2000 : Nat) : Int) = 2000 from rfl] at hsp
                        refine hsp.mono ?_
                        clear hsp
                        rintro e w25 ⟨A25, c25, rfl, hc25, hK25, hm25⟩
                        have HK25 := Aside0.mk hK25
                        clear M hK25
                        have M := Aside0.mk hm25
                        clear hm25
                        go_wp2_with fail
                        have hR2 := row_Cs (M.out.pull 2 (by simp)).row (by omega)
                        refine (Eq16.texts_calls rfl HK25.out hc25 hR2.2 hR2.1 (by omega)).mono ?_
                        clear hR2
                        rintro e w26 ⟨rfl, hd26⟩
                        have hm26 := M.out.drawn hd26
                        clear M hd26 HK25
                        have M := Aside0.mk hm26
                        clear hm26
                        go_upto_region 45 with fail
                        go_cut [10, 11, 14, 15, 27] (fun v10 v11 v14 v15 v27 wx => ∃ (A13 A14 : Option Addr) (c13 c14 : Nat), v10 = .slice A10 bs.length c10 ∧ v11 = .slice A11 cs.length c11 ∧ v14 = .slice A14 cs.length c14 ∧ v15 = .int .i64 0 ∧ v27 = .slice A13 bs.length c13 ∧ bs.length ≤ c13 ∧ cs.length ≤ c14 ∧
                          Aside0 (Sep w wx (rowR 9 1 (.slice A13 bs.length c13) bs.length (bs.map Value.string) :: rowR 3 1 (.slice A14 cs.length c14) cs.length (cs.map num) :: rowR 9 1 (.slice A10 bs.length c10) bs.length (bs.map Value.string) :: rowR 3 1 (.slice A11 cs.length c11) cs.length (cs.map num) :: boxR B 35 #[.slice none 0 0, .slice none 0 0, .slice mA (msOf m).length mc, .int .i64 0, .slice none 0 0] :: readR w (MandC mA (msOf m)) :: [])))
                        case first =>
                          have MD := Aside0.mk (M.out.drawn (w' := w26.drew) ⟨1, rfl⟩)
                          go_region_held3 (fun w' => w'.cell? ⟨B, 0, none⟩ = some (.slice none 0 0) ∧ w'.cell? ⟨B, 1, none⟩ = some (.slice none 0 0) ∧ w'.cell? ⟨B, 2, none⟩ = some (.slice mA (msOf m).length mc) ∧ w'.cell? ⟨B, 3, none⟩ = some (.int .i64 0) ∧ w'.cell? ⟨B, 4, none⟩ = some (.slice none 0 0))
                            (first | exact box5 (M6.out.pull 8 (by simp)) | exact box5 (M5.out.pull 6 (by simp)) | exact box5 (MD.out.pull 5 (by simp)))
                            (first
                              | (go_at_call 34; refine (copies_rd MD.out (fun w' hw => (row_Cs (row_hold (MD.out.pull 2 (by simp)) w' hw) (by omega)).2) (by omega) HCp.out (by have := HCp3.out; omega) (by have := HCpS.out; have := HCp3.out; omega)).mono ?_; rintro e w5 ⟨A5, c5, rfl, hc5, hm5⟩; have M5 := Aside0.mk hm5; clear hm5)
                              | (go_at_call 11; refine (nodes_any (c := c5) (mc := mc) (v0 := .slice none 0 0) (v1 := .slice none 0 0) (v3 := .int .i64 0) (v4 := .slice none 0 0) M5.out (read_hold M5.out) (read_hold (M5.out.pull 7 (by simp))) (by have := HCp3.out; omega) HCpV.out (by have := HCpS.out; have := HCp3.out; omega) HCpL.out hc5 (by omega) (fun s hs => (ms_size hs).2)).mono ?_; intro e w6 hout; unfold AnsOut at hout; rw [HCpA.out] at hout; obtain ⟨lv, cv, rfl, hm6⟩ := hout; have M6 := Aside0.mk hm6; clear hm6))
                          obtain ⟨A13, c13, rfl, h13⟩ := row_slice M6.out.row
                          obtain ⟨A14, c14, rfl, h14⟩ := row_slice M6.out.tail.row
                          have M7 := Aside0.mk ((((((((M6.out.pull 2 (by simp)).tail).pull 2 (by simp)).tail).pull 2 (by simp)).tail).pull 2 (by simp)).tail)
                          clear M M5 M6 MD
                          go_wp2_with fail
                          go_meet
                          exact ⟨A13, A14, c13, c14, rfl, rfl, rfl, rfl, rfl, h13, h14, ⟨M7.out⟩⟩
                        case rest =>
                          clear M
                          obtain ⟨A13, A14, c13, c14, rfl, rfl, rfl, rfl, rfl, hc13, hc14, M⟩ := hcut
                          go_wp2_with fail
                          have hR1 := row_Cs M.out.row (by omega)
                          have hR2 := row_Cs (M.out.pull 2 (by simp)).row (by omega)
                          refine (Eq16.texts_calls rfl hR1.2 hR1.1 hR2.2 hR2.1 (by omega)).mono ?_
                          clear hR1 hR2
                          rintro e w30 ⟨rfl, hd30⟩
                          have hm30 := M.out.drawn hd30
                          clear M hd30
                          have M := Aside0.mk hm30
                          clear hm30
                          go_wp2_with fail
                          have hR1 := row_Ci (M.out.pull 1 (by simp)).row (by omega)
                          have hR2 := row_Ci (M.out.pull 3 (by simp)).row (by omega)
                          refine (Eq16.ints_calls rfl hR1.2 hR1.1 hR2.2 hR2.1 (by omega)).mono ?_
                          clear hR1 hR2
                          rintro e w31 ⟨rfl, hd31⟩
                          have HB := Aside0.mk (M.out.drawn hd31).1
                          clear M hd31
                          go_wp2_with fail
                          go_ret
                          exact ⟨rfl, HB.out⟩
          · rw [if_neg h2000] at hout
            obtain ⟨rfl, hm22⟩ := hout
            have HB := Aside0.mk hm22.1
            clear hm22 M
            go_wp2_with fail
            go_ret
            exact ⟨rfl, HB.out⟩
end Go.Proofs.Ytkonloadedbpkaa.LossW

namespace Go.Proofs.Ytkonloadedbpkaa.foldLossless
open Go.ChangeShapes Go.WideShapes Go.ChangeAt Go.RowKit
open Go.Proofs.YtkonloadedbpkaaW.PrintWords
set_option linter.unusedVariables false

theorem own : ownKnob Try.prog.godebug = none := by kernel_rfl
theorem laidOut : laidOutB Try.prog = true := by kernel_rfl
set_option maxRecDepth 100000 in
/-- What the walk gives. -/
theorem contract (H : Type) (enc : TypeId × Value → H) (W : World) (base : Nat) (args : Array Value) (ds gs : List (DataW H)) (before : List MemPlace)
    (hval : ∀ (j : Nat) t v, Try.f9.params[j]? = some t → args[j]? = some v → Value.okWide Try.prog W .any base t v)
    (hW : DataW.Whole enc Try.prog Try.f9.params.toList Rows.foldLosslessSpec.vars false W args.toList ds gs before) (hk : Rows.uptoSmall H (ds ++ gs) = true) :
    Calls Try.prog 9 args W fun e W' => ∃ v, e = .returned v ∧ Rows.foldLosslessSpec.post enc Try.prog Try.f9 false true false false W args v W' := by
  have hW' := hW
  obtain ⟨p, q, hA0, hV, rfl, hfz, hnd⟩ := hW
  have hA : DataW.TrodAll enc Try.prog W 0 (fun _ => true) true Try.f9.params.toList args.toList ds p := hA0
  rw [Try.params9] at hA hval
  obtain ⟨v0, vs0, d0, ds0, p0, q0, hargs, rfl, rfl, h0, r0⟩ := trodAll_cons hA
  obtain ⟨v1, vs1, d1, ds1, p1, q1, rfl, rfl, rfl, h1, r1⟩ := trodAll_cons r0
  obtain ⟨rfl, rfl, rfl⟩ := trodAll_nil r1
  obtain rfl : args = #[v0, v1] := by cases args; simp_all
  obtain ⟨rfl, rfl⟩ := trodVars_none hV
  obtain ⟨a0, len0, cap0, rfl⟩ := okWide_slice Try.underlying24 (hval 0 24 v0 rfl rfl)
  obtain ⟨m, rfl⟩ := okWide_bool Try.underlying4 (hval 1 4 v1 rfl rfl)
  have k0 := h0
  have k1 := h1
  have lt1 : ∀ x ∈ p1, x.block < W.heap.size := by obtain ⟨m, hm⟩ := k1; exact DataW.trod_lt m _ _ _ hm
  have lt0 : ∀ x ∈ p0, x.block < W.heap.size := by obtain ⟨m, hm⟩ := k0; exact DataW.trod_lt m _ _ _ hm
  obtain ⟨zs, rfl, hc0, hn0, hC0, hlab, hb1, hb2, hs0⟩ := NodesIn.nodes_in h0
  have hbd := bulks.bound hk
  simp only [List.append_nil] at hbd
  have hm0 := bulks.part_le (H := H) (d := d0) (l := [d0, d1]) (by simp)
  clear hA0
  refine (LossW.loss_calls (c := cap0) hC0 hc0 (by omega) (by omega)).mono fun e W' ⟨he, bel⟩ => ?_
  subst he
  exact ⟨_, rfl, _, _, _, [], _, [], hW', trodAll_mk1 (shut_bool Try.underlying4 _), (trodAll_cons_mk (Below.trod laidOut (by kernel_rfl) (of_decide_eq_true (by kernel_rfl)) k0 bel lt0) (trodAll_cons_mk (Below.trod laidOut (by kernel_rfl) (of_decide_eq_true (by kernel_rfl)) k1 bel lt1) trodAll_mk0)), rfl, bel.frame _, fun h => by cases h⟩

set_option maxRecDepth 100000 in
theorem lifted (os : Os) (started : os.Started) (H : Type) (enc : TypeId × Value → H) (F : Stop.Interp) :
    ReturnsInHanded {} Try.checked os 9 .any ((Rows.OpenSpec.upto Rows.foldLosslessSpec).pre6 enc Try.prog Try.f9 Rows.foldLosslessUptoRow.domain false) (((Rows.OpenSpec.upto Rows.foldLosslessSpec).at F).post enc Try.prog Try.f9 false true false false) := by
  refine returnsInHanded_of_cond (C := Try.checked) (s := Rows.OpenSpec.upto Rows.foldLosslessSpec) (k := Rows.uptoSmall) rfl own started (by kernel_rfl) Try.func9
    (OpenSpec.witness (enc := enc) (C := Try.checked) (s := Rows.OpenSpec.upto Rows.foldLosslessSpec) (k := Rows.uptoSmall) rfl false ⟨#[], #[.slice none 0 0, .bool false], []⟩ 8 (by kernel_rfl) (by kernel_rfl) (by kernel_rfl)
      (x := ([.nil, .lit (.bool false)], [], [])) (by kernel_rfl) rfl (by kernel_rfl)) ?_
  intro W base args ds gs before hval hW _ hk _
  exact contract H enc W base args ds gs before hval hW hk

theorem over : Rows.foldLosslessUptoRow.holds Try.pinned (Rows.OpenSpec.upto Rows.foldLosslessSpec) :=
  OpenClaim.holds_of_cond 9 Try.f9 rfl rfl rfl rfl rfl rfl rfl ⟨rfl, rfl, rfl, rfl, rfl⟩ rfl rfl rfl rfl rfl (by kernel_rfl) Try.func9 (by kernel_rfl)
    (of_decide_eq_true (by kernel_rfl)) (by unfold Func.isWrapper; first | (rw [if_pos (by decide +kernel)]; kernel_rfl) | (rw [if_neg (by decide +kernel)]; exact ⟨rfl, rfl⟩))
    (fun os started H enc _ F => lifted os started H enc F)

theorem proved : Rows.FoldLosslessUptoSaid := over
#print axioms proved
end Go.Proofs.Ytkonloadedbpkaa.foldLossless
