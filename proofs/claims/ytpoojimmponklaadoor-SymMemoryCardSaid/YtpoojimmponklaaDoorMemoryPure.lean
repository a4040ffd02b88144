/- SymMemory: the marks, and lists of them that are kept. -/
import Derived.Test.YtpoojimmponklaaDoorSep
import Derived.Test.YtpoojimmponklaaDoorScript
import Derived.Test.YtpoojimmponklaaDoorLabelsPure
import Derived.Test.YtpoojimmponklaaDoorPSymFullx2
namespace Go.Proofs.YtpoojimmponklaaDoor.SymMemoryPure
open Go.RowKit Go.Maps Go.Proofs.YtpoojimmponklaaDoor.SymTab Go.Proofs.YtpoojimmponklaaDoor.SymHeap Go.Proofs.YtpoojimmponklaaDoor.SymReads Go.Proofs.YtpoojimmponklaaDoor.SymApi Go.Proofs.YtpoojimmponklaaDoor.SymScan Go.Proofs.YtpoojimmponklaaDoor.SymScript Go.Proofs.YtpoojimmponklaaDoor.SymNew Go.Proofs.YtpoojimmponklaaDoor.SymSep Go.Proofs.YtpoojimmponklaaDoor.PSymFull
open Go.Proofs.YtpoojimmponklaaDoorW.PrintWords
set_option linter.unusedVariables false

/-! ### numbered -/
theorem one_size (x : Int) : (strOfNums [x]).size = 1 := by simp [strOfNums, ByteArray.size]
theorem num_l0 (k : Nat) : ∀ (n : Nat) (s : ByteArray), n < 10 ^ (k + 1) → n ≤ 4398046511104 → s.size + k + 2 ≤ 100 → ∃ r, lemmalaw02_numbered.l0 (k + 1) (n : Int) s = some r ∧ r.size ≤ s.size + k + 2 := by
  induction k with
  | zero =>
    intro n s h h2 hs
    simp only [lemmalaw02_numbered.l0]
    rw [if_neg (by omega)]
    simp only [Option.bind_some]
    have h1 := one_size (wrap64 (48 + (n : Int)) % 256)
    rw [if_pos (by omega), if_pos (by rw [ByteArray.size_append, h1]; show ((1 + 1 : Nat) : Nat) + s.size ≤ _; omega)]
    refine ⟨_, rfl, ?_⟩
    rw [ByteArray.size_append, ByteArray.size_append, h1]
    show 1 + 1 + s.size ≤ _
    omega
  | succ k ih =>
    intro n s h h2 hs
    simp only [lemmalaw02_numbered.l0]
    by_cases h9 : (n : Int) > 9
    · rw [if_pos h9]
      simp only [Option.bind_some]
      have h1 := one_size (wrap64 (48 + Int.tmod (n : Int) 10) % 256)
      rw [if_pos (by omega)]
      have e : wrap64 (Int.tdiv (n : Int) 10) = ((n / 10 : Nat) : Int) := by
        have : Int.tdiv (n : Int) 10 = ((n / 10 : Nat) : Int) := (Int.ofNat_tdiv n 10).symm
        rw [this]
        unfold wrap64
        omega
      rw [e]
      have h3 : n / 10 < 10 ^ (k + 1) := by
        rw [Nat.div_lt_iff_lt_mul (by omega)]
        rw [← Nat.pow_succ]
        exact h
      obtain ⟨r, hr, hrs⟩ := ih (n / 10) (strOfNums [wrap64 (48 + Int.tmod (n : Int) 10) % 256] ++ s) h3 (by omega) (by rw [ByteArray.size_append, h1]; omega)
      refine ⟨r, hr, ?_⟩
      rw [ByteArray.size_append, h1] at hrs
      omega
    · rw [if_neg h9]
      simp only [Option.bind_some]
      have h1 := one_size (wrap64 (48 + (n : Int)) % 256)
      rw [if_pos (by omega), if_pos (by rw [ByteArray.size_append, h1]; show ((1 + 1 : Nat) : Nat) + s.size ≤ _; omega)]
      refine ⟨_, rfl, ?_⟩
      rw [ByteArray.size_append, ByteArray.size_append, h1]
      show 1 + 1 + s.size ≤ _
      omega
def numOf (n : Nat) : ByteArray := (lemmalaw02_numbered.f 14 (n : Int)).getD ByteArray.empty
theorem num_some {n : Nat} (h : n ≤ 4398046511104) : lemmalaw02_numbered.f 14 (n : Int) = some (numOf n) := by
  obtain ⟨r, hr, _⟩ := num_l0 13 n ⟨#[]⟩ (by omega) h (by decide)
  have : lemmalaw02_numbered.f 14 (n : Int) = some r := hr
  unfold numOf
  rw [this]
  rfl
theorem num_any {w : World} {n : Nat} (h : n ≤ 4398046511104) : Calls Tryd.prog 30 #[.int .i64 (n : Int)] w fun e w' => e = .returned (.string (numOf n)) ∧ Below w.heap.size w w' :=
  lemmalaw02_numbered.calls 14 _ _ w (num_some h)

/-! ### the calls -/
section
variable {W w w' : World} {rs : List Res} {p g : Nat} {T : Tab}
theorem labels_own {fp : Nat → Prop} (h : TabIs w p g T fp) :
    Calls Tryd.prog 29 #[.pointer (some ⟨p, 0, none⟩)] w fun e w' => ∃ v', e = .returned v' ∧ w'.ownsRow w.heap.size 9 1 v' T.labels.length (T.labels.map Value.string) ∧ Turns None w w' := by
  obtain ⟨hw, ⟨vs, bn, ba, vc, bt, vl, vals⟩, h, _⟩ := h
  have hl := hw.labels
  have hcl := clone_calls h.labels (by omega)
  obtain ⟨A, cap, e, _⟩ := row_slice h.labels
  simp only at e hcl
  subst e
  have c5 := (cell_at h.cells 5).1
  simp only [List.getElem?_toArray, List.getElem?_cons_zero, List.getElem?_cons_succ] at c5
  clear h hl hw
  go_enter Tryd.func29, Tryd.ntmps29
  go_wp2_with fail
  refine hcl.mono ?_
  rintro e w' ⟨v', rfl, ho, ht⟩
  have Ho := Aside0.mk ho
  have Ht := Aside0.mk ht
  clear ho ht c5
  go_wp2_with fail
  go_ret
  exact ⟨_, rfl, Ho.out, Ht.out⟩
theorem owns_zero {b e size n : Nat} {v : Value} {xs : List Value} (h : w.ownsRow b e size v n xs) : w.ownsRow 0 e size v n xs := by
  refine ⟨h.1, ?_⟩
  rcases h.2 with h2 | ⟨g, cap, cur, e1, hb, r⟩
  · exact .inl h2
  · exact .inr ⟨g, cap, cur, e1, Nat.zero_le _, r⟩
theorem s_labels (h : Sep W w (tabR p g T :: rs)) : Calls Tryd.prog 29 #[.pointer (some ⟨p, 0, none⟩)] w fun e w' => ∃ A c, e = .returned (.slice A T.labels.length c) ∧ T.labels.length ≤ c ∧ Sep W w' (rowR 9 1 (.slice A T.labels.length c) T.labels.length (T.labels.map Value.string) :: tabR p g T :: rs) := by
  obtain ⟨F1, h1, _⟩ := h.head
  refine (labels_own h1).mono fun e w' ⟨v', he, ho, ht⟩ => ?_
  obtain ⟨A, c, rfl, hc⟩ := row_slice ho
  exact ⟨A, c, he, hc, h.fresh (f := fun k => w.heap.size ≤ k) ht ⟨owns_zero ho, fun k hk => (ho.lt k hk).1⟩ (fun _ hk => hk)⟩
theorem s_wf (h : Sep W w (tabR p g T :: rs)) : WF T := by
  obtain ⟨F1, h1, _⟩ := h.head
  exact h1.1
theorem s_blanks (h : Sep W w rs) (hb : Blanks W) : Blanks w := hb.move (h.1.block 0 hb.lt)
theorem s_does (hb : Blanks W) (h : Sep W w (tabR p g T :: rs)) (x : OpRec) (hs : x.s.size ≤ maxLen) (hg : g + 2 < maxLen) :
    Calls Tryd.prog 14 #[.pointer (some ⟨p, 0, none⟩), .agg #[.int .i64 x.k, .string x.s, .int .i64 x.n]] w fun e w' => e = .returned (.tuple #[]) ∧ Sep W w' (tabR p (g + 2) (doT T x.k x.s) :: rs) :=
  h.calls fun F1 h1 => does_calls (s_blanks h hb) h1 x.k x.s x.n hs hg
theorem s_label (h : Sep W w (tabR p g T :: rs)) {s : ByteArray} (hs : s.size ≤ maxLen) (hg : g + 2 < maxLen) {T' : Tab} {c : Nat} (hc : labelT T s = (T', c)) :
    Calls Tryd.prog 25 #[.pointer (some ⟨p, 0, none⟩), .string s] w fun e w' => e = .returned (.int .i64 (c : Int)) ∧ Sep W w' (tabR p (g + 2) T' :: rs) := by
  refine h.calls fun F1 h1 => ?_
  have := label_api h1 s hs hg
  rw [hc] at this
  exact this
theorem s_row_C {l : List ByteArray} {v : Value} (h : Sep W w (rowR 9 1 v l.length (l.map Value.string) :: rs)) : ∃ A c, v = .slice A l.length c ∧ l.length ≤ c ∧ Kd.C Kd.string w A l.length l :=
  Kd.R_reads (Kd.R_of_own (enc := Value.string) (h1 := fun _ => rfl) (ok := fun _ => True) h.row (fun _ _ => trivial))
end

/-! ### the lists that are kept -/
def Marked (w : World) (v : Value) (s : ByteArray) (n : Nat) (f : Nat → Prop) : Prop := RowAt w 9 1 v n (List.replicate n (.string s)) f
def OldAt (w : World) (vs gs : List Value) (f : Nat → Prop) : Prop :=
  ∀ (k : Nat) (v : Value), (vs[k]? = some v → ∃ n, Marked w v (numOf k) n f) ∧ (gs[k]? = some v → ∃ n, Marked w v (numOf k) n f)
theorem Marked.move {w w' : World} {v : Value} {s : ByteArray} {n : Nat} {f : Nat → Prop} (h : Marked w v s n f) (hm : ∀ k, f k → w'.heap[k]? = w.heap[k]?) : Marked w' v s n f := ⟨own_move h.1 (fun k hk => hm k (h.2 k hk)), h.2⟩
theorem Marked.mono {w : World} {v : Value} {s : ByteArray} {n : Nat} {f g : Nat → Prop} (h : Marked w v s n f) (hm : ∀ k, f k → g k) : Marked w v s n g := ⟨h.1, fun k hk => hm k (h.2 k hk)⟩
def oldR (vs gs : List Value) : Res :=
  ⟨fun w f => OldAt w vs gs f,
   fun h hm k v => ⟨fun hv => (by obtain ⟨n, hn⟩ := (h k v).1 hv; exact ⟨n, hn.move hm⟩), fun hv => (by obtain ⟨n, hn⟩ := (h k v).2 hv; exact ⟨n, hn.move hm⟩)⟩,
   fun h hm k v => ⟨fun hv => (by obtain ⟨n, hn⟩ := (h k v).1 hv; exact ⟨n, hn.mono hm⟩), fun hv => (by obtain ⟨n, hn⟩ := (h k v).2 hv; exact ⟨n, hn.mono hm⟩)⟩,
   fun h k v => ⟨fun hv => (by obtain ⟨n, hn⟩ := (h k v).1 hv; exact ⟨n, hn.1, fun j hj => ⟨hn.2 j hj, (hn.1.lt j hj).2⟩⟩), fun hv => (by obtain ⟨n, hn⟩ := (h k v).2 hv; exact ⟨n, hn.1, fun j hj => ⟨hn.2 j hj, (hn.1.lt j hj).2⟩⟩)⟩⟩
/-- A list and the same lengthened: they may share their memory. -/
def bothR (v v' : Value) (s : ByteArray) (n : Nat) : Res :=
  ⟨fun w f => Marked w v s n f ∧ Marked w v' s (n + 2) f, fun h hm => ⟨h.1.move hm, h.2.move hm⟩, fun h hm => ⟨h.1.mono hm, h.2.mono hm⟩,
   fun h => ⟨⟨h.1.1, fun j hj => ⟨h.1.2 j hj, (h.1.1.lt j hj).2⟩⟩, ⟨h.2.1, fun j hj => ⟨h.2.2 j hj, (h.2.1.lt j hj).2⟩⟩⟩⟩
theorem old_more {W w : World} {rs : List Res} {vs gs : List Value} {v v' : Value} {n : Nat} (hl : vs.length = gs.length) (h : Sep W w (bothR v v' (numOf vs.length) n :: oldR vs gs :: rs)) : Sep W w (oldR (vs ++ [v]) (gs ++ [v']) :: rs) := by
  refine h.join fun f g hf hg => ?_
  have key : ∀ (us : List Value) (u : Value), us.length = vs.length → (∃ m, Marked w u (numOf vs.length) m f) → (∀ (k : Nat) (x : Value), us[k]? = some x → ∃ m, Marked w x (numOf k) m g) → ∀ (k : Nat) (x : Value), (us ++ [u])[k]? = some x → ∃ m, Marked w x (numOf k) m (fun k => f k ∨ g k) := by
    intro us u hlen hu hus k x hx
    rw [List.getElem?_append] at hx
    split at hx
    · obtain ⟨m, hm⟩ := hus k x hx
      exact ⟨m, hm.mono (fun _ h => .inr h)⟩
    · rename_i hk
      have hk0 : k - us.length = 0 := by
        have := (List.getElem?_eq_some_iff.1 hx).1
        simpa using this
      have hk2 : k = vs.length := by omega
      rw [hk0] at hx
      have : x = u := by simpa using hx.symm
      subst this
      obtain ⟨m, hm⟩ := hu
      rw [hk2]
      exact ⟨m, hm.mono (fun _ h => .inl h)⟩
  intro k x
  exact ⟨key vs v rfl ⟨n, hf.1⟩ (fun k x => (hg k x).1) k x, key gs v' hl.symm ⟨n + 2, hf.2⟩ (fun k x => (hg k x).2) k x⟩
end Go.Proofs.YtpoojimmponklaaDoor.SymMemoryPure
