/- Vars, as the program and as the document finds them: the same rising list. -/
namespace Go.Proofs.YtpoojimmponklaaDoor.KeepsPure

/-- Rising, and just the elements of e that V names. -/
structure Picks (V : Int → Bool) (e out : List Int) : Prop where
  rising : out.Pairwise (· < ·)
  mem : ∀ x, x ∈ out ↔ x ∈ e ∧ V x = true
theorem rising_ext : ∀ (a b : List Int), a.Pairwise (· < ·) → b.Pairwise (· < ·) → (∀ x, x ∈ a ↔ x ∈ b) → a = b
  | [], [], _, _, _ => rfl
  | [], y :: b, _, _, h => absurd ((h y).2 (List.mem_cons_self ..)) (by simp)
  | x :: a, [], _, _, h => absurd ((h x).1 (List.mem_cons_self ..)) (by simp)
  | x :: a, y :: b, ha, hb, h => by
    rw [List.pairwise_cons] at ha hb
    have hxy : x = y := by
      have h1 := (h x).1 (List.mem_cons_self ..)
      have h2 := (h y).2 (List.mem_cons_self ..)
      rcases List.mem_cons.1 h1 with e | e
      · exact e
      · rcases List.mem_cons.1 h2 with e2 | e2
        · exact e2.symm
        · have := hb.1 x e
          have := ha.1 y e2
          omega
    subst hxy
    have htl : a = b := rising_ext a b ha.2 hb.2 (fun z => by
      have hz := h z
      simp only [List.mem_cons] at hz
      constructor
      · intro hm
        have hlt := ha.1 z hm
        rcases hz.1 (.inr hm) with e | e
        · omega
        · exact e
      · intro hm
        have hlt := hb.1 z hm
        rcases hz.2 (.inr hm) with e | e
        · omega
        · exact e)
    rw [htl]
theorem picks_eq {V : Int → Bool} {e a b : List Int} (ha : Picks V e a) (hb : Picks V e b) : a = b :=
  rising_ext a b ha.rising hb.rising (fun x => (ha.mem x).trans (hb.mem x).symm)

/-! ### the program's way -/
def ins (out : List Int) (x : Int) : List Int := out.take (out.countP (· < x)) ++ x :: out.drop (out.countP (· < x))
theorem cut_at (x : Int) : ∀ (l : List Int), l.Pairwise (· < ·) → l.take (l.countP (· < x)) = l.filter (· < x) ∧ l.drop (l.countP (· < x)) = l.filter (fun y => !decide (y < x))
  | [], _ => by simp
  | a :: l, h => by
    rw [List.pairwise_cons] at h
    obtain ⟨h1, h2⟩ := cut_at x l h.2
    by_cases hax : a < x
    · have hc : (a :: l).countP (· < x) = l.countP (· < x) + 1 := by rw [List.countP_cons]; simp [hax]
      rw [hc]
      simp only [List.take_succ_cons, List.drop_succ_cons, List.filter_cons, hax, decide_true, if_true, Bool.not_true, Bool.false_eq_true, if_false]
      exact ⟨by rw [h1], h2⟩
    · have hall : ∀ y ∈ l, ¬ y < x := fun y hy => by have := h.1 y hy; omega
      have hc : (a :: l).countP (· < x) = 0 := by
        rw [List.countP_eq_zero]
        intro y hy
        rcases List.mem_cons.1 hy with e | e
        · subst e; simpa using hax
        · simpa using hall y e
      have hf : l.filter (· < x) = [] := by
        rw [List.filter_eq_nil_iff]
        intro y hy
        simpa using hall y hy
      have hf2 : l.filter (fun y => !decide (y < x)) = l := by
        rw [List.filter_eq_self]
        intro y hy
        simpa using hall y hy
      rw [hc]
      simp only [List.take_zero, List.drop_zero, List.filter_cons, hax, decide_false, Bool.false_eq_true, if_false, Bool.not_false, if_true]
      exact ⟨hf.symm, by rw [hf2]⟩
theorem ins_mem {out : List Int} {x : Int} : ∀ y, y ∈ ins out x ↔ y = x ∨ y ∈ out := by
  intro y
  unfold ins
  have e : ∀ n, y ∈ out.take n ++ x :: out.drop n ↔ y = x ∨ y ∈ out := fun n => by
    rw [List.mem_append, List.mem_cons]
    have : y ∈ out ↔ y ∈ out.take n ∨ y ∈ out.drop n := by rw [← List.mem_append, List.take_append_drop]
    rw [this]
    constructor
    · rintro (h | h | h)
      · exact .inr (.inl h)
      · exact .inl h
      · exact .inr (.inr h)
    · rintro (h | h | h)
      · exact .inr (.inl h)
      · exact .inl h
      · exact .inr (.inr h)
  exact e _
theorem ins_rising {out : List Int} {x : Int} (h : out.Pairwise (· < ·)) (hx : x ∉ out) : (ins out x).Pairwise (· < ·) := by
  unfold ins
  obtain ⟨h1, h2⟩ := cut_at x out h
  rw [h1, h2, List.pairwise_append, List.pairwise_cons]
  refine ⟨h.sublist List.filter_sublist, ⟨fun y hy => ?_, h.sublist List.filter_sublist⟩, fun a ha b hb => ?_⟩
  · have hy' := List.mem_filter.1 hy
    have : ¬ y < x := by simpa using hy'.2
    have hne : y ≠ x := fun e => hx (e ▸ hy'.1)
    omega
  · have ha' := List.mem_filter.1 ha
    have h3 : a < x := by simpa using ha'.2
    rcases List.mem_cons.1 hb with e | e
    · subst e; exact h3
    · have hb' := List.mem_filter.1 e
      have : ¬ b < x := by simpa using hb'.2
      omega
def step (V : Int → Bool) (out : List Int) (x : Int) : List Int := if out.contains x then out else if V x then ins out x else out
theorem picks_nil (V : Int → Bool) : Picks V [] [] := ⟨List.Pairwise.nil, by simp⟩
theorem picks_step {V : Int → Bool} {e out : List Int} (h : Picks V e out) (x : Int) : Picks V (e ++ [x]) (step V out x) := by
  unfold step
  split
  · rename_i hc
    have hx : x ∈ out := by simpa using hc
    refine ⟨h.rising, fun y => ?_⟩
    rw [h.mem, List.mem_append, List.mem_singleton]
    constructor
    · rintro ⟨a, b⟩; exact ⟨.inl a, b⟩
    · rintro ⟨a | a, b⟩
      · exact ⟨a, b⟩
      · subst a; exact (h.mem y).1 hx
  · rename_i hc
    have hx : x ∉ out := by simpa using hc
    split
    · rename_i hv
      refine ⟨ins_rising h.rising hx, fun y => ?_⟩
      rw [ins_mem, h.mem, List.mem_append, List.mem_singleton]
      constructor
      · rintro (a | ⟨a, b⟩)
        · subst a; exact ⟨.inr rfl, hv⟩
        · exact ⟨.inl a, b⟩
      · rintro ⟨a | a, b⟩
        · exact .inr ⟨a, b⟩
        · exact .inl a
    · rename_i hv
      refine ⟨h.rising, fun y => ?_⟩
      rw [h.mem, List.mem_append, List.mem_singleton]
      constructor
      · rintro ⟨a, b⟩; exact ⟨.inl a, b⟩
      · rintro ⟨a | a, b⟩
        · exact ⟨a, b⟩
        · subst a; exact absurd b hv
theorem ins_length (out : List Int) (x : Int) : (ins out x).length = out.length + 1 := by
  unfold ins
  rw [List.length_append, List.length_cons, List.length_take, List.length_drop]
  have := List.countP_le_length (p := fun y => decide (y < x)) (l := out)
  omega

/-! ### the document's way -/
/-- out: rising, of e and V; what is in e and V and at most its last is in it. -/
structure Upto (V : Int → Bool) (e out : List Int) : Prop where
  rising : out.Pairwise (· < ·)
  sub : ∀ x, x ∈ out → x ∈ e ∧ V x = true
  all : ∀ x, x ∈ e → V x = true → (∃ l, out.getLast? = some l ∧ x ≤ l) → x ∈ out
def cand (V : Int → Bool) (out : List Int) (x : Int) : Prop := V x = true ∧ ∀ l, out.getLast? = some l → l < x
theorem upto_nil (V : Int → Bool) (e : List Int) : Upto V e [] := ⟨List.Pairwise.nil, by simp, by simp⟩
theorem upto_done {V : Int → Bool} {e out : List Int} (h : Upto V e out) (hn : ∀ x, x ∈ e → ¬ cand V out x) : Picks V e out := by
  refine ⟨h.rising, fun x => ⟨h.sub x, fun ⟨a, b⟩ => ?_⟩⟩
  refine h.all x a b ?_
  cases hl : out.getLast? with
  | none => exact absurd ⟨b, fun l hl2 => by rw [hl] at hl2; cases hl2⟩ (hn x a)
  | some l =>
    refine ⟨l, rfl, ?_⟩
    have := hn x a
    unfold cand at this
    rcases Int.lt_or_le l x with g | g
    · exact absurd ⟨b, fun l' hl' => by rw [hl] at hl'; cases hl'; exact g⟩ this
    · exact g
theorem upto_more {V : Int → Bool} {e out : List Int} (h : Upto V e out) {x : Int} (hx : x ∈ e) (hc : cand V out x) (hmin : ∀ y, y ∈ e → cand V out y → x ≤ y) : Upto V e (out ++ [x]) := by
  obtain ⟨hv, hl⟩ := hc
  have hlt : ∀ y ∈ out, y < x := by
    intro y hy
    rcases List.eq_nil_or_concat out with e1 | ⟨a, b, e1⟩
    · rw [e1] at hy; cases hy
    · rw [List.concat_eq_append] at e1
      have h1 := hl b (by rw [e1]; simp)
      have h2 := h.rising
      rw [e1, List.pairwise_append] at h2
      rw [e1] at hy
      rcases List.mem_append.1 hy with g | g
      · have := h2.2.2 y g b (by simp); omega
      · simp only [List.mem_singleton] at g; omega
  refine ⟨?_, ?_, ?_⟩
  · rw [List.pairwise_append]
    exact ⟨h.rising, by simp, fun a ha b hb => by simp only [List.mem_singleton] at hb; subst hb; exact hlt a ha⟩
  · intro y hy
    rcases List.mem_append.1 hy with g | g
    · exact h.sub y g
    · simp only [List.mem_singleton] at g
      subst g
      exact ⟨hx, hv⟩
  · rintro y hy hvy ⟨l, hlast, hle⟩
    rw [List.getLast?_append] at hlast
    simp at hlast
    subst hlast
    rw [List.mem_append, List.mem_singleton]
    by_cases hcy : cand V out y
    · have := hmin y hy hcy
      right
      omega
    · left
      refine h.all y hy hvy ?_
      cases hlo : out.getLast? with
      | none => exact absurd ⟨hvy, fun l hl2 => by rw [hlo] at hl2; cases hl2⟩ hcy
      | some l =>
        refine ⟨l, rfl, ?_⟩
        rcases Int.lt_or_le l y with g | g
        · exact absurd ⟨hvy, fun l' hl' => by rw [hlo] at hl'; cases hl'; exact g⟩ hcy
        · exact g
/-- A rising list of elements of e is no longer than e. -/
theorem rising_len : ∀ (out e : List Int), out.Pairwise (· < ·) → (∀ x, x ∈ out → x ∈ e) → out.length ≤ e.length
  | [], _, _, _ => Nat.zero_le _
  | x :: out, e, h, hs => by
    rw [List.pairwise_cons] at h
    have hx := hs x (List.mem_cons_self ..)
    have h2 := rising_len out (e.erase x) h.2 (fun y hy => by
      have hne : y ≠ x := fun e2 => by have := h.1 y hy; omega
      exact (List.mem_erase_of_ne hne).2 (hs y (List.mem_cons_of_mem _ hy)))
    have h3 := List.length_erase_of_mem hx
    have h4 : 0 < e.length := List.length_pos_of_mem hx
    simp only [List.length_cons]
    omega
end Go.Proofs.YtpoojimmponklaaDoor.KeepsPure
