/- Sorting by a key, in plain words: insertion, and what an insertion sort gives. -/

set_option linter.all false

namespace Go.AM

/-- A list with one element more, behind all that are not greater. -/
def insK (key : Int → Int) (x : Int) (S : List Int) : List Int := S.filter (fun y => decide (key y ≤ key x)) ++ x :: S.filter (fun y => decide (key x < key y))
def sortK (key : Int → Int) (l : List Int) : List Int := l.foldl (fun S x => insK key x S) []
def KSorted (key : Int → Int) (l : List Int) : Prop := l.Pairwise fun a b => key a ≤ key b

theorem sortK_nil (key : Int → Int) : sortK key [] = [] := rfl
theorem sortK_snoc (key : Int → Int) (l : List Int) (x : Int) : sortK key (l ++ [x]) = insK key x (sortK key l) := by simp [sortK, List.foldl_append]
theorem filter_len (p : Int → Bool) (S : List Int) : (S.filter p).length + (S.filter fun y => !p y).length = S.length := by
  induction S with
  | nil => rfl
  | cons a r ih => cases h : p a <;> simp [List.filter_cons, h] <;> omega
theorem insK_len (key : Int → Int) (x : Int) (S : List Int) : (insK key x S).length = S.length + 1 := by
  have h := filter_len (fun y => decide (key y ≤ key x)) S
  have e : (fun y => !decide (key y ≤ key x)) = fun y => decide (key x < key y) := by funext y; by_cases h : key y ≤ key x <;> simp [h] <;> omega
  rw [e] at h
  simp only [insK, List.length_append, List.length_cons]
  omega
theorem mem_insK {key : Int → Int} {x y : Int} {S : List Int} : y ∈ insK key x S ↔ y = x ∨ y ∈ S := by
  unfold insK
  simp only [List.mem_append, List.mem_cons, List.mem_filter, decide_eq_true_eq]
  constructor
  · rintro (h | h | h)
    · exact .inr h.1
    · exact .inl h
    · exact .inr h.1
  · rintro (h | h)
    · exact .inr (.inl h)
    · by_cases hk : key y ≤ key x
      · exact .inl ⟨h, hk⟩
      · exact .inr (.inr ⟨h, by omega⟩)
theorem sortK_len (key : Int → Int) (l : List Int) : (sortK key l).length = l.length := by
  have : ∀ (l : List Int) (S : List Int), (l.foldl (fun S x => insK key x S) S).length = S.length + l.length := fun l => by
    induction l with
    | nil => intro S; simp
    | cons a r ih => intro S; simp only [List.foldl_cons, ih, insK_len, List.length_cons]; omega
  have h := this l []
  rw [List.length_nil, Nat.zero_add] at h
  exact h
theorem mem_sortK {key : Int → Int} {l : List Int} {y : Int} : y ∈ sortK key l ↔ y ∈ l := by
  have : ∀ (l : List Int) (S : List Int), y ∈ l.foldl (fun S x => insK key x S) S ↔ y ∈ S ∨ y ∈ l := fun l => by
    induction l with
    | nil => intro S; simp
    | cons a r ih => intro S; simp only [List.foldl_cons, ih, mem_insK, List.mem_cons]; exact ⟨fun h => by rcases h with (h | h) | h; exact .inr (.inl h); exact .inl h; exact .inr (.inr h), fun h => by rcases h with h | h | h; exact .inl (.inr h); exact .inl (.inl h); exact .inr h⟩
  have h := this l []
  simp only [List.not_mem_nil, false_or] at h
  exact h
theorem insK_sorted {key : Int → Int} {x : Int} {S : List Int} (h : KSorted key S) : KSorted key (insK key x S) := by
  unfold KSorted insK
  rw [List.pairwise_append, List.pairwise_cons]
  refine ⟨h.filter _, ⟨fun y hy => ?_, h.filter _⟩, fun a ha b hb => ?_⟩
  · have := (List.mem_filter.1 hy).2
    simp at this; omega
  · have h1 := (List.mem_filter.1 ha).2
    simp at h1
    rcases List.mem_cons.1 hb with rfl | hb
    · exact h1
    · have h2 := (List.mem_filter.1 hb).2
      simp at h2; omega
theorem sortK_sorted (key : Int → Int) (l : List Int) : KSorted key (sortK key l) := by
  have : ∀ (l : List Int) (S : List Int), KSorted key S → KSorted key (l.foldl (fun S x => insK key x S) S) := fun l => by
    induction l with
    | nil => intro S h; exact h
    | cons a r ih => intro S h; exact ih _ (insK_sorted h)
  exact this l [] List.Pairwise.nil

/-- Where an element is put into a list in order. -/
theorem insK_at {key : Int → Int} {x : Int} {S : List Int} {j : Nat} (h1 : ∀ y ∈ S.take j, key y ≤ key x) (h2 : ∀ y ∈ S.drop j, key x < key y) : insK key x S = S.take j ++ x :: S.drop j := by
  have e1 : S.filter (fun y => decide (key y ≤ key x)) = S.take j := by
    conv => lhs; rw [← List.take_append_drop j S]
    rw [List.filter_append, List.filter_eq_self.2 (fun y hy => by simpa using h1 y hy), List.filter_eq_nil_iff.2 (fun y hy => by have := h2 y hy; simp; omega), List.append_nil]
  have e2 : S.filter (fun y => decide (key x < key y)) = S.drop j := by
    conv => lhs; rw [← List.take_append_drop j S]
    rw [List.filter_append, List.filter_eq_nil_iff.2 (fun y hy => by have := h1 y hy; simp; omega), List.filter_eq_self.2 (fun y hy => by simpa using h2 y hy), List.nil_append]
  unfold insK
  rw [e1, e2]

/-- By key, and where keys are equal by number. -/
def Lex (key : Int → Int) (a b : Int) : Prop := key a < key b ∨ (key a = key b ∧ a < b)
theorem insK_lex {key : Int → Int} {x : Int} {S : List Int} (h : S.Pairwise (Lex key)) (hx : ∀ y ∈ S, y < x) : (insK key x S).Pairwise (Lex key) := by
  unfold insK
  rw [List.pairwise_append, List.pairwise_cons]
  refine ⟨h.filter _, ⟨fun y hy => ?_, h.filter _⟩, fun a ha b hb => ?_⟩
  · have := (List.mem_filter.1 hy).2
    simp at this; exact .inl this
  · have h1 := List.mem_filter.1 ha
    have h3 := h1.2
    simp at h3
    rcases List.mem_cons.1 hb with rfl | hb
    · have := hx a h1.1
      unfold Lex; omega
    · have h2 := (List.mem_filter.1 hb).2
      simp at h2; exact .inl (by omega)
theorem sortK_lex {key : Int → Int} : ∀ {l : List Int}, l.Pairwise (· < ·) → (sortK key l).Pairwise (Lex key) := fun {l} hl => by
  have : ∀ (l S : List Int), l.Pairwise (· < ·) → S.Pairwise (Lex key) → (∀ y ∈ S, ∀ x ∈ l, y < x) → (l.foldl (fun S x => insK key x S) S).Pairwise (Lex key) := fun l => by
    induction l with
    | nil => intro S _ h _; exact h
    | cons a r ih =>
      intro S hl hS hlt
      obtain ⟨h1, h2⟩ := List.pairwise_cons.1 hl
      refine ih _ h2 (insK_lex hS fun y hy => hlt y hy a (by simp)) fun y hy x hx => ?_
      rcases mem_insK.1 hy with rfl | hy
      · exact h1 x hx
      · exact hlt y hy x (by simp [hx])
  exact this l [] hl List.Pairwise.nil (by simp)

/-- Lists that an order without cycles runs through are told by their members. -/
theorem rel_ext {R : Int → Int → Prop} (hR : ∀ a b, R a b → ¬ R b a ∧ a ≠ b) : ∀ {l m : List Int}, l.Pairwise R → m.Pairwise R → (∀ x, x ∈ l ↔ x ∈ m) → l = m
  | [], [], _, _, _ => rfl
  | [], b :: m, _, _, h => absurd ((h b).2 (by simp)) (by simp)
  | a :: l, [], _, _, h => absurd ((h a).1 (by simp)) (by simp)
  | a :: l, b :: m, hl, hm, h => by
    obtain ⟨l1, l2⟩ := List.pairwise_cons.1 hl
    obtain ⟨m1, m2⟩ := List.pairwise_cons.1 hm
    have hab : a = b := Classical.byContradiction fun hne => by
      have h1 : a ∈ m := by
        rcases List.mem_cons.1 ((h a).1 (by simp)) with e | e
        · exact absurd e hne
        · exact e
      have h2 : b ∈ l := by
        rcases List.mem_cons.1 ((h b).2 (by simp)) with e | e
        · exact absurd e.symm hne
        · exact e
      exact (hR _ _ (l1 b h2)).1 (m1 a h1)
    subst hab
    congr 1
    refine rel_ext hR l2 m2 fun x => ?_
    constructor
    · intro hx
      rcases List.mem_cons.1 ((h x).1 (by simp [hx])) with e | e
      · exact absurd e.symm (hR _ _ (l1 x hx)).2
      · exact e
    · intro hx
      rcases List.mem_cons.1 ((h x).2 (by simp [hx])) with e | e
      · exact absurd e.symm (hR _ _ (m1 x hx)).2
      · exact e
theorem lex_acyc {key : Int → Int} (a b : Int) (h : Lex key a b) : ¬ Lex key b a ∧ a ≠ b := by
  unfold Lex at *
  refine ⟨by omega, fun e => ?_⟩
  subst e; omega
theorem sortK_eq {key : Int → Int} {l m : List Int} (hl : l.Pairwise (· < ·)) (hm : m.Pairwise (Lex key)) (h : ∀ x, x ∈ l ↔ x ∈ m) : sortK key l = m :=
  rel_ext lex_acyc (sortK_lex hl) hm fun x => by rw [mem_sortK]; exact h x
/-- Where no two keys are equal, no matter in which order the list was. -/
theorem sortK_inj {key : Int → Int} {l m : List Int} (hn : l.Nodup) (hi : ∀ a ∈ l, ∀ b ∈ l, key a = key b → a = b) (hm : m.Pairwise fun a b => key a < key b) (h : ∀ x, x ∈ l ↔ x ∈ m) : sortK key l = m := by
  have : ∀ (l S : List Int), (∀ a ∈ S ++ l, ∀ b ∈ S ++ l, key a = key b → a = b) → (S ++ l).Nodup → S.Pairwise (fun a b => key a < key b) → (l.foldl (fun S x => insK key x S) S).Pairwise fun a b => key a < key b := fun l => by
    induction l with
    | nil => intro S _ _ h; exact h
    | cons a r ih =>
      intro S hi hn hS
      have hna : ∀ y ∈ S, y ≠ a := fun y hy e => by
        subst e
        exact (List.nodup_append.1 hn).2.2 y hy y (by simp) rfl
      have hperm : (insK key a S ++ r).Perm (S ++ a :: r) := by
        have h0 : (insK key a S).Perm (a :: S) := by
          unfold insK
          refine List.perm_middle.trans (List.Perm.cons a ?_)
          have e : (fun y => decide (key a < key y)) = fun y => !decide (key y ≤ key a) := by funext y; by_cases h : key y ≤ key a <;> simp [h] <;> omega
          rw [e]
          exact List.filter_append_perm _ S
        exact (h0.append_right r).trans (by simpa using (List.perm_middle (l₁ := S) (l₂ := r) (a := a)).symm)
      refine ih _ (fun x hx y hy => hi x (hperm.mem_iff.1 hx) y (hperm.mem_iff.1 hy)) (hperm.nodup_iff.2 hn) ?_
      unfold insK
      rw [List.pairwise_append, List.pairwise_cons]
      refine ⟨hS.filter _, ⟨fun y hy => by have := (List.mem_filter.1 hy).2; simpa using this, hS.filter _⟩, fun x hx y hy => ?_⟩
      have h1 := List.mem_filter.1 hx
      have h3 := h1.2
      simp at h3
      rcases List.mem_cons.1 hy with rfl | hy
      · have := hi x (by simp [h1.1]) y (by simp)
        have := hna x h1.1
        rcases Int.lt_or_eq_of_le h3 with h | h
        · exact h
        · exact absurd (hi x (by simp [h1.1]) y (by simp) h) this
      · have h2 := (List.mem_filter.1 hy).2
        simp at h2; omega
  refine rel_ext (R := fun a b => key a < key b) (fun a b h => ⟨by omega, fun e => by subst e; omega⟩) (this l [] (by simpa using hi) (by simpa using hn) List.Pairwise.nil) hm fun x => ?_
  rw [← h]
  exact mem_sortK
end Go.AM
