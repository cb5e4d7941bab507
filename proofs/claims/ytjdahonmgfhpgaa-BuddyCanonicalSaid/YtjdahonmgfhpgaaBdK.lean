/- Check, in plain words: what its answer 0 means. -/
import Derived.Test.YtjdahonmgfhpgaaBd10
set_option linter.all false

namespace Go.AM
open Go

theorem sorted_adj {l : List Int} (h : ∀ i, 0 < i → i < l.length → gi l (i - 1) < gi l i) : Sorted l := by
  have key : ∀ d i, i + d + 1 < l.length → gi l i < gi l (i + d + 1) := by
    intro d
    induction d with
    | zero => intro i hi; have := h (i + 1) (by omega) hi; simpa using this
    | succ d ih =>
      intro i hi
      have h1 := ih i (by omega)
      have h2 := h (i + (d + 1) + 1) (by omega) hi
      rw [show i + (d + 1) + 1 - 1 = i + d + 1 by omega] at h2
      omega
  unfold Sorted
  rw [List.pairwise_iff_getElem]
  intro i j hi hj hij
  have := key (j - i - 1) i (by omega)
  rw [show i + (j - i - 1) + 1 = j by omega, gi_eq hi, gi_eq hj] at this
  exact this

theorem orderOK.sorted {z : Zn} (h : orderOK z) {k : Nat} (hk : k ≤ 4) : Sorted (z.fr k) :=
  sorted_adj fun i h0 hi => (badAt_zero (h k i hk hi)).2 h0
theorem orderOK.inside {z : Zn} (h : orderOK z) {k : Nat} {f : Int} (hk : k ≤ 4) (hf : f ∈ z.fr k) : insideZ z f k := by
  obtain ⟨i, hi, rfl⟩ := gi_of_mem hf
  exact (badAt_zero (h k i hk hi)).1

theorem orderOK_iff {z : Zn} : orderOK z ↔ formErr z = 0 := by
  constructor
  · exact formErr_none
  · intro h
    refine Classical.byContradiction fun hn => ?_
    have : ∃ k i, k ≤ 4 ∧ i < (z.fr k).length ∧ badAt z k i ≠ 0 := by
      refine Classical.byContradiction fun h2 => hn fun k i hk hi => Classical.byContradiction fun h3 => h2 ⟨k, i, hk, hi, h3⟩
    obtain ⟨k, hk1⟩ := least (p := fun k => ∃ i, k ≤ 4 ∧ i < (z.fr k).length ∧ badAt z k i ≠ 0) this
    obtain ⟨i, hi1⟩ := least (p := fun i => k ≤ 4 ∧ i < (z.fr k).length ∧ badAt z k i ≠ 0) hk1.1
    have hf : IsFirst z k i := ⟨hi1.1.1, hi1.1.2.1, hi1.1.2.2, fun k' i' hk' hi' => Classical.byContradiction fun h3 => by
        have := hk1.2 k' ⟨i', by have := hi1.1.1; omega, hi', h3⟩
        omega, fun i' hi' => Classical.byContradiction fun h3 => by
        have := hi1.2 i' ⟨hi1.1.1, by have := hi1.1.2.1; omega, h3⟩
        omega⟩
    rw [formErr_first hf] at h
    exact hf.bad h

theorem Sorted.lt_iff {l : List Int} (hs : Sorted l) {i j : Nat} (hi : i < l.length) (hj : j < l.length) : gi l i < gi l j ↔ i < j := by
  constructor
  · intro h
    rcases Nat.lt_trichotomy i j with c | rfl | c
    · exact c
    · omega
    · have := sorted_lt hs c hi; omega
  · intro h; exact sorted_lt hs h hj

/-- Partners stand side by side. -/
theorem joinable_iff {z : Zn} (h : orderOK z) : joinable z ↔ ∃ k i, k < 4 ∧ i + 1 < (z.fr k).length ∧ gi (z.fr k) (i + 1) = gi (z.fr k) i + 2 ^ k ∧ insideZ z (gi (z.fr k) i) (k + 1) := by
  constructor
  · rintro ⟨k, f, hk, hf, hg, hi⟩
    have hs := h.sorted (show k ≤ 4 by omega)
    obtain ⟨i, hi1, rfl⟩ := gi_of_mem hf
    obtain ⟨j, hj1, hj2⟩ := gi_of_mem hg
    have hpos := pow_pos' (k := k)
    have hij : i < j := (hs.lt_iff hi1 hj1).1 (by omega)
    have e : j = i + 1 := by
      refine Classical.byContradiction fun hne => ?_
      have h1 := sorted_lt hs (show i < i + 1 by omega) (by omega)
      have h2 := sorted_lt hs (show i + 1 < j by omega) hj1
      have m1 := (h.inside (show k ≤ 4 by omega) (gi_mem (show i + 1 < (z.fr k).length by omega))).2.1
      have m2 := (h.inside (show k ≤ 4 by omega) (gi_mem hi1)).2.1
      rcases le4 (show k ≤ 4 by omega) with rfl | rfl | rfl | rfl | rfl <;> first | (exfalso; omega) | (simp at *; omega)
    subst e
    exact ⟨k, i, hk, hj1, hj2, hi⟩
  · rintro ⟨k, i, hk, hi, he, hin⟩
    exact ⟨k, gi (z.fr k) i, hk, gi_mem (by omega), by rw [← he]; exact gi_mem hi, hin⟩

theorem mem_coverL {z : Zn} {n : Nat} {x : Int} : x ∈ coverL z n ↔ ∃ k f, k < n ∧ f ∈ z.fr k ∧ f ≤ x ∧ x < f + 2 ^ k := by
  unfold coverL rowCover
  simp only [List.mem_flatMap, List.mem_range, mem_span]
  constructor
  · rintro ⟨k, hk, f, hf, h1, h2⟩; exact ⟨k, f, hk, hf, h1, by simpa using h2⟩
  · rintro ⟨k, f, hk, hf, h1, h2⟩; exact ⟨k, hk, f, hf, h1, by simpa using h2⟩

theorem free_cover {z : Zn} {x : Int} : free z x ↔ x ∈ coverL z 5 := by
  rw [mem_coverL]
  constructor
  · rintro ⟨k, f, hk, h⟩; exact ⟨k, f, by omega, h⟩
  · rintro ⟨k, f, hk, h⟩; exact ⟨k, f, by omega, h⟩

theorem span_nodup (f : Int) (n : Nat) : (span f n).Nodup := by
  unfold span
  exact List.Pairwise.map _ (fun a b (h : a ≠ b) => by omega) List.nodup_range

theorem rowCover_nodup {k : Nat} : ∀ {l : List Int}, (rowCover k l).Nodup ↔ l.Pairwise fun f g => ∀ x, f ≤ x → x < f + 2 ^ k → ¬ (g ≤ x ∧ x < g + 2 ^ k)
  | [] => by simp [rowCover]
  | a :: r => by
    have ih := rowCover_nodup (k := k) (l := r)
    unfold rowCover at ih ⊢
    rw [List.flatMap_cons, List.nodup_append, ih, List.pairwise_cons]
    constructor
    · rintro ⟨_, h2, h3⟩
      refine ⟨fun g hg x h4 h5 h6 => h3 x (mem_span.2 ⟨h4, by simpa using h5⟩) x ?_ rfl, h2⟩
      rw [List.mem_flatMap]
      exact ⟨g, hg, mem_span.2 ⟨h6.1, by simpa using h6.2⟩⟩
    · rintro ⟨h1, h2⟩
      refine ⟨span_nodup _ _, h2, fun x hx y hy e => ?_⟩
      subst e
      obtain ⟨g, hg, hx2⟩ := List.mem_flatMap.1 hy
      have p := mem_span.1 hx
      have q := mem_span.1 hx2
      exact h1 g hg x p.1 (by simpa using p.2) ⟨q.1, by simpa using q.2⟩

theorem coverL_nodup {z : Zn} (ho : orderOK z) : ∀ {n : Nat}, n ≤ 5 → ((coverL z n).Nodup ↔ ∀ k f j g x, k < n → j < n → f ∈ z.fr k → g ∈ z.fr j → f ≤ x → x < f + 2 ^ k → g ≤ x → x < g + 2 ^ j → k = j ∧ f = g)
  | 0, _ => by simp
  | n + 1, hn => by
    have ih := coverL_nodup ho (n := n) (by omega)
    have e : coverL z (n + 1) = coverL z n ++ rowCover n (z.fr n) := by unfold coverL; rw [List.range_succ, List.flatMap_append]; simp
    have hrow : (rowCover n (z.fr n)).Nodup := by
      rw [rowCover_nodup]
      refine (List.Pairwise.and_mem.1 (ho.sorted (show n ≤ 4 by omega))).imp fun {f g} ⟨hf, hg, hlt⟩ x h1 h2 h3 => ?_
      have i1 := ho.inside (show n ≤ 4 by omega) hf
      have i2 := ho.inside (show n ≤ 4 by omega) hg
      have := same_of_meet (show n ≤ 4 by omega) i1.2.1 i2.2.1 h3.1 h3.2 h1 h2
      omega
    rw [e, List.nodup_append, ih]
    constructor
    · rintro ⟨h1, _, h3⟩ k f j g x hk hj hf hg a1 a2 a3 a4
      by_cases c1 : k = n
      · by_cases c2 : j = n
        · subst c1 c2
          exact ⟨rfl, same_of_meet (by omega) (ho.inside (by omega) hf).2.1 (ho.inside (by omega) hg).2.1 a3 a4 a1 a2⟩
        · exfalso
          subst c1
          exact h3 x (mem_coverL.2 ⟨j, g, by omega, hg, a3, a4⟩) x (List.mem_flatMap.2 ⟨f, hf, mem_span.2 ⟨a1, by simpa using a2⟩⟩) rfl
      · by_cases c2 : j = n
        · exfalso
          subst c2
          exact h3 x (mem_coverL.2 ⟨k, f, by omega, hf, a1, a2⟩) x (List.mem_flatMap.2 ⟨g, hg, mem_span.2 ⟨a3, by simpa using a4⟩⟩) rfl
        · exact h1 k f j g x (by omega) (by omega) hf hg a1 a2 a3 a4
    · intro h
      refine ⟨fun k f j g x hk hj => h k f j g x (by omega) (by omega), hrow, fun x hx y hy e => ?_⟩
      subst e
      obtain ⟨k, f, hk, hf, h1, h2⟩ := mem_coverL.1 hx
      obtain ⟨g, hg, hx2⟩ := List.mem_flatMap.1 hy
      have q := mem_span.1 hx2
      have := h k f n g x (by omega) (by omega) hf hg h1 h2 q.1 (by simpa using q.2)
      omega

/-- The answer 0: the zone is in range and its lists are as they should be. -/
theorem checkZ_zero {z : Zn} : checkZ z = 0 ↔ rangesZ z ∧ Valid z := by
  unfold checkZ
  constructor
  · intro h
    split at h
    · simp at h
    rename_i h1
    split at h
    · rename_i h2; exact absurd h h2
    rename_i h2
    split at h
    · simp at h
    rename_i h3
    split at h
    · simp at h
    rename_i h4
    have ho : orderOK z := orderOK_iff.2 (Classical.not_not.1 h2)
    have hn := (coverL_nodup ho (Nat.le_refl 5)).1 (Classical.not_not.1 h3)
    exact ⟨Classical.not_not.1 h1, fun k hk => ho.sorted hk, fun k f hk hf => ho.inside hk hf, fun k f j g x hk hj => hn k f j g x (by omega) (by omega), fun k f hk hf hg hi => h4 ⟨k, f, hk, hf, hg, hi⟩⟩
  · rintro ⟨h1, hv⟩
    have ho : orderOK z := fun k i hk hi => by
      unfold badAt
      rw [if_neg (by simpa using hv.inside k _ hk (gi_mem hi)), if_neg]
      rintro ⟨h0, hle⟩
      have := sorted_lt (hv.sorted k hk) (show i - 1 < i by omega) hi
      omega
    rw [if_neg (by simpa using h1), if_neg (by simpa using orderOK_iff.1 ho), if_neg, if_neg]
    · rintro ⟨k, f, hk, hf, hg, hi⟩; exact hv.joined k f hk hf hg hi
    · rw [Classical.not_not, coverL_nodup ho (Nat.le_refl 5)]
      exact fun k f j g x hk hj => hv.apart k f j g x (by omega) (by omega)
end Go.AM
