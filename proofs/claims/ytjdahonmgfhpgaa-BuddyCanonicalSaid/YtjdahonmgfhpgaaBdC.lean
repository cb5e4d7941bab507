/- What Check computes, in plain words: the first error of the lists, frames that are covered twice, neighbours that are not joined. -/
import Derived.Test.YtjdahonmgfhpgaaBd8
set_option linter.all false

namespace Go.AM
open Go

noncomputable def badAt (z : Zn) (k i : Nat) : Int := if ¬ insideZ z (gi (z.fr k) i) k then 3 else if 0 < i ∧ gi (z.fr k) i ≤ gi (z.fr k) (i - 1) then 10 else 0

structure IsFirst (z : Zn) (k i : Nat) : Prop where
  hk : k ≤ 4
  hi : i < (z.fr k).length
  bad : badAt z k i ≠ 0
  rows : ∀ k' i', k' < k → i' < (z.fr k').length → badAt z k' i' = 0
  row : ∀ i', i' < i → badAt z k i' = 0

open Classical in
noncomputable def formErr (z : Zn) : Int := if h : ∃ p : Nat × Nat, IsFirst z p.1 p.2 then badAt z h.choose.1 h.choose.2 else 0

theorem formErr_first {z : Zn} {k i : Nat} (h : IsFirst z k i) : formErr z = badAt z k i := by
  have hex : ∃ p : Nat × Nat, IsFirst z p.1 p.2 := ⟨(k, i), h⟩
  unfold formErr
  rw [dif_pos hex]
  have h2 := hex.choose_spec
  generalize hex.choose = p at h2
  obtain ⟨j, m⟩ := p
  simp only at h2
  have e1 : j = k := by
    rcases Nat.lt_trichotomy j k with c | c | c
    · exact absurd (h.rows j m c h2.hi) h2.bad
    · exact c
    · exact absurd (h2.rows k i c h.hi) h.bad
  subst e1
  have e2 : m = i := by
    rcases Nat.lt_trichotomy m i with c | c | c
    · exact absurd (h.row m c) h2.bad
    · exact c
    · exact absurd (h2.row i c) h.bad
  rw [e2]

theorem formErr_none {z : Zn} (h : ∀ k i, k ≤ 4 → i < (z.fr k).length → badAt z k i = 0) : formErr z = 0 := by
  unfold formErr
  rw [dif_neg]
  rintro ⟨⟨k, i⟩, hf⟩
  exact hf.bad (h k i hf.hk hf.hi)

theorem badAt_zero {z : Zn} {k i : Nat} (h : badAt z k i = 0) : insideZ z (gi (z.fr k) i) k ∧ (0 < i → gi (z.fr k) (i - 1) < gi (z.fr k) i) := by
  unfold badAt at h
  split at h
  · simp at h
  · rename_i h1
    split at h
    · simp at h
    · rename_i h2
      refine ⟨Classical.not_not.1 h1, fun hi => ?_⟩
      by_cases hlt : gi (z.fr k) (i - 1) < gi (z.fr k) i
      · exact hlt
      · exact absurd ⟨hi, by omega⟩ h2

def span (f : Int) (n : Nat) : List Int := (List.range n).map fun (i : Nat) => f + (i : Int)
def rowCover (k : Nat) (l : List Int) : List Int := l.flatMap fun f => span f (2 ^ k)
def coverL (z : Zn) (n : Nat) : List Int := (List.range n).flatMap fun k => rowCover k (z.fr k)
/-- The frames of the blocks before block i of row k. -/
def coverP (z : Zn) (k i : Nat) : List Int := coverL z k ++ rowCover k ((z.fr k).take i)

theorem span_succ (f : Int) (n : Nat) : span f (n + 1) = span f n ++ [f + n] := by
  unfold span; rw [List.range_succ, List.map_append]; rfl
theorem mem_span {f x : Int} {n : Nat} : x ∈ span f n ↔ f ≤ x ∧ x < f + n := by
  unfold span
  rw [List.mem_map]
  constructor
  · rintro ⟨i, hi, rfl⟩; have := List.mem_range.1 hi; omega
  · rintro ⟨h1, h2⟩; exact ⟨(x - f).toNat, List.mem_range.2 (by omega), by omega⟩
theorem coverP_zero (z : Zn) (k : Nat) : coverP z k 0 = coverL z k := by simp [coverP, rowCover]
theorem coverP_succ {z : Zn} {k i : Nat} (h : i < (z.fr k).length) : coverP z k (i + 1) = coverP z k i ++ span (gi (z.fr k) i) (2 ^ k) := by
  simp only [coverP, rowCover, take_succ_gi h, List.flatMap_append, List.append_assoc, List.flatMap_cons, List.flatMap_nil, List.append_nil]
theorem coverP_full (z : Zn) (k : Nat) : coverP z k (z.fr k).length = coverL z (k + 1) := by
  simp [coverP, coverL, List.range_succ]

theorem flatMap_prefix {α β : Type} {l m : List α} (h : l <+: m) (f : α → List β) : l.flatMap f <+: m.flatMap f := by
  obtain ⟨t, rfl⟩ := h
  exact ⟨t.flatMap f, by simp⟩

theorem coverP_prefix {z : Zn} {k i j : Nat} (h : i ≤ j) : coverP z k i <+: coverP z k j := by
  unfold coverP rowCover
  rw [List.prefix_append_right_inj]
  exact flatMap_prefix (List.take_prefix_take_left h) _
theorem coverL_prefix {z : Zn} {k j : Nat} (h : k ≤ j) : coverL z k <+: coverL z j := by
  unfold coverL
  refine flatMap_prefix ?_ _
  have : List.range k = (List.range j).take k := by rw [List.take_range, Nat.min_eq_left h]
  rw [this]
  exact List.take_prefix _ _

/-- What lies ahead of a place is a part of the whole. -/
theorem cover_part {z : Zn} {k i n : Nat} (hk : k ≤ 4) (hi : i < (z.fr k).length) (hn : n ≤ 2 ^ k) : coverP z k i ++ span (gi (z.fr k) i) n <+: coverL z 5 := by
  have h1 : coverP z k i ++ span (gi (z.fr k) i) n <+: coverP z k (i + 1) := by
    rw [coverP_succ hi, List.prefix_append_right_inj]
    unfold span
    refine List.IsPrefix.map _ ?_
    have : List.range n = (List.range (2 ^ k)).take n := by rw [List.take_range, Nat.min_eq_left hn]
    rw [this]
    exact List.take_prefix _ _
  refine h1.trans ((coverP_prefix (show i + 1 ≤ (z.fr k).length by omega)).trans ?_)
  rw [coverP_full]
  exact coverL_prefix (by omega)

def joinable (z : Zn) : Prop := ∃ k f, k < 4 ∧ f ∈ z.fr k ∧ f + 2 ^ k ∈ z.fr k ∧ insideZ z f (k + 1)

open Classical in
noncomputable def checkZ (z : Zn) : Int := if ¬ rangesZ z then 2 else if formErr z ≠ 0 then formErr z else if ¬ (coverL z 5).Nodup then 7 else if joinable z then 11 else 0

/-- Which frames are marked. -/
noncomputable def marks (P : List Int) : List AV := (List.range 256).map fun (x : Nat) => B (decide ((x : Int) ∈ P))
theorem marks_len (P : List Int) : (marks P).length = 256 := by simp [marks]
theorem marks_get {P : List Int} {y : Nat} (h : y < 256) : (marks P)[y]? = some (B (decide ((y : Int) ∈ P))) := by
  simp [marks, h]
theorem marks_nil : List.replicate 256 (B false) = marks [] := by
  apply List.ext_getElem?
  intro n
  by_cases hn : n < 256
  · rw [marks_get hn, List.getElem?_replicate, if_pos hn]; simp
  · rw [List.getElem?_replicate, if_neg hn, List.getElem?_eq_none (by rw [marks_len]; omega)]
theorem marks_set {P : List Int} {y : Nat} (h : y < 256) : (marks P).set y (B true) = marks (P ++ [(y : Int)]) := by
  apply List.ext_getElem?
  intro n
  rw [List.getElem?_set]
  by_cases e : y = n
  · subst e; simp [marks, h]
  · rw [if_neg e]
    by_cases hn : n < 256
    · rw [marks_get hn, marks_get hn]
      have : (n : Int) ≠ y := by omega
      simp [this]
    · simp [marks, hn]

/-- How often each frame is covered. -/
def cnts (P : List Int) : List Int := (List.range 256).map fun (x : Nat) => (P.count (x : Int) : Int)
theorem cnts_len (P : List Int) : (cnts P).length = 256 := by simp [cnts]
theorem cnts_gi {P : List Int} {y : Nat} (h : y < 256) : gi (cnts P) y = P.count (y : Int) := by
  rw [gi_eq (by simpa [cnts] using h)]
  simp [cnts]
theorem cnts_nil : List.replicate 256 (0 : Int) = cnts [] := by
  apply List.ext_getElem?
  intro n
  by_cases hn : n < 256
  · rw [List.getElem?_replicate, if_pos hn]; simp [cnts, hn]
  · rw [List.getElem?_replicate, if_neg hn, List.getElem?_eq_none (by rw [cnts_len]; omega)]
theorem cnts_set {P : List Int} {y : Nat} (h : y < 256) : (cnts P).set y (P.count (y : Int) + 1 : Int) = cnts (P ++ [(y : Int)]) := by
  apply List.ext_getElem?
  intro n
  rw [List.getElem?_set]
  by_cases e : y = n
  · subst e; simp [cnts, h]
  · rw [if_neg e]
    by_cases hn : n < 256
    · have : (y : Int) ≠ n := by omega
      simp [cnts, hn, List.count_append, List.count_singleton, this]
    · simp [cnts, hn]
theorem irows_set (l : List Int) (n : Nat) (x : Int) : (irows l).set n [I x] = irows (l.set n x) := by
  simp [irows, List.map_set]
end Go.AM
