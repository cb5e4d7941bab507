/- The reference's way to canonical lists, in plain words: from the greatest order down, frame by frame, what is full is taken out of a list of what is left. -/
import Derived.Test.YtjdahonmgfhpgaaBdN
set_option linter.all false

namespace Go.AM
open Go

open Classical in
/-- The counts of which some are struck out. -/
noncomputable def lf (s : List Int) (R : Int → Prop) : List Int := (List.range 256).map fun (x : Nat) => if R (x : Int) then 0 else gi s x
@[simp] theorem lf_len (s : List Int) (R : Int → Prop) : (lf s R).length = 256 := by simp [lf]
open Classical in
theorem lf_gi {s : List Int} {R : Int → Prop} {y : Nat} (h : y < 256) : gi (lf s R) y = if R (y : Int) then 0 else gi s y := by
  rw [gi_eq (by simpa using h)]
  simp [lf]
open Classical in
theorem lf_get {s : List Int} {R : Int → Prop} {n : Nat} (h : n < 256) : (lf s R)[n]? = some (if R (n : Int) then 0 else gi s n) := by
  simp [lf, h]
theorem lf_set {s : List Int} {R : Int → Prop} {y : Nat} : (lf s R).set y 0 = lf s fun x => R x ∨ x = (y : Int) := by
  apply List.ext_getElem?
  intro n
  rw [List.getElem?_set]
  by_cases e : y = n
  · subst e
    by_cases h : y < 256
    · simp [lf, h]
    · simp [lf, h]
  · rw [if_neg e]
    by_cases hn : n < 256
    · have : ¬ (n : Int) = y := by omega
      rw [lf_get hn, lf_get hn]
      by_cases hR : R (n : Int)
      · rw [if_pos hR, if_pos (.inl hR)]
      · rw [if_neg hR, if_neg (fun h => h.elim hR this)]
    · simp [lf, hn]
theorem lf_congr {s : List Int} {R R' : Int → Prop} (h : ∀ x, R x ↔ R' x) : lf s R = lf s R' := by
  have : R = R' := funext fun x => propext (h x)
  rw [this]
theorem lf_none {s : List Int} (h : s.length = 256) : lf s (fun _ => False) = s := by
  apply List.ext_getElem?
  intro n
  by_cases hn : n < 256
  · rw [List.getElem?_eq_getElem (by simpa using hn), List.getElem?_eq_getElem (by omega), ← gi_eq (by simpa using hn), lf_gi hn, if_neg (by simp), gi_eq (by omega)]
  · rw [List.getElem?_eq_none (by simp; omega), List.getElem?_eq_none (by omega)]

/-- The frames that a list of counts holds. -/
def setOf (s : List Int) (x : Int) : Prop := 0 ≤ x ∧ gi s x.toNat ≠ 0

def Rk (z : Zn) (S : Int → Prop) (k : Nat) (x : Int) : Prop := ∃ j, k < j ∧ j ≤ 4 ∧ Full z S (x - x % 2 ^ j) j
def Rkn (z : Zn) (S : Int → Prop) (k n : Nat) (x : Int) : Prop := Rk z S k x ∨ ∃ f, f < z.start + n ∧ top z S k f ∧ f ≤ x ∧ x < f + 2 ^ k

open Classical in
noncomputable def canonP (z : Zn) (S : Int → Prop) (k n : Nat) : List Int := ((List.range n).map fun (i : Nat) => z.start + (i : Int)).filter fun f => decide (top z S k f)
@[simp] theorem canonP_zero {z : Zn} {S : Int → Prop} {k : Nat} : canonP z S k 0 = [] := rfl
theorem canonP_yes {z : Zn} {S : Int → Prop} {k n : Nat} (h : top z S k (z.start + n)) : canonP z S k (n + 1) = canonP z S k n ++ [z.start + n] := by
  unfold canonP
  rw [List.range_succ, List.map_append, List.filter_append]
  simp [h]
theorem canonP_no {z : Zn} {S : Int → Prop} {k n : Nat} (h : ¬ top z S k (z.start + n)) : canonP z S k (n + 1) = canonP z S k n := by
  unfold canonP
  rw [List.range_succ, List.map_append, List.filter_append]
  simp [h]
theorem canonP_full {z : Zn} {S : Int → Prop} {k : Nat} : canonP z S k z.count.toNat = canonL z S k := rfl
theorem canonP_len {z : Zn} {S : Int → Prop} {k n : Nat} : (canonP z S k n).length ≤ n := by
  unfold canonP
  exact Nat.le_trans (List.length_filter_le ..) (by simp)

theorem Rk_top (z : Zn) (S : Int → Prop) (x : Int) : ¬ Rk z S 4 x := by
  rintro ⟨j, h1, h2, _⟩; omega

theorem block_start {k : Nat} {f x : Int} (hk : k ≤ 4) (hf : f % 2 ^ k = 0) (h1 : f ≤ x) (h2 : x < f + 2 ^ k) : x - x % 2 ^ k = f := by
  have hm := mod_self (g := x) hk
  exact same_of_meet hk hm.1 hf h1 h2 hm.2.1 hm.2.2

/-- A block is taken exactly if it is a top one. -/
theorem take_iff {z : Zn} {S : Int → Prop} {k n : Nat} (hk : k ≤ 4) : (insideZ z (z.start + n) k ∧ ∀ g, z.start + n ≤ g → g < z.start + n + 2 ^ k → S g ∧ ¬ Rkn z S k n g) ↔ top z S k (z.start + n) := by
  have hp := pow_pos' (k := k)
  constructor
  · rintro ⟨hi, hg⟩
    refine ⟨⟨hi, fun g h1 h2 => (hg g h1 h2).1⟩, fun ⟨hk4, hf⟩ => ?_⟩
    refine (hg (z.start + n) (by omega) (by omega)).2 (.inl ⟨k + 1, by omega, by omega, hf⟩)
  · rintro ⟨hf, hn⟩
    refine ⟨hf.1, fun g h1 h2 => ⟨hf.2 g h1 h2, ?_⟩⟩
    rintro (⟨j, h3, h4, h5⟩ | ⟨f, h3, h4, h5, h6⟩)
    · have hk4 : k < 4 := by omega
      refine hn ⟨hk4, ?_⟩
      have hm := mod_self (g := g) h4
      have hpf := par_facts hk4 hf.1.2.1
      have := nested (x := g) (show k + 1 ≤ j by omega) h4 hpf.1 h5.1.2.1 hm.2.1 hm.2.2 (by omega) (by omega)
      exact h5.sub (by omega) h4 hpf.1 this.1 this.2
    · have := same_of_meet hk h4.1.1.2.1 hf.1.2.1 h1 h2 h5 h6
      omega

theorem Rkn_zero {z : Zn} {S : Int → Prop} {k : Nat} {x : Int} : Rkn z S k 0 x ↔ Rk z S k x := by
  constructor
  · rintro (h | ⟨f, h1, h2, _⟩)
    · exact h
    · have := h2.1.1.1; omega
  · exact .inl

theorem Rkn_yes {z : Zn} {S : Int → Prop} {k n : Nat} {x : Int} (h : top z S k (z.start + n)) : Rkn z S k (n + 1) x ↔ Rkn z S k n x ∨ (z.start + n ≤ x ∧ x < z.start + n + 2 ^ k) := by
  constructor
  · rintro (h1 | ⟨f, h1, h2, h3, h4⟩)
    · exact .inl (.inl h1)
    · by_cases e : f = z.start + n
      · subst e; exact .inr ⟨h3, h4⟩
      · exact .inl (.inr ⟨f, by omega, h2, h3, h4⟩)
  · rintro ((h1 | ⟨f, h1, h2, h3, h4⟩) | h1)
    · exact .inl h1
    · exact .inr ⟨f, by omega, h2, h3, h4⟩
    · exact .inr ⟨_, by omega, h, h1.1, h1.2⟩

theorem Rkn_no {z : Zn} {S : Int → Prop} {k n : Nat} {x : Int} (h : ¬ top z S k (z.start + n)) : Rkn z S k (n + 1) x ↔ Rkn z S k n x := by
  constructor
  · rintro (h1 | ⟨f, h1, h2, h3, h4⟩)
    · exact .inl h1
    · by_cases e : f = z.start + n
      · subst e; exact absurd h2 h
      · exact .inr ⟨f, by omega, h2, h3, h4⟩
  · rintro (h1 | ⟨f, h1, h2, h3, h4⟩)
    · exact .inl h1
    · exact .inr ⟨f, by omega, h2, h3, h4⟩

theorem Rkn_done {z : Zn} {S : Int → Prop} {k : Nat} {x : Int} (hz : 1 ≤ z.count) (hk : k + 1 ≤ 4) : Rkn z S (k + 1) z.count.toNat x ↔ Rk z S k x := by
  constructor
  · rintro (⟨j, h1, h2, h3⟩ | ⟨f, h1, h2, h3, h4⟩)
    · exact ⟨j, by omega, h2, h3⟩
    · refine ⟨k + 1, by omega, hk, ?_⟩
      rw [block_start hk h2.1.1.2.1 h3 h4]
      exact h2.1
  · rintro ⟨j, h1, h2, h3⟩
    by_cases e : j = k + 1
    · subst e
      have hm := mod_self (g := x) hk
      by_cases hp : k + 1 < 4 ∧ Full z S (par (x - x % 2 ^ (k + 1)) (k + 1)) (k + 1 + 1)
      · left
        refine ⟨k + 2, by omega, by omega, ?_⟩
        have hpf := par_facts hp.1 hm.1
        have hm2 := mod_self (g := x) (show k + 2 ≤ 4 by omega)
        have hb : par (x - x % 2 ^ (k + 1)) (k + 1) = x - x % 2 ^ (k + 2) := by
          have := block_start (k := k + 2) (x := x) (by omega) hpf.1 (by have := hpf.2.1; omega) (by have h7 := hpf.2.2.1; have h8 := hm.2.2; exact Int.lt_of_lt_of_le h8 h7)
          rw [this]
        rw [hb] at hp
        exact hp.2
      · right
        refine ⟨_, ?_, ⟨h3, hp⟩, hm.2.1, hm.2.2⟩
        have h5 := h3.1
        have hpp := pow_pos' (k := k + 1)
        obtain ⟨_, _, _, d⟩ := h5
        omega
    · left
      exact ⟨j, by omega, h2, h3⟩
end Go.AM
