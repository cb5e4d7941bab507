/- A new zone, in plain words: frame after frame is put. -/
import Derived.Test.YtjdahonmgfhpgaaBdQ
set_option linter.all false

namespace Go.AM
open Go

def noL (z : Zn) : Zn := { z with f0 := [], f1 := [], f2 := [], f3 := [], f4 := [] }
theorem noL_same (z : Zn) : sameP (noL z) z := by simp [sameP, noL]

/-- The zone of which the first n frames are free. -/
noncomputable def newZ (z : Zn) (n : Nat) : Zn := canon z fun x => z.start ≤ x ∧ x < z.start + n

theorem newZ_same (z : Zn) (n : Nat) : sameP (newZ z n) z := by simp [sameP, newZ, canon]

theorem canonL_empty {z : Zn} {S : Int → Prop} (h : ∀ x, ¬ S x) {k : Nat} : canonL z S k = [] := by
  apply List.eq_nil_iff_forall_not_mem.2
  intro f hf
  rw [mem_canonL] at hf
  have hp := pow_pos' (k := k)
  exact h f (hf.1.2 f (by omega) (by omega))

theorem canon_empty {z : Zn} {S : Int → Prop} (h : ∀ x, ¬ S x) : canon z S = noL z := by
  simp only [canon, noL, canonL_empty h]

theorem newZ_zero (z : Zn) : newZ z 0 = noL z := canon_empty fun x hx => by omega

theorem newZ_free {z : Zn} {n : Nat} (hz : rangesZ z) (hn : (n : Int) ≤ z.count) (x : Int) : free (newZ z n) x ↔ z.start ≤ x ∧ x < z.start + n := by
  unfold newZ
  refine free_canon (by unfold rangesZ at hz; omega) ?_
  intro g hg
  omega

theorem inside0 {z : Zn} {f : Int} (hz : rangesZ z) : insideZ z f 0 ↔ z.start ≤ f ∧ f < z.start + z.count := by
  unfold rangesZ at hz
  unfold insideZ
  simp
  omega

theorem newZ_succ {z : Zn} {n : Nat} (hz : rangesZ z) (hn : (n : Int) < z.count) : putZ 4 (newZ z n) (z.start + n) 0 = newZ z (n + 1) := by
  have hs := newZ_same z n
  have := put_canon (z := newZ z n) (f := z.start + n) (k := 0) (by omega) canon_valid ((inside0 (hs.ranges.2 hz)).2 (by rw [hs.2.2.1, hs.2.2.2.1]; omega)) (fun x h1 h2 hf => by
    rw [newZ_free hz (by omega)] at hf
    omega)
  rw [show 4 - 0 = 4 from rfl] at this
  rw [this, canon_same hs]
  unfold newZ
  refine canon_congr fun g => ?_
  have h3 := newZ_free hz (show (n : Int) ≤ z.count by omega) g
  unfold newZ at h3
  rw [h3]
  simp
  omega

theorem valid_small {z : Zn} (hz : rangesZ z) (hv : Valid z) : ∀ k, k ≤ 4 → (z.fr k).length ≤ 256 := by
  intro k hk
  have hs := hv.sorted k hk
  have hb : ∀ x ∈ z.fr k, 0 ≤ x ∧ x < 256 := fun x hx => by
    have h1 := hv.inside k x hk hx
    have hp := pow_pos' (k := k)
    unfold rangesZ at hz
    obtain ⟨a, b, c, d⟩ := h1
    omega
  -- a strictly ascending list of numbers from 0 to 255
  have key : ∀ (l : List Int) (a : Int), Sorted l → (∀ x ∈ l, a ≤ x ∧ x < 256) → a ≤ 256 → (l.length : Int) ≤ 256 - a := by
    intro l
    induction l with
    | nil => intro a _ _ h; simp; omega
    | cons b r ih =>
      intro a hs hb ha
      have h1 := List.pairwise_cons.1 hs
      have h2 := hb b (by simp)
      have h3 := ih (b + 1) h1.2 (fun x hx => by have := h1.1 x hx; have := hb x (by simp [hx]); omega) (by omega)
      simp; omega
  have := key _ 0 hs hb (by omega)
  omega
end Go.AM
