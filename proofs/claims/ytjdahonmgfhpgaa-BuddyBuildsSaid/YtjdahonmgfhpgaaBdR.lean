/- Splitting a block towards a frame: what Alloc and Take make of the lists. -/
import Derived.Test.YtjdahonmgfhpgaaBdW
set_option linter.all false

namespace Go.AM
open Go

/-- n times: the half that does not hold x is put into its list. The zone behind that, and the first frame of what is left. -/
noncomputable def splitX : Nat → Zn → Int → Nat → Int → Zn × Int
  | 0, z, f, _, _ => (z, f)
  | n + 1, z, f, k, x => if x < f + 2 ^ (k - 1) then splitX n (z.set (k - 1) (insI (z.fr (k - 1)) (f + 2 ^ (k - 1)))) f (k - 1) x
      else splitX n (z.set (k - 1) (insI (z.fr (k - 1)) f)) (f + 2 ^ (k - 1)) (k - 1) x

theorem split_step {z : Zn} {f g : Int} {k : Nat} (hk : k < 4) (hv : Valid z) (hi : insideZ z f (k + 1)) (hd : ∀ y, f ≤ y → y < f + 2 ^ (k + 1) → ¬ free z y) (hg : g = f ∨ g = f + 2 ^ k) :
    Valid (z.set k (insI (z.fr k) g)) ∧ sameP (z.set k (insI (z.fr k) g)) z ∧ ∀ y, free (z.set k (insI (z.fr k) g)) y ↔ free z y ∨ (g ≤ y ∧ y < g + 2 ^ k) := by
  have hp := pow_pos' (k := k)
  have hs := pow_succ2 (k := k)
  have hm := mod_half (show k + 1 ≤ 4 by omega) hi.2.1
  have hgm : g % 2 ^ k = 0 := by
    rcases hg with rfl | rfl
    · exact hm.1
    · exact hm.2
  have hin : insideZ z g k := inside_of_sub (j := k + 1) (by omega) (by omega) hi hgm (by omega) (by omega)
  have hd' : ∀ y, g ≤ y → y < g + 2 ^ k → ¬ free z y := fun y h1 h2 => hd y (by omega) (by omega)
  have hnf : g ∉ z.fr k := fun h => hd' g (by omega) (by omega) ⟨k, g, by omega, h, by omega, by omega⟩
  obtain ⟨a1, a2⟩ := insI_ok (hv.sorted k (by omega)) hnf
  have hpar : par g k = f := block_start (k := k + 1) (by omega) hi.2.1 (by omega) (by omega)
  have := hv.insert (show k ≤ 4 by omega) hin hd' (fun _ _ h => by
    rw [hpar] at h
    split at h
    · exact hd (g + 2 ^ k) (by omega) (by omega) ⟨k, _, by omega, h, by omega, by omega⟩
    · exact hd f (by omega) (by omega) ⟨k, _, by omega, h, by omega, by omega⟩) a1 a2
  exact ⟨this.1, sameP.set, this.2⟩

theorem split_valid : ∀ (n : Nat) {z : Zn} {f : Int} {k : Nat} {x : Int}, n ≤ k → k ≤ 4 → Valid z → insideZ z f k → (∀ y, f ≤ y → y < f + 2 ^ k → ¬ free z y) → f ≤ x → x < f + 2 ^ k →
    Valid (splitX n z f k x).1 ∧ sameP (splitX n z f k x).1 z ∧ ((splitX n z f k x).2 ≤ x ∧ x < (splitX n z f k x).2 + 2 ^ (k - n) ∧ insideZ z (splitX n z f k x).2 (k - n)) ∧
      ∀ y, free (splitX n z f k x).1 y ↔ free z y ∨ ((f ≤ y ∧ y < f + 2 ^ k) ∧ ¬ ((splitX n z f k x).2 ≤ y ∧ y < (splitX n z f k x).2 + 2 ^ (k - n))) := by
  intro n
  induction n with
  | zero =>
    intro z f k x _ _ hv hi hd h1 h2
    simp only [splitX, Nat.sub_zero]
    refine ⟨hv, ⟨rfl, rfl, rfl, rfl, rfl⟩, ⟨h1, h2, hi⟩, fun y => ⟨.inl, ?_⟩⟩
    rintro (h | ⟨h, h'⟩)
    · exact h
    · exact absurd h h'
  | succ n ih =>
    intro z f k x hn hk hv hi hd h1 h2
    obtain ⟨j, rfl⟩ : ∃ j, k = j + 1 := ⟨k - 1, by omega⟩
    have hp := pow_pos' (k := j)
    have hs := pow_succ2 (k := j)
    have hm := mod_half (show j + 1 ≤ 4 by omega) hi.2.1
    have hsub : j + 1 - (n + 1) = j - n := by omega
    simp only [splitX, Nat.add_sub_cancel, hsub]
    split
    · rename_i hx
      obtain ⟨s1, s2, s3⟩ := split_step (show j < 4 by omega) hv hi hd (.inr rfl)
      have hin : insideZ z f j := inside_of_sub (j := j + 1) (by omega) (by omega) hi hm.1 (by omega) (by omega)
      obtain ⟨r1, r2, ⟨r3, r4, r5⟩, r6⟩ := ih (x := x) (show n ≤ j by omega) (by omega) s1 (s2.inside.2 hin) (fun y h3 h4 h => by
        rcases (s3 y).1 h with h | h
        · exact hd y (by omega) (by omega) h
        · omega) h1 hx
      refine ⟨r1, r2.trans s2, ⟨r3, r4, s2.inside.1 r5⟩, fun y => ?_⟩
      rw [r6, s3]
      have hle : f ≤ (splitX n (z.set j (insI (z.fr j) (f + 2 ^ j))) f j x).2 ∧ (splitX n (z.set j (insI (z.fr j) (f + 2 ^ j))) f j x).2 + 2 ^ (j - n) ≤ f + 2 ^ j := nested (k := j - n) (j := j) (x := x) (by omega) (by omega) r5.2.1 hm.1 h1 hx r3 r4
      constructor
      · rintro ((h | h) | h)
        · exact .inl h
        · exact .inr ⟨by omega, by omega⟩
        · exact .inr ⟨by omega, h.2⟩
      · rintro (h | ⟨h, h'⟩)
        · exact .inl (.inl h)
        · by_cases hy : y < f + 2 ^ j
          · exact .inr ⟨by omega, h'⟩
          · exact .inl (.inr (by omega))
    · rename_i hx
      obtain ⟨s1, s2, s3⟩ := split_step (show j < 4 by omega) hv hi hd (.inl rfl)
      have hin : insideZ z (f + 2 ^ j) j := inside_of_sub (j := j + 1) (by omega) (by omega) hi hm.2 (by omega) (by omega)
      obtain ⟨r1, r2, ⟨r3, r4, r5⟩, r6⟩ := ih (x := x) (show n ≤ j by omega) (by omega) s1 (s2.inside.2 hin) (fun y h3 h4 h => by
        rcases (s3 y).1 h with h | h
        · exact hd y (by omega) (by omega) h
        · omega) (by omega) (by omega)
      refine ⟨r1, r2.trans s2, ⟨r3, r4, s2.inside.1 r5⟩, fun y => ?_⟩
      rw [r6, s3]
      have hle : f + 2 ^ j ≤ (splitX n (z.set j (insI (z.fr j) f)) (f + 2 ^ j) j x).2 ∧ (splitX n (z.set j (insI (z.fr j) f)) (f + 2 ^ j) j x).2 + 2 ^ (j - n) ≤ f + 2 ^ j + 2 ^ j := nested (k := j - n) (j := j) (x := x) (by omega) (by omega) r5.2.1 hm.2 (by omega) (by omega) r3 r4
      constructor
      · rintro ((h | h) | h)
        · exact .inl h
        · exact .inr ⟨by omega, by omega⟩
        · exact .inr ⟨by omega, h.2⟩
      · rintro (h | ⟨h, h'⟩)
        · exact .inl (.inl h)
        · by_cases hy : f + 2 ^ j ≤ y
          · exact .inr ⟨by omega, h'⟩
          · exact .inl (.inr (by omega))

theorem split_first : ∀ (n : Nat) {z : Zn} {f : Int} {k : Nat}, (splitX n z f k f).2 = f := by
  intro n
  induction n with
  | zero => intros; rfl
  | succ n ih =>
    intro z f k
    have hp := pow_pos' (k := k - 1)
    simp only [splitX]
    rw [if_pos (by omega)]
    exact ih

theorem tail_ok {l : List Int} {f : Int} {r : List Int} (hs : Sorted l) (e : l = f :: r) : Sorted r ∧ ∀ y, y ∈ r ↔ y ∈ l ∧ y ≠ f := by
  subst e
  obtain ⟨h1, h2⟩ := List.pairwise_cons.1 hs
  refine ⟨h2, fun y => ⟨fun h => ⟨by simp [h], fun e => ?_⟩, fun ⟨h, hn⟩ => ?_⟩⟩
  · have := h1 y h; omega
  · rcases List.mem_cons.1 h with h | h
    · exact absurd h hn
    · exact h

/-- A free block is split until the part of order o that holds x is left. -/
theorem split_canon {z : Zn} {f x : Int} {k o : Nat} {l : List Int} (hv : Valid z) (hk : k ≤ 4) (ho : o ≤ k) (hf : f ∈ z.fr k) (hl : Sorted l) (hm : ∀ y, y ∈ l ↔ y ∈ z.fr k ∧ y ≠ f) (h1 : f ≤ x) (h2 : x < f + 2 ^ k) :
    (splitX (k - o) (z.set k l) f k x).1 = canon z fun y => free z y ∧ ¬ (x - x % 2 ^ o ≤ y ∧ y < x - x % 2 ^ o + 2 ^ o) := by
  obtain ⟨q1, q2⟩ := hv.remove hk hf hl hm
  have hin := hv.inside k f hk hf
  obtain ⟨r1, r2, ⟨r3, r4, r5⟩, r6⟩ := split_valid (k - o) (x := x) (Nat.sub_le _ _) hk q1 (sameP.set.inside.2 hin) (fun y h3 h4 h => ((q2 y).1 h).2 ⟨h3, h4⟩) h1 h2
  have hoo : k - (k - o) = o := by omega
  rw [hoo] at r4 r5 r6
  have hb := block_start (show o ≤ 4 by omega) r5.2.1 r3 r4
  have hn := nested (k := o) (j := k) (x := x) ho hk r5.2.1 hin.2.1 h1 h2 r3 r4
  rw [r1.canon, canon_same r2, canon_same sameP.set]
  refine canon_congr fun y => ?_
  rw [r6, q2, hb]
  constructor
  · rintro (h | h)
    · exact ⟨h.1, fun h' => h.2 (by omega)⟩
    · exact ⟨⟨k, f, hk, hf, h.1.1, h.1.2⟩, h.2⟩
  · rintro ⟨h, h'⟩
    by_cases hy : f ≤ y ∧ y < f + 2 ^ k
    · exact .inr ⟨hy, h'⟩
    · exact .inl ⟨h, hy⟩
end Go.AM
