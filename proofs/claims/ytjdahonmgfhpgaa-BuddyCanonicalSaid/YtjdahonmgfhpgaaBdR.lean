/- Splitting a block towards a frame: what Alloc and Take make of the lists. -/
import Derived.Test.YtjdahonmgfhpgaaBdW
import Derived.Test.YtjdahonmgfhpgaaBd18
set_option linter.all false

namespace Go.AM
open Go

/-- n times: the half that does not hold x is put into its list. The zone behind that, and the first frame of what is left. -/
noncomputable def splitX : Nat → Zn → Int → Nat → Int → Zn × Int
  | 0, z, f, _, _ => (z, f)
  | n + 1, z, f, k, x => if x < f + 2 ^ (k - 1) then splitX n (z.set (k - 1) (insI (z.fr (k - 1)) (f + 2 ^ (k - 1)))) f (k - 1) x
      else splitX n (z.set (k - 1) (insI (z.fr (k - 1)) f)) (f + 2 ^ (k - 1)) (k - 1) x

theorem split_step {z : Zn} {f g : Int} {k : Nat} (hk : k < 4) (hv : Valid z) (hi : insideZ z f (k + 1)) (hd : ∀ y, f ≤ y → y < f + 2 ^ (k + 1) → ¬ free z y) (hg : g = f ∨ g = f + 2 ^ k) :
    Valid (z.set k (insI (z.fr k) g)) ∧ sameP (z.set k (insI (z.fr k) g)) z ∧ ∀ y, free (z.set k (insI (z.fr k) g)) y ↔ free z y ∨ (g ≤ y ∧ y < g + 2 ^ k) := by
  have hp := pow_pos' (k := k)
  have hs := pow_succ2 (k := k)
  have hm := mod_half (show k + 1 ≤ 4 by omega) hi.2.1
  have hgm : g % 2 ^ k = 0 := by
    rcases hg with rfl | rfl
    · exact hm.1
    · exact hm.2
  have hin : insideZ z g k := inside_of_sub (j := k + 1) (by omega) (by omega) hi hgm (by omega) (by omega)
  have hd' : ∀ y, g ≤ y → y < g + 2 ^ k → ¬ free z y := fun y h1 h2 => hd y (by omega) (by omega)
  have hnf : g ∉ z.fr k := fun h => hd' g (by omega) (by omega) ⟨k, g, by omega, h, by omega, by omega⟩
  obtain ⟨a1, a2⟩ := insI_ok (hv.sorted k (by omega)) hnf
  have hpar : par g k = f := block_start (k := k + 1) (by omega) hi.2.1 (by omega) (by omega)
  have := hv.insert (show k ≤ 4 by omega) hin hd' (fun _ _ h => by
    rw [hpar] at h
    split at h
    · exact hd (g + 2 ^ k) (by omega) (by omega) ⟨k, _, by omega, h, by omega, by omega⟩
    · exact hd f (by omega) (by omega) ⟨k, _, by omega, h, by omega, by omega⟩) a1 a2
  exact ⟨this.1, sameP.set, this.2⟩

theorem split_valid : ∀ (n : Nat) {z : Zn} {f : Int} {k : Nat} {x : Int}, n ≤ k → k ≤ 4 → Valid z → insideZ z f k → (∀ y, f ≤ y → y < f + 2 ^ k → ¬ free z y) → f ≤ x → x < f + 2 ^ k →
    Valid (splitX n z f k x).1 ∧ sameP (splitX n z f k x).1 z ∧ ((splitX n z f k x).2 ≤ x ∧ x < (splitX n z f k x).2 + 2 ^ (k - n) ∧ insideZ z (splitX n z f k x).2 (k - n)) ∧
      ∀ y, free (splitX n z f k x).1 y ↔ free z y ∨ ((f ≤ y ∧ y < f + 2 ^ k) ∧ ¬ ((splitX n z f k x).2 ≤ y ∧ y < (splitX n z f k x).2 + 2 ^ (k - n))) := by
  intro n
  induction n with
  | zero =>
    intro z f k x _ _ hv hi hd h1 h2
    simp only [splitX, Nat.sub_zero]
    refine ⟨hv, ⟨rfl, rfl, rfl, rfl, rfl⟩, ⟨h1, h2, hi⟩, fun y => ⟨.inl, ?_⟩⟩
    rintro (h | ⟨h, h'⟩)
    · exact h
    · exact absurd h h'
  | succ n ih =>
    intro z f k x hn hk hv hi hd h1 h2
    obtain ⟨j, rfl⟩ : ∃ j, k = j + 1 := ⟨k - 1, by omega⟩
    have hp := pow_pos' (k := j)
    have hs := pow_succ2 (k := j)
    have hm := mod_half (show j + 1 ≤ 4 by omega) hi.2.1
    have hsub : j + 1 - (n + 1) = j - n := by omega
    simp only [splitX, Nat.add_sub_cancel, hsub]
    split
    · rename_i hx
      obtain ⟨s1, s2, s3⟩ := split_step (show j < 4 by omega) hv hi hd (.inr rfl)
      have hin : insideZ z f j := inside_of_sub (j := j + 1) (by omega) (by omega) hi hm.1 (by omega) (by omega)
      obtain ⟨r1, r2, ⟨r3, r4, r5⟩, r6⟩ := ih (x := x) (show n ≤ j by omega) (by omega) s1 (s2.inside.2 hin) (fun y h3 h4 h => by
        rcases (s3 y).1 h with h | h
        · exact hd y (by omega) (by omega) h
        · omega) h1 hx
      refine ⟨r1, r2.trans s2, ⟨r3, r4, s2.inside.1 r5⟩, fun y => ?_⟩
      rw [r6, s3]
      have hle : f ≤ (splitX n (z.set j (insI (z.fr j) (f + 2 ^ j))) f j x).2 ∧ (splitX n (z.set j (insI (z.fr j) (f + 2 ^ j))) f j x).2 + 2 ^ (j - n) ≤ f + 2 ^ j := nested (k := j - n) (j := j) (x := x) (by omega) (by omega) r5.2.1 hm.1 h1 hx r3 r4
      constructor
      · rintro ((h | h) | h)
        · exact .inl h
        · exact .inr ⟨by omega, by omega⟩
        · exact .inr ⟨by omega, h.2⟩
      · rintro (h | ⟨h, h'⟩)
        · exact .inl (.inl h)
        · by_cases hy : y < f + 2 ^ j
          · exact .inr ⟨by omega, h'⟩
          · exact .inl (.inr (by omega))
    · rename_i hx
      obtain ⟨s1, s2, s3⟩ := split_step (show j < 4 by omega) hv hi hd (.inl rfl)
      have hin : insideZ z (f + 2 ^ j) j := inside_of_sub (j := j + 1) (by omega) (by omega) hi hm.2 (by omega) (by omega)
      obtain ⟨r1, r2, ⟨r3, r4, r5⟩, r6⟩ := ih (x := x) (show n ≤ j by omega) (by omega) s1 (s2.inside.2 hin) (fun y h3 h4 h => by
        rcases (s3 y).1 h with h | h
        · exact hd y (by omega) (by omega) h
        · omega) (by omega) (by omega)
      refine ⟨r1, r2.trans s2, ⟨r3, r4, s2.inside.1 r5⟩, fun y => ?_⟩
      rw [r6, s3]
      have hle : f + 2 ^ j ≤ (splitX n (z.set j (insI (z.fr j) f)) (f + 2 ^ j) j x).2 ∧ (splitX n (z.set j (insI (z.fr j) f)) (f + 2 ^ j) j x).2 + 2 ^ (j - n) ≤ f + 2 ^ j + 2 ^ j := nested (k := j - n) (j := j) (x := x) (by omega) (by omega) r5.2.1 hm.2 (by omega) (by omega) r3 r4
      constructor
      · rintro ((h | h) | h)
        · exact .inl h
        · exact .inr ⟨by omega, by omega⟩
        · exact .inr ⟨by omega, h.2⟩
      · rintro (h | ⟨h, h'⟩)
        · exact .inl (.inl h)
        · by_cases hy : f + 2 ^ j ≤ y
          · exact .inr ⟨by omega, h'⟩
          · exact .inl (.inr (by omega))

theorem split_first : ∀ (n : Nat) {z : Zn} {f : Int} {k : Nat}, (splitX n z f k f).2 = f := by
  intro n
  induction n with
  | zero => intros; rfl
  | succ n ih =>
    intro z f k
    have hp := pow_pos' (k := k - 1)
    simp only [splitX]
    rw [if_pos (by omega)]
    exact ih

theorem tail_ok {l : List Int} {f : Int} {r : List Int} (hs : Sorted l) (e : l = f :: r) : Sorted r ∧ ∀ y, y ∈ r ↔ y ∈ l ∧ y ≠ f := by
  subst e
  obtain ⟨h1, h2⟩ := List.pairwise_cons.1 hs
  refine ⟨h2, fun y => ⟨fun h => ⟨by simp [h], fun e => ?_⟩, fun ⟨h, hn⟩ => ?_⟩⟩
  · have := h1 y h; omega
  · rcases List.mem_cons.1 h with h | h
    · exact absurd h hn
    · exact h

/-- A free block is split until the part of order o that holds x is left. -/
theorem split_canon {z : Zn} {f x : Int} {k o : Nat} {l : List Int} (hv : Valid z) (hk : k ≤ 4) (ho : o ≤ k) (hf : f ∈ z.fr k) (hl : Sorted l) (hm : ∀ y, y ∈ l ↔ y ∈ z.fr k ∧ y ≠ f) (h1 : f ≤ x) (h2 : x < f + 2 ^ k) :
    (splitX (k - o) (z.set k l) f k x).1 = canon z fun y => free z y ∧ ¬ (x - x % 2 ^ o ≤ y ∧ y < x - x % 2 ^ o + 2 ^ o) := by
  obtain ⟨q1, q2⟩ := hv.remove hk hf hl hm
  have hin := hv.inside k f hk hf
  obtain ⟨r1, r2, ⟨r3, r4, r5⟩, r6⟩ := split_valid (k - o) (x := x) (Nat.sub_le _ _) hk q1 (sameP.set.inside.2 hin) (fun y h3 h4 h => ((q2 y).1 h).2 ⟨h3, h4⟩) h1 h2
  have hoo : k - (k - o) = o := by omega
  rw [hoo] at r4 r5 r6
  have hb := block_start (show o ≤ 4 by omega) r5.2.1 r3 r4
  have hn := nested (k := o) (j := k) (x := x) ho hk r5.2.1 hin.2.1 h1 h2 r3 r4
  rw [r1.canon, canon_same r2, canon_same sameP.set]
  refine canon_congr fun y => ?_
  rw [r6, q2, hb]
  constructor
  · rintro (h | h)
    · exact ⟨h.1, fun h' => h.2 (by omega)⟩
    · exact ⟨⟨k, f, hk, hf, h.1.1, h.1.2⟩, h.2⟩
  · rintro ⟨h, h'⟩
    by_cases hy : f ≤ y ∧ y < f + 2 ^ k
    · exact .inr ⟨hy, h'⟩
    · exact .inl ⟨h, hy⟩
end Go.AM

/- What Alloc, Free, Take, IsFree and Build answer, in plain words. -/
namespace Go.AM
open Go

/-- k is the least order from o on that has a free block. -/
def IsFk (z : Zn) (o k : Nat) : Prop := o ≤ k ∧ k ≤ 4 ∧ z.fr k ≠ [] ∧ ∀ j, o ≤ j → j < k → z.fr j = []
theorem IsFk.uniq {z : Zn} {o k j : Nat} (h : IsFk z o k) (h' : IsFk z o j) : k = j := by
  rcases Nat.lt_trichotomy k j with e | e | e
  · exact absurd (h'.2.2.2 k h.1 e) h.2.2.1
  · exact e
  · exact absurd (h.2.2.2 j h'.1 e) h'.2.2.1

open Classical in
noncomputable def allocR (z : Zn) (o : Int) : Zn × Int × Int :=
  if checkZ z ≠ 0 then (zeroZ, 0, checkZ z) else if ¬ (0 ≤ o ∧ o ≤ 4) then (zeroZ, 0, 2)
  else if h : ∃ k, IsFk z o.toNat k then (canon z fun y => free z y ∧ ¬ (gi (z.fr h.choose) 0 ≤ y ∧ y < gi (z.fr h.choose) 0 + 2 ^ o.toNat), gi (z.fr h.choose) 0, 0)
  else (zeroZ, 0, 16)
theorem allocR_bad {z : Zn} {o : Int} (h : checkZ z ≠ 0) : allocR z o = (zeroZ, 0, checkZ z) := by unfold allocR; rw [if_pos h]
theorem allocR_order {z : Zn} {o : Int} (h : checkZ z = 0) (ho : ¬ (0 ≤ o ∧ o ≤ 4)) : allocR z o = (zeroZ, 0, 2) := by unfold allocR; rw [if_neg (by simp [h]), if_pos ho]
theorem allocR_none {z : Zn} {o : Nat} (h : checkZ z = 0) (ho : o ≤ 4) (hn : ∀ k, o ≤ k → k ≤ 4 → z.fr k = []) : allocR z o = (zeroZ, 0, 16) := by
  unfold allocR
  rw [if_neg (by simp [h]), if_neg (by omega), dif_neg]
  rintro ⟨k, hk⟩
  simp only [Int.toNat_natCast] at hk
  exact hk.2.2.1 (hn k hk.1 hk.2.1)
theorem allocR_at {z : Zn} {o k : Nat} (h : checkZ z = 0) (hk : IsFk z o k) : allocR z o = (canon z fun y => free z y ∧ ¬ (gi (z.fr k) 0 ≤ y ∧ y < gi (z.fr k) 0 + 2 ^ o), gi (z.fr k) 0, 0) := by
  unfold allocR
  have h1 := hk.1
  have h2 := hk.2.1
  have hex : ∃ k, IsFk z (o : Int).toNat k := ⟨k, by simpa using hk⟩
  rw [if_neg (by simp [h]), if_neg (by omega), dif_pos hex]
  have e : hex.choose = k := (IsFk.uniq (by simpa using hex.choose_spec) hk)
  rw [e, Int.toNat_natCast]

theorem zeroZ_small : small zeroZ := fun k hk => by rcases le4 hk with rfl | rfl | rfl | rfl | rfl <;> simp [zeroZ, Zn.fr]
theorem canon_sameP (z : Zn) (S : Int → Prop) : sameP (canon z S) z := by simp [sameP, canon]
theorem canon_small {z : Zn} {S : Int → Prop} (h : rangesZ z) : small (canon z S) := fun k hk => by
  have := valid_small ((canon_sameP z S).ranges.2 h) canon_valid k hk
  omega
theorem check_parts {z : Zn} (h : checkZ z = 0) : rangesZ z ∧ Valid z := checkZ_zero.1 h

theorem allocR_small (z : Zn) (o : Int) : small (allocR z o).1 := by
  unfold allocR
  split
  · exact zeroZ_small
  · rename_i h
    have h := (check_parts (Decidable.of_not_not h)).1
    split
    · exact zeroZ_small
    · split
      · exact canon_small h
      · exact zeroZ_small

/-- What buddy.Alloc makes: the first block of order k is split down to order o. -/
theorem alloc_split {z : Zn} {o k : Nat} {f : Int} {l : List Int} (h : checkZ z = 0) (ho : o ≤ k) (hk : k ≤ 4) (hl : z.fr k = f :: l) (hn : ∀ j, o ≤ j → j < k → z.fr j = []) :
    allocR z o = ((splitX (k - o) (z.set k l) f k f).1, f, 0) := by
  obtain ⟨hr, hv⟩ := check_parts h
  have hf : f ∈ z.fr k := by simp [hl]
  have hpk : (1 : Int) ≤ 2 ^ k := pow_pos'
  obtain ⟨t1, t2⟩ := tail_ok (hv.sorted k hk) hl
  have hm : f % 2 ^ o = 0 := by
    have := (hv.inside k f hk hf).2.1
    rcases le4 hk with rfl | rfl | rfl | rfl | rfl <;> (have := le4 (show o ≤ 4 by omega); rcases this with rfl | rfl | rfl | rfl | rfl <;> first | (exfalso; omega) | (simp at *; try omega))
  rw [allocR_at h ⟨ho, hk, by simp [hl], hn⟩, split_canon hv hk ho hf t1 t2 (Int.le_refl _) (by omega)]
  have e : gi (z.fr k) 0 = f := by rw [hl]; rfl
  rw [e, hm, Int.sub_zero]

open Classical in
noncomputable def freeR (z : Zn) (f o : Int) : Zn × Int :=
  if checkZ z ≠ 0 then (zeroZ, checkZ z) else if ¬ (0 ≤ o ∧ o ≤ 4 ∧ insideZ z f o.toNat) then (zeroZ, 2)
  else if ∃ y, (f ≤ y ∧ y < f + 2 ^ o.toNat) ∧ free z y then (zeroZ, 7) else (canon z fun y => free z y ∨ (f ≤ y ∧ y < f + 2 ^ o.toNat), 0)
theorem freeR_bad {z : Zn} {f o : Int} (h : checkZ z ≠ 0) : freeR z f o = (zeroZ, checkZ z) := by unfold freeR; rw [if_pos h]
theorem freeR_range {z : Zn} {f o : Int} (h : checkZ z = 0) (ho : ¬ (0 ≤ o ∧ o ≤ 4 ∧ insideZ z f o.toNat)) : freeR z f o = (zeroZ, 2) := by unfold freeR; rw [if_neg (by simp [h]), if_pos ho]
theorem freeR_some {z : Zn} {f y : Int} {o : Nat} (h : checkZ z = 0) (ho : o ≤ 4) (hi : insideZ z f o) (hy : f ≤ y ∧ y < f + 2 ^ o) (hf : free z y) : freeR z f o = (zeroZ, 7) := by
  unfold freeR
  rw [if_neg (by simp [h]), if_neg (by simp only [Int.toNat_natCast]; exact fun h => h ⟨by omega, by omega, hi⟩), if_pos ⟨y, by simpa using hy, hf⟩]
theorem freeR_ok {z : Zn} {f : Int} {o : Nat} (h : checkZ z = 0) (ho : o ≤ 4) (hi : insideZ z f o) (hy : ∀ y, f ≤ y → y < f + 2 ^ o → ¬ free z y) : freeR z f o = (canon z fun y => free z y ∨ (f ≤ y ∧ y < f + 2 ^ o), 0) := by
  unfold freeR
  rw [if_neg (by simp [h]), if_neg (by simp only [Int.toNat_natCast]; exact fun h => h ⟨by omega, by omega, hi⟩), if_neg (by simp only [Int.toNat_natCast]; rintro ⟨y, h1, h2⟩; exact hy y h1.1 h1.2 h2), Int.toNat_natCast]
theorem freeR_small (z : Zn) (f o : Int) : small (freeR z f o).1 := by
  unfold freeR
  split
  · exact zeroZ_small
  · rename_i h
    have h := (check_parts (Decidable.of_not_not h)).1
    split
    · exact zeroZ_small
    · split
      · exact zeroZ_small
      · exact canon_small h

open Classical in
noncomputable def takeR (z : Zn) (f : Int) : Zn × Int :=
  if checkZ z ≠ 0 then (zeroZ, checkZ z) else if ¬ insideZ z f 0 then (zeroZ, 2)
  else if ¬ free z f then (zeroZ, 6) else (canon z fun y => free z y ∧ y ≠ f, 0)
theorem takeR_bad {z : Zn} {f : Int} (h : checkZ z ≠ 0) : takeR z f = (zeroZ, checkZ z) := by unfold takeR; rw [if_pos h]
theorem takeR_range {z : Zn} {f : Int} (h : checkZ z = 0) (ho : ¬ insideZ z f 0) : takeR z f = (zeroZ, 2) := by unfold takeR; rw [if_neg (by simp [h]), if_pos ho]
theorem takeR_none {z : Zn} {f : Int} (h : checkZ z = 0) (hi : insideZ z f 0) (hy : ¬ free z f) : takeR z f = (zeroZ, 6) := by
  unfold takeR
  rw [if_neg (by simp [h]), if_neg (by simpa using hi), if_pos hy]
theorem takeR_ok {z : Zn} {f : Int} (h : checkZ z = 0) (hi : insideZ z f 0) (hy : free z f) : takeR z f = (canon z fun y => free z y ∧ y ≠ f, 0) := by
  unfold takeR
  rw [if_neg (by simp [h]), if_neg (by simpa using hi), if_neg (by simpa using hy)]
theorem takeR_small (z : Zn) (f : Int) : small (takeR z f).1 := by
  unfold takeR
  split
  · exact zeroZ_small
  · rename_i h
    have h := (check_parts (Decidable.of_not_not h)).1
    split
    · exact zeroZ_small
    · split
      · exact zeroZ_small
      · exact canon_small h

/-- What buddy.Take makes: the block of order k that holds x is split down to the frame. -/
theorem take_split {z : Zn} {k : Nat} {x : Int} (h : checkZ z = 0) (hk : k ≤ 4) (hf : x - x % 2 ^ k ∈ z.fr k) :
    takeR z x = ((splitX k (z.set k (delI (z.fr k) (x - x % 2 ^ k))) (x - x % 2 ^ k) k x).1, 0) := by
  obtain ⟨hr, hv⟩ := check_parts h
  obtain ⟨t1, t2⟩ := delI_ok (hv.sorted k hk) hf
  have hms := mod_self (g := x) hk
  have hfr : free z x := ⟨k, _, hk, hf, hms.2.1, hms.2.2⟩
  have hin := hv.inz x hfr
  rw [takeR_ok h ((inside0 hr).2 hin) hfr]
  have := split_canon (o := 0) hv hk (Nat.zero_le _) hf t1 t2 hms.2.1 hms.2.2
  rw [Nat.sub_zero] at this
  rw [this]
  congr 1
  refine canon_congr fun y => ?_
  have : x % 2 ^ 0 = 0 := by simp
  rw [this]
  constructor
  · rintro ⟨h1, h2⟩; exact ⟨h1, fun ⟨h3, h4⟩ => h2 (by simp at h4; omega)⟩
  · rintro ⟨h1, h2⟩; exact ⟨h1, fun e => h2 (by subst e; exact ⟨by omega, by simp; omega⟩)⟩

/-- The order of the free block that holds a frame, and its first frame; -1 and 0 if there is none. -/
def bs (x : Int) (k : Nat) : Int := x - x % 2 ^ k
open Classical in
noncomputable def blkR (z : Zn) (x : Int) : Int × Int :=
  if bs x 0 ∈ z.f0 then (0, bs x 0) else if bs x 1 ∈ z.f1 then (1, bs x 1) else if bs x 2 ∈ z.f2 then (2, bs x 2) else if bs x 3 ∈ z.f3 then (3, bs x 3) else if bs x 4 ∈ z.f4 then (4, bs x 4) else (-1, 0)
theorem free_bs {z : Zn} (hv : Valid z) {x : Int} : free z x ↔ ∃ k, k ≤ 4 ∧ bs x k ∈ z.fr k := by
  constructor
  · rintro ⟨k, f, hk, hf, h1, h2⟩
    have := block_start hk (hv.inside k f hk hf).2.1 h1 h2
    exact ⟨k, hk, by unfold bs; rw [this]; exact hf⟩
  · rintro ⟨k, hk, h⟩
    have := mod_self (g := x) hk
    exact ⟨k, _, hk, h, this.2.1, this.2.2⟩
theorem blkR_cases {z : Zn} (hv : Valid z) (x : Int) : (¬ free z x ∧ blkR z x = (-1, 0)) ∨ ∃ k : Nat, k ≤ 4 ∧ bs x k ∈ z.fr k ∧ free z x ∧ blkR z x = ((k : Int), bs x k) := by
  have hfr := free_bs hv (x := x)
  unfold blkR
  split
  · rename_i h; exact .inr ⟨0, by omega, h, hfr.2 ⟨0, by omega, h⟩, rfl⟩
  split
  · rename_i h; exact .inr ⟨1, by omega, h, hfr.2 ⟨1, by omega, h⟩, rfl⟩
  split
  · rename_i h; exact .inr ⟨2, by omega, h, hfr.2 ⟨2, by omega, h⟩, rfl⟩
  split
  · rename_i h; exact .inr ⟨3, by omega, h, hfr.2 ⟨3, by omega, h⟩, rfl⟩
  split
  · rename_i h; exact .inr ⟨4, by omega, h, hfr.2 ⟨4, by omega, h⟩, rfl⟩
  refine .inl ⟨fun hf => ?_, rfl⟩
  obtain ⟨k, hk, h⟩ := hfr.1 hf
  rcases le4 hk with rfl | rfl | rfl | rfl | rfl <;> simp [Zn.fr] at h <;> contradiction

/-- The error of a frame in a list of frames. -/
noncomputable def badB (z : Zn) (l : List Int) (i : Nat) : Int := open Classical in if ¬ insideZ z (gi l i) 0 then 2 else if 0 < i ∧ gi l i ≤ gi l (i - 1) then 10 else 0
def FirstB (z : Zn) (l : List Int) (i : Nat) : Prop := i < l.length ∧ badB z l i ≠ 0 ∧ ∀ j, j < i → badB z l j = 0
theorem FirstB.uniq {z : Zn} {l : List Int} {k j : Nat} (h : FirstB z l k) (h' : FirstB z l j) : k = j := by
  rcases Nat.lt_trichotomy k j with e | e | e
  · exact absurd (h'.2.2 k e) h.2.1
  · exact e
  · exact absurd (h.2.2 j e) h'.2.1
open Classical in
noncomputable def buildR (z : Zn) (l : List Int) : Zn × Int :=
  if ¬ rangesZ z then (zeroZ, 2) else if h : ∃ i, FirstB z l i then (zeroZ, badB z l h.choose) else (canon z (· ∈ l), 0)
theorem buildR_range {z : Zn} {l : List Int} (h : ¬ rangesZ z) : buildR z l = (zeroZ, 2) := by unfold buildR; rw [if_pos h]
theorem buildR_bad {z : Zn} {l : List Int} {i : Nat} (h : rangesZ z) (hi : FirstB z l i) : buildR z l = (zeroZ, badB z l i) := by
  unfold buildR
  have hex : ∃ i, FirstB z l i := ⟨i, hi⟩
  rw [if_neg (by simpa using h), dif_pos hex, hex.choose_spec.uniq hi]
theorem buildR_ok {z : Zn} {l : List Int} (h : rangesZ z) (hi : ∀ j, j < l.length → badB z l j = 0) : buildR z l = (canon z (· ∈ l), 0) := by
  unfold buildR
  rw [if_neg (by simpa using h), dif_neg]
  rintro ⟨i, h1, h2, _⟩
  exact h2 (hi i h1)
theorem buildR_small (z : Zn) (l : List Int) : small (buildR z l).1 := by
  unfold buildR
  split
  · exact zeroZ_small
  · rename_i h
    have h := Decidable.of_not_not h
    split
    · exact zeroZ_small
    · exact canon_small h

/-- A list of numbers of which some are set. -/
noncomputable def upS (s : List Int) (R : Int → Prop) (v : Int) : List Int := open Classical in (List.range 256).map fun (x : Nat) => if R (x : Int) then v else gi s x
@[simp] theorem upS_len (s : List Int) (R : Int → Prop) (v : Int) : (upS s R v).length = 256 := by simp [upS]
open Classical in
theorem upS_gi {s : List Int} {R : Int → Prop} {v : Int} {y : Nat} (h : y < 256) : gi (upS s R v) y = if R (y : Int) then v else gi s y := by
  rw [gi_eq (by simpa using h)]
  simp [upS]
theorem upS_congr {s : List Int} {R R' : Int → Prop} {v : Int} (h : ∀ x, R x ↔ R' x) : upS s R v = upS s R' v := by
  have : R = R' := funext fun x => propext (h x)
  rw [this]
theorem list256 {s : List Int} (h : s.length = 256) {t : List Int} (ht : t.length = 256) (hg : ∀ y, y < 256 → gi s y = gi t y) : s = t := by
  apply List.ext_getElem (by omega)
  intro n h1 h2
  have := hg n (by omega)
  rwa [gi_eq h1, gi_eq h2] at this
theorem upS_none {s : List Int} {R : Int → Prop} {v : Int} (h : s.length = 256) (hR : ∀ x, ¬ R x) : upS s R v = s :=
  list256 (by simp) h fun y hy => by rw [upS_gi hy, if_neg (hR _)]
open Classical in
theorem upS_set {s : List Int} {R : Int → Prop} {v : Int} {y : Nat} : (irows (upS s R v)).set y [I v] = irows (upS s (fun x => R x ∨ x = (y : Int)) v) := by
  rw [irows_set]
  refine congrArg irows (list256 (by simp) (by simp) fun x hx => ?_)
  rw [upS_gi hx, gi_eq (by simpa using hx), List.getElem_set]
  have h1 := upS_gi (s := s) (R := R) (v := v) hx
  rw [gi_eq (by simpa using hx)] at h1
  rw [h1]
  by_cases e : y = x
  · subst e
    rw [if_pos rfl, if_pos (Or.inr rfl)]
  · rw [if_neg e]
    by_cases hR : R (x : Int)
    · rw [if_pos hR, if_pos (Or.inl hR)]
    · rw [if_neg hR, if_neg (by rintro (h | h); exact hR h; omega)]
theorem gi_out {s : List Int} {y : Nat} (h : s.length ≤ y) : gi s y = 0 := by
  unfold gi
  rw [List.getD_eq_getElem?_getD, List.getElem?_eq_none h]; rfl
theorem setOf_lt {s : List Int} {x : Int} (hs : s.length = 256) (h : setOf s x) : 0 ≤ x ∧ x < 256 := by
  refine ⟨h.1, ?_⟩
  by_cases hx : x.toNat < 256
  · have := h.1; omega
  · exact absurd (gi_out (by omega)) h.2
theorem setOf_up0 {s : List Int} {R : Int → Prop} (hs : s.length = 256) (x : Int) : setOf (upS s R 0) x ↔ setOf s x ∧ ¬ R x := by
  constructor
  · intro h
    obtain ⟨h0, h1⟩ := setOf_lt (by simp) h
    have h2 := h.2
    rw [upS_gi (by omega)] at h2
    have hx : ((x.toNat : Nat) : Int) = x := by omega
    rw [hx] at h2
    split at h2
    · exact absurd rfl h2
    · exact ⟨⟨h0, h2⟩, ‹_›⟩
  · rintro ⟨h, hR⟩
    obtain ⟨h0, h1⟩ := setOf_lt hs h
    refine ⟨h0, ?_⟩
    have hx : ((x.toNat : Nat) : Int) = x := by omega
    rw [upS_gi (by omega), hx, if_neg hR]
    exact h.2
theorem setOf_up1 {s : List Int} {R : Int → Prop} (hs : s.length = 256) (hR : ∀ x, R x → 0 ≤ x ∧ x < 256) (x : Int) : setOf (upS s R 1) x ↔ setOf s x ∨ R x := by
  constructor
  · intro h
    obtain ⟨h0, h1⟩ := setOf_lt (by simp) h
    have h2 := h.2
    rw [upS_gi (by omega)] at h2
    have hx : ((x.toNat : Nat) : Int) = x := by omega
    rw [hx] at h2
    split at h2
    · exact .inr ‹_›
    · exact .inl ⟨h0, h2⟩
  · intro h
    have h01 : 0 ≤ x ∧ x < 256 := h.elim (setOf_lt hs) (hR x)
    refine ⟨h01.1, ?_⟩
    have hx : ((x.toNat : Nat) : Int) = x := by omega
    rw [upS_gi (by omega), hx]
    split
    · decide
    · exact (h.resolve_right ‹_›).2
theorem setOf_cnts {z : Zn} (hr : rangesZ z) (hv : Valid z) (x : Int) : setOf (cnts (coverL z 5)) x ↔ free z x := by
  rw [free_cover]
  constructor
  · intro h
    obtain ⟨h0, h1⟩ := setOf_lt (cnts_len _) h
    have h2 := h.2
    rw [cnts_gi (by omega)] at h2
    have hx : ((x.toNat : Nat) : Int) = x := by omega
    rw [hx] at h2
    exact List.count_pos_iff.1 (by omega)
  · intro h
    have hin := hv.inz x (free_cover.2 h)
    have hrr := hr
    unfold rangesZ at hrr
    refine ⟨by omega, ?_⟩
    have hx : ((x.toNat : Nat) : Int) = x := by omega
    rw [cnts_gi (by omega), hx]
    have := List.count_pos_iff.2 h
    omega
/-- What holds before each round of splitting. -/
structure SplitInv (z : Zn) (x : Int) (o : Nat) (T : Zn × Int) (y : Zn) (f : Int) (k : Nat) : Prop where
  valid : Valid y
  same : sameP y z
  inside : insideZ y f k
  none : ∀ w, f ≤ w → w < f + 2 ^ k → ¬ free y w
  lo : f ≤ x
  hi : x < f + 2 ^ k
  ok : o ≤ k
  k4 : k ≤ 4
  res : splitX (k - o) y f k x = T
theorem SplitInv.low {z y : Zn} {x f : Int} {o k : Nat} {T : Zn × Int} (h : SplitInv z x o T y f (k + 1)) (ho : o ≤ k) (hx : x < f + 2 ^ k) : SplitInv z x o T (y.set k (insI (y.fr k) (f + 2 ^ k))) f k := by
  have h4 := h.k4
  have hp := pow_pos' (k := k)
  have hs := pow_succ2 (k := k)
  have hm := mod_half (show k + 1 ≤ 4 by omega) h.inside.2.1
  obtain ⟨s1, s2, s3⟩ := split_step (show k < 4 by omega) h.valid h.inside h.none (.inr rfl)
  refine ⟨s1, s2.trans h.same, s2.inside.2 (inside_of_sub (j := k + 1) (by omega) (by omega) h.inside hm.1 (by omega) (by omega)), fun w h1 h2 hw => ?_, h.lo, hx, ho, by omega, ?_⟩
  · rcases (s3 w).1 hw with hw | hw
    · exact h.none w h1 (by omega) hw
    · omega
  · have := h.res
    rw [show k + 1 - o = (k - o) + 1 by omega] at this
    simp only [splitX, Nat.add_sub_cancel] at this
    rwa [if_pos hx] at this
theorem SplitInv.high {z y : Zn} {x f : Int} {o k : Nat} {T : Zn × Int} (h : SplitInv z x o T y f (k + 1)) (ho : o ≤ k) (hx : ¬ x < f + 2 ^ k) : SplitInv z x o T (y.set k (insI (y.fr k) f)) (f + 2 ^ k) k := by
  have h4 := h.k4
  have hp := pow_pos' (k := k)
  have hs := pow_succ2 (k := k)
  have hh := h.hi
  have hm := mod_half (show k + 1 ≤ 4 by omega) h.inside.2.1
  obtain ⟨s1, s2, s3⟩ := split_step (show k < 4 by omega) h.valid h.inside h.none (.inl rfl)
  refine ⟨s1, s2.trans h.same, s2.inside.2 (inside_of_sub (j := k + 1) (by omega) (by omega) h.inside hm.2 (by omega) (by omega)), fun w h1 h2 hw => ?_, by omega, by omega, ho, by omega, ?_⟩
  · rcases (s3 w).1 hw with hw | hw
    · exact h.none w (by omega) (by omega) hw
    · omega
  · have := h.res
    rw [show k + 1 - o = (k - o) + 1 by omega] at this
    simp only [splitX, Nat.add_sub_cancel] at this
    rwa [if_neg hx] at this
theorem SplitInv.done {z y : Zn} {x f : Int} {o : Nat} {T : Zn × Int} (h : SplitInv z x o T y f o) : T = (y, f) := by
  have := h.res
  rw [Nat.sub_self] at this
  exact this.symm
theorem SplitInv.start {z : Zn} (hv : Valid z) {x f : Int} {o k : Nat} {l : List Int} (hk : k ≤ 4) (ho : o ≤ k) (hf : f ∈ z.fr k) (hl : Sorted l) (hm : ∀ y, y ∈ l ↔ y ∈ z.fr k ∧ y ≠ f) (h1 : f ≤ x) (h2 : x < f + 2 ^ k) :
    SplitInv z x o (splitX (k - o) (z.set k l) f k x) (z.set k l) f k := by
  obtain ⟨q1, q2⟩ := hv.remove hk hf hl hm
  exact ⟨q1, sameP.set, sameP.set.inside.2 (hv.inside k f hk hf), fun y h3 h4 h => ((q2 y).1 h).2 ⟨h3, h4⟩, h1, h2, ho, hk, rfl⟩
theorem SplitInv.small {z y : Zn} {x f : Int} {o k : Nat} {T : Zn × Int} (h : SplitInv z x o T y f k) (hz : rangesZ z) : small y := fun k hk => by
  have := valid_small (h.same.ranges.2 hz) h.valid k hk
  omega
end Go.AM

/- Building a zone frame by frame, in plain words. -/
namespace Go.AM
open Go

theorem badB_zero {z : Zn} {l : List Int} {i : Nat} (h : badB z l i = 0) : insideZ z (gi l i) 0 ∧ (0 < i → gi l (i - 1) < gi l i) := by
  unfold badB at h
  split at h
  · simp at h
  · rename_i h1
    split at h
    · simp at h
    · rename_i h2
      exact ⟨Decidable.of_not_not h1, fun h0 => by omega⟩
theorem badB_out {z : Zn} {l : List Int} {i : Nat} (h : ¬ insideZ z (gi l i) 0) : badB z l i = 2 := by unfold badB; rw [if_pos h]
theorem badB_order {z : Zn} {l : List Int} {i : Nat} (h : insideZ z (gi l i) 0) (h0 : 0 < i) (h1 : gi l i ≤ gi l (i - 1)) : badB z l i = 10 := by unfold badB; rw [if_neg (by simpa using h), if_pos ⟨h0, h1⟩]
theorem badB_ok {z : Zn} {l : List Int} {i : Nat} (h : insideZ z (gi l i) 0) (h1 : 0 < i → gi l (i - 1) < gi l i) : badB z l i = 0 := by
  unfold badB
  rw [if_neg (by simpa using h), if_neg]
  rintro ⟨h0, h2⟩
  have := h1 h0; omega
theorem good_sorted {z : Zn} {l : List Int} (h : ∀ j, j < l.length → badB z l j = 0) : Sorted l := sorted_adj fun i h0 hi => (badB_zero (h i hi)).2 h0

/-- The zone with the first n frames of a list. -/
noncomputable def bz (z : Zn) (l : List Int) (n : Nat) : Zn := canon z fun x => x ∈ l.take n
theorem bz_zero (z : Zn) (l : List Int) : bz z l 0 = noL z := canon_empty fun x hx => by simp at hx
theorem bz_full (z : Zn) (l : List Int) : bz z l l.length = canon z (· ∈ l) := by unfold bz; rw [List.take_length]
theorem bz_same (z : Zn) (l : List Int) (n : Nat) : sameP (bz z l n) z := canon_sameP z _
theorem bz_ok {z : Zn} {l : List Int} {n : Nat} (hz : rangesZ z) : okPut (bz z l n) :=
  ⟨(bz_same z l n).ranges.2 hz, fun k hk => canon_valid.sorted k hk, canon_small hz⟩
theorem take_next {l : List Int} {i : Nat} (hi : i < l.length) : l.take (i + 1) = l.take i ++ [gi l i] := by
  rw [gi_eq hi, List.take_append_getElem hi]
theorem bz_succ {z : Zn} {l : List Int} {i : Nat} (hz : rangesZ z) (h : ∀ j, j < l.length → badB z l j = 0) (hi : i < l.length) : putZ 4 (bz z l i) (gi l i) 0 = bz z l (i + 1) := by
  have hs := bz_same z l i
  have hin := (badB_zero (h i hi)).1
  have hin' : insideZ (bz z l i) (gi l i) 0 := hs.inside.2 hin
  have hIn : In z fun x => x ∈ l.take i := fun x hx => by
    obtain ⟨j, hj, rfl⟩ := List.mem_iff_getElem.1 (List.mem_of_mem_take hx)
    have := (badB_zero (h j hj)).1
    rw [gi_eq hj] at this
    exact (inside0 hz).1 this
  have hfr : ∀ x, free (bz z l i) x ↔ x ∈ l.take i := fun x => free_canon (by unfold rangesZ at hz; omega) hIn
  have hsorted := good_sorted h
  have hnew : gi l i ∉ l.take i := fun hm => by
    have h2 := take_next hi
    have h3 := sorted_take hsorted (i + 1)
    rw [h2] at h3
    have := (List.pairwise_append.1 h3).2.2 _ hm (gi l i) (by simp)
    omega
  have := put_canon (z := bz z l i) (f := gi l i) (k := 0) (by omega) canon_valid hin' (fun x h1 h2 hf => by
    have e : x = gi l i := by simp at h2; omega
    rw [e, hfr] at hf
    exact hnew hf)
  rw [show 4 - 0 = 4 from rfl] at this
  rw [this, canon_same hs]
  unfold bz
  refine canon_congr fun g => ?_
  have h3 := hfr g
  unfold bz at h3
  have h4 : (gi l i ≤ g ∧ g < gi l i + 2 ^ 0) ↔ g = gi l i := by simp; omega
  rw [h3, take_next hi, h4, List.mem_append, List.mem_singleton]
/-- What put makes of a zone that is given cell by cell. -/
theorem F48_bz {z : Zn} {l : List Int} {i : Nat} (hz : rangesZ z) (hb : ∀ j, j < l.length → badB z l j = 0) (hi : i < l.length) : F48 (.rf [I z.node, I z.kind, I z.start, I z.count, I z.least, .ow 1 (irows (bz z l i).f0), .ow 1 (irows (bz z l i).f1), .ow 1 (irows (bz z l i).f2), .ow 1 (irows (bz z l i).f3), .ow 1 (irows (bz z l i).f4)]) [I (gi l i), I 0] =
    some (.tup [], .rf [I z.node, I z.kind, I z.start, I z.count, I z.least, .ow 1 (irows (bz z l (i + 1)).f0), .ow 1 (irows (bz z l (i + 1)).f1), .ow 1 (irows (bz z l (i + 1)).f2), .ow 1 (irows (bz z l (i + 1)).f3), .ow 1 (irows (bz z l (i + 1)).f4)]) := by
  have hin := (badB_zero (hb i hi)).1
  have hbd := (inside0 hz).1 hin
  have h := F48_at (z := bz z l i) (f := gi l i) (k := 0) (bz_ok hz) (by unfold rangesZ at hz; omega) (by unfold rangesZ at hz; omega) (by simp) (by omega)
  rw [show 4 - 0 = 4 from rfl, bz_succ hz hb hi] at h
  exact h

theorem setOf_rep (n : Nat) (x : Int) : ¬ setOf (List.replicate n 0) x := fun h => by
  apply h.2
  by_cases hx : x.toNat < n
  · rw [gi_eq (by simpa using hx)]; simp
  · exact gi_out (by simp; omega)
/-- 256 zeros. -/
def zs256 : List Int := List.replicate 256 0
@[simp] theorem zs_len : zs256.length = 256 := List.length_replicate
theorem canon_list {z : Zn} {l : List Int} (hz : rangesZ z) (hb : ∀ j, j < l.length → badB z l j = 0) : canon z (setOf (upS zs256 (· ∈ l) 1)) = canon z (· ∈ l) :=
  canon_congr fun x => by
    rw [setOf_up1 zs_len fun y hy => by
      obtain ⟨j, hj, rfl⟩ := List.mem_iff_getElem.1 hy
      have := (badB_zero (hb j hj)).1
      rw [gi_eq hj] at this
      have := (inside0 hz).1 this
      unfold rangesZ at hz
      omega]
    exact ⟨fun h => h.resolve_left (setOf_rep 256 x), .inr⟩
theorem upS_take {s : List Int} {l : List Int} {i f : Nat} (hi : i < l.length) (hf : gi l i = (f : Int)) : (irows (upS s (fun x => x ∈ l.take i) 1)).set f [I 1] = irows (upS s (fun x => x ∈ l.take (i + 1)) 1) := by
  rw [upS_set]
  refine congrArg irows (upS_congr fun x => ?_)
  rw [take_next hi, hf]
  simp
end Go.AM

/- Steps on a zone, in plain words: what is held and what is free make up the zone. -/
namespace Go.AM
open Go

/-- A block that is held: its first frame and its order. -/
abbrev Hb := Int × Nat
def has (b : Hb) (x : Int) : Bool := decide (b.1 ≤ x ∧ x < b.1 + 2 ^ b.2)
def own (h : List Hb) (x : Int) : Nat := h.countP fun b => has b x
def hdel (h : List Hb) (i : Nat) : List Hb := h.take i ++ h.drop (i + 1)
def hg (h : List Hb) (i : Nat) : Hb := h.getD i (0, 0)

theorem hg_eq {h : List Hb} {i : Nat} (hi : i < h.length) : hg h i = h[i] := by unfold hg; simp [hi]
theorem hg_mem {h : List Hb} {i : Nat} (hi : i < h.length) : hg h i ∈ h := by rw [hg_eq hi]; exact List.getElem_mem hi
theorem hdel_own {h : List Hb} {i : Nat} (hi : i < h.length) (x : Int) : own h x = own (hdel h i) x + (if has (hg h i) x then 1 else 0) := by
  unfold own hdel
  have e : h = h.take i ++ h[i] :: h.drop (i + 1) := by
    conv => lhs; rw [← List.take_append_drop i h, List.drop_eq_getElem_cons hi]
  conv => lhs; rw [e]
  rw [hg_eq hi, List.countP_append, List.countP_append, List.countP_cons]
  omega
theorem hdel_mem {h : List Hb} {i : Nat} {b : Hb} (hb : b ∈ hdel h i) : b ∈ h := by
  rcases List.mem_append.1 hb with hb | hb
  · exact List.mem_of_mem_take hb
  · exact List.mem_of_mem_drop hb
theorem hdel_len {h : List Hb} {i : Nat} (hi : i < h.length) : (hdel h i).length + 1 = h.length := by
  unfold hdel; simp; omega

open Classical in
/-- What holds after any steps. -/
structure PI (Z z : Zn) (h : List Hb) : Prop where
  same : sameP z Z
  valid : Valid z
  blk : ∀ b ∈ h, b.2 ≤ 4 ∧ insideZ Z b.1 b.2
  part : ∀ x, own h x + (if free z x then 1 else 0) = if Z.start ≤ x ∧ x < Z.start + Z.count then 1 else 0

theorem PI.check {Z z : Zn} {h : List Hb} (hi : PI Z z h) (hZ : rangesZ Z) : checkZ z = 0 := checkZ_zero.2 ⟨hi.same.ranges.2 hZ, hi.valid⟩
theorem PI.small {Z z : Zn} {h : List Hb} (hi : PI Z z h) (hZ : rangesZ Z) : small z := fun k hk => by
  have := valid_small (hi.same.ranges.2 hZ) hi.valid k hk
  omega

theorem block_in {Z : Zn} {f : Int} {k : Nat} (hin : insideZ Z f k) {x : Int} (h : f ≤ x ∧ x < f + 2 ^ k) : Z.start ≤ x ∧ x < Z.start + Z.count := by
  obtain ⟨a, b, c, d⟩ := hin
  omega

/-- Giving back what is held. -/
theorem PI.give {Z z : Zn} {h : List Hb} (hp : PI Z z h) (hZ : rangesZ Z) {i : Nat} (hi : i < h.length) :
    (freeR z (hg h i).1 (hg h i).2).2 = 0 ∧ PI Z (freeR z (hg h i).1 (hg h i).2).1 (hdel h i) := by
  have hc := hp.check hZ
  obtain ⟨hk, hin⟩ := hp.blk _ (hg_mem hi)
  have hin' := hp.same.inside.2 hin
  have hr := hp.same.ranges.2 hZ
  have hno : ∀ y, (hg h i).1 ≤ y → y < (hg h i).1 + 2 ^ (hg h i).2 → ¬ free z y := fun y h1 h2 hf => by
    have h3 := hp.part y
    have h4 := hdel_own hi y
    rw [if_pos hf] at h3
    rw [if_pos (by simp [has, h1, h2])] at h4
    split at h3 <;> omega
  rw [freeR_ok hc hk hin' hno]
  have hIn : In z fun y => free z y ∨ ((hg h i).1 ≤ y ∧ y < (hg h i).1 + 2 ^ (hg h i).2) := fun g hgm => by
    rcases hgm with hgm | hgm
    · exact hp.valid.inz g hgm
    · exact block_in hin' hgm
  have hfr : ∀ x, free (canon z fun y => free z y ∨ ((hg h i).1 ≤ y ∧ y < (hg h i).1 + 2 ^ (hg h i).2)) x ↔ free z x ∨ ((hg h i).1 ≤ x ∧ x < (hg h i).1 + 2 ^ (hg h i).2) := fun x => free_canon (by unfold rangesZ at hr; omega) hIn
  refine ⟨rfl, (canon_sameP z _).trans hp.same, canon_valid, fun b hb => hp.blk b (hdel_mem hb), fun x => ?_⟩
  have h3 := hp.part x
  have h4 := hdel_own hi x
  rw [← h3]
  by_cases hb : (hg h i).1 ≤ x ∧ x < (hg h i).1 + 2 ^ (hg h i).2
  · have := hno x hb.1 hb.2
    rw [if_pos (by simp [has, hb])] at h4
    rw [if_neg this, if_pos ((hfr x).2 (.inr hb))]
    omega
  · rw [if_neg (by simpa [has] using hb)] at h4
    by_cases hf : free z x
    · rw [if_pos hf, if_pos ((hfr x).2 (.inl hf))]; omega
    · rw [if_neg hf, if_neg (fun hh => by rcases (hfr x).1 hh with hh | hh; exact hf hh; exact hb hh)]; omega

/-- Taking a block. -/
theorem PI.take {Z z : Zn} {h : List Hb} (hp : PI Z z h) (hZ : rangesZ Z) {o : Nat} (ho : o ≤ 4) :
    ((allocR z o).2.2 = 16 ∧ ∀ k, o ≤ k → k ≤ 4 → z.fr k = []) ∨ ((allocR z o).2.2 = 0 ∧ (∃ k, o ≤ k ∧ k ≤ 4 ∧ z.fr k ≠ []) ∧ PI Z (allocR z o).1 (h ++ [((allocR z o).2.1, o)])) := by
  have hc := hp.check hZ
  have hr := hp.same.ranges.2 hZ
  by_cases he : ∃ k, IsFk z o k
  · obtain ⟨k, hk⟩ := he
    right
    rw [allocR_at hc hk]
    obtain ⟨h1, h2, h3, h4⟩ := hk
    have hlen : 0 < (z.fr k).length := by
      rcases Nat.eq_zero_or_pos (z.fr k).length with e | e
      · exact absurd (List.eq_nil_of_length_eq_zero e) h3
      · exact e
    have hm := gi_mem hlen
    obtain ⟨f, hf⟩ : ∃ f, f = gi (z.fr k) 0 := ⟨_, rfl⟩
    rw [← hf] at hm ⊢
    have hfk := hp.valid.inside k f h2 hm
    have hfm : f % 2 ^ o = 0 := by
      have := hfk.2.1
      rcases le4 h2 with rfl | rfl | rfl | rfl | rfl <;> (have := le4 (show o ≤ 4 by omega); rcases this with rfl | rfl | rfl | rfl | rfl <;> first | (exfalso; omega) | (simp at *; try omega))
    have hle : (2 : Int) ^ o ≤ 2 ^ k := by
      rcases le4 h2 with rfl | rfl | rfl | rfl | rfl <;> (have := le4 (show o ≤ 4 by omega); rcases this with rfl | rfl | rfl | rfl | rfl <;> first | (exfalso; omega) | simp)
    have hall : ∀ x, f ≤ x → x < f + 2 ^ o → free z x := fun x g1 g2 => ⟨k, f, h2, hm, g1, by omega⟩
    have hIn : In z fun y => free z y ∧ ¬ (f ≤ y ∧ y < f + 2 ^ o) := fun g hgm => hp.valid.inz g hgm.1
    have hfr : ∀ x, free (canon z fun y => free z y ∧ ¬ (f ≤ y ∧ y < f + 2 ^ o)) x ↔ free z x ∧ ¬ (f ≤ x ∧ x < f + 2 ^ o) := fun x => free_canon (by unfold rangesZ at hr; omega) hIn
    refine ⟨rfl, ⟨k, h1, h2, h3⟩, (canon_sameP z _).trans hp.same, canon_valid, fun b hb => ?_, fun x => ?_⟩
    · rcases List.mem_append.1 hb with hb | hb
      · exact hp.blk b hb
      · simp only [List.mem_singleton] at hb
        subst hb
        exact ⟨ho, hp.same.inside.1 (inside_of_sub h1 h2 hfk hfm (Int.le_refl _) (by simp only; omega))⟩
    · have h5 := hp.part x
      rw [← h5]
      unfold own
      rw [List.countP_append, List.countP_singleton]
      by_cases hb : f ≤ x ∧ x < f + 2 ^ o
      · have := hall x hb.1 hb.2
        rw [if_pos (by simp [has, hb]), if_pos this, if_neg (fun hh => ((hfr x).1 hh).2 hb)]
      · rw [if_neg (by simpa [has] using hb)]
        by_cases hf : free z x
        · rw [if_pos hf, if_pos ((hfr x).2 ⟨hf, hb⟩)]
        · rw [if_neg hf, if_neg fun hh => hf ((hfr x).1 hh).1]
  · left
    have hn : ∀ k, o ≤ k → k ≤ 4 → z.fr k = [] := fun k => by
      intro h1 h2
      -- the least one would be first
      by_cases hne : z.fr k = []
      · exact hne
      · exfalso
        apply he
        clear he hc hr hp
        induction k using Nat.strongRecOn with
        | _ k ih =>
          by_cases hl : ∀ j, o ≤ j → j < k → z.fr j = []
          · exact ⟨k, h1, h2, hne, hl⟩
          · obtain ⟨j, hj⟩ := Classical.not_forall.1 hl
            have hj1 : o ≤ j := Classical.byContradiction fun hc => hj fun h => absurd h hc
            have hj2 : j < k := Classical.byContradiction fun hc => hj fun _ h => absurd h hc
            exact ih j hj2 hj1 (by omega) fun e => hj fun _ _ => e
    rw [allocR_none hc ho hn]
    exact ⟨rfl, hn⟩

theorem PI.start {Z : Zn} (hZ : rangesZ Z) : PI Z (newZ Z Z.count.toNat) [] := by
  have hrr := hZ
  unfold rangesZ at hrr
  have hf := newZ_free hZ (n := Z.count.toNat) (by omega)
  refine ⟨newZ_same Z _, canon_valid, by simp, fun x => ?_⟩
  simp only [own, List.countP_nil, Nat.zero_add]
  by_cases h : Z.start ≤ x ∧ x < Z.start + Z.count
  · rw [if_pos h, if_pos ((hf x).2 (by omega))]
  · rw [if_neg h, if_neg fun hh => h (by have := (hf x).1 hh; omega)]

/-- When nothing is held, the zone is as new. -/
theorem PI.empty {Z z : Zn} (hp : PI Z z []) (hZ : rangesZ Z) : z = newZ Z Z.count.toNat := by
  have hrr := hZ
  unfold rangesZ at hrr
  rw [hp.valid.canon, canon_same hp.same]
  refine canon_congr fun x => ?_
  have h := hp.part x
  simp only [own, List.countP_nil, Nat.zero_add] at h
  constructor
  · intro hf
    rw [if_pos hf] at h
    split at h
    · omega
    · omega
  · intro hx
    rw [if_pos (show Z.start ≤ x ∧ x < Z.start + Z.count by omega)] at h
    split at h
    · assumption
    · omega

/-- One step. -/
structure Opn where
  give : Bool
  order : Int
  pick : Int
noncomputable def stepP (st : Zn × List Hb) (o : Opn) : Zn × List Hb := open Classical in
  if o.give then
    if st.2 = [] then st else ((freeR st.1 (hg st.2 (o.pick % st.2.length).toNat).1 (hg st.2 (o.pick % st.2.length).toNat).2).1, hdel st.2 (o.pick % st.2.length).toNat)
  else if (allocR st.1 (o.order % 5)).2.2 = 0 then ((allocR st.1 (o.order % 5)).1, st.2 ++ [((allocR st.1 (o.order % 5)).2.1, (o.order % 5).toNat)]) else st
noncomputable def playP (Z : Zn) (l : List Opn) : Zn × List Hb := l.foldl stepP (newZ Z Z.count.toNat, [])
theorem stepP_inv {Z : Zn} (hZ : rangesZ Z) {st : Zn × List Hb} (h : PI Z st.1 st.2) (o : Opn) : PI Z (stepP st o).1 (stepP st o).2 := by
  unfold stepP
  split
  · split
    · exact h
    · rename_i hne
      have hl : 0 < st.2.length := by
        rcases Nat.eq_zero_or_pos st.2.length with e | e
        · exact absurd (List.eq_nil_of_length_eq_zero e) hne
        · exact e
      have h1 := Int.emod_nonneg o.pick (show ((st.2.length : Nat) : Int) ≠ 0 by omega)
      have h2 := Int.emod_lt_of_pos o.pick (show (0 : Int) < ((st.2.length : Nat) : Int) by omega)
      exact (h.give hZ (show (o.pick % st.2.length).toNat < st.2.length by omega)).2
  · have h1 := Int.emod_nonneg o.order (show (5 : Int) ≠ 0 by decide)
    have h2 := Int.emod_lt_of_pos o.order (show (0 : Int) < 5 by decide)
    obtain ⟨k, hk⟩ := Int.eq_ofNat_of_zero_le h1
    rw [hk] at h2 ⊢
    rcases h.take hZ (show k ≤ 4 by omega) with ⟨h3, _⟩ | ⟨h3, _, h4⟩
    · rw [if_neg (by rw [h3]; decide)]; exact h
    · rw [if_pos h3, Int.toNat_natCast]; exact h4
theorem play_inv {Z : Zn} (hZ : rangesZ Z) (l : List Opn) : PI Z (playP Z l).1 (playP Z l).2 := by
  have : ∀ (l : List Opn) (st : Zn × List Hb), PI Z st.1 st.2 → PI Z (l.foldl stepP st).1 (l.foldl stepP st).2 := fun l => by
    induction l with
    | nil => intro st h; exact h
    | cons o r ih => intro st h; exact ih _ (stepP_inv hZ h o)
  exact this l _ (PI.start hZ)
theorem play_len (l : List Opn) (Z : Zn) : (playP Z l).2.length ≤ l.length := by
  have : ∀ (l : List Opn) (st : Zn × List Hb), (l.foldl stepP st).2.length ≤ st.2.length + l.length := fun l => by
    induction l with
    | nil => intro st; simp
    | cons o r ih =>
      intro st
      have h1 := ih (stepP st o)
      have h2 : (stepP st o).2.length ≤ st.2.length + 1 := by
        unfold stepP
        split
        · split
          · omega
          · simp only [hdel, List.length_append, List.length_take, List.length_drop]; omega
        · split
          · simp
          · omega
      simp only [List.foldl_cons, List.length_cons]
      omega
  have := this l (newZ Z Z.count.toNat, [])
  simpa [playP] using this
end Go.AM
