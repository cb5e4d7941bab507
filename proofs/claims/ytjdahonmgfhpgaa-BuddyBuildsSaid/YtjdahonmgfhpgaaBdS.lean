/- What Alloc, Free, Take, IsFree and Build answer, in plain words. -/
import Derived.Test.YtjdahonmgfhpgaaBdR
import Derived.Test.YtjdahonmgfhpgaaBd18
set_option linter.all false

namespace Go.AM
open Go

/-- k is the least order from o on that has a free block. -/
def IsFk (z : Zn) (o k : Nat) : Prop := o ≤ k ∧ k ≤ 4 ∧ z.fr k ≠ [] ∧ ∀ j, o ≤ j → j < k → z.fr j = []
theorem IsFk.uniq {z : Zn} {o k j : Nat} (h : IsFk z o k) (h' : IsFk z o j) : k = j := by
  rcases Nat.lt_trichotomy k j with e | e | e
  · exact absurd (h'.2.2.2 k h.1 e) h.2.2.1
  · exact e
  · exact absurd (h.2.2.2 j h'.1 e) h'.2.2.1

open Classical in
noncomputable def allocR (z : Zn) (o : Int) : Zn × Int × Int :=
  if checkZ z ≠ 0 then (zeroZ, 0, checkZ z) else if ¬ (0 ≤ o ∧ o ≤ 4) then (zeroZ, 0, 2)
  else if h : ∃ k, IsFk z o.toNat k then (canon z fun y => free z y ∧ ¬ (gi (z.fr h.choose) 0 ≤ y ∧ y < gi (z.fr h.choose) 0 + 2 ^ o.toNat), gi (z.fr h.choose) 0, 0)
  else (zeroZ, 0, 16)
theorem allocR_bad {z : Zn} {o : Int} (h : checkZ z ≠ 0) : allocR z o = (zeroZ, 0, checkZ z) := by unfold allocR; rw [if_pos h]
theorem allocR_order {z : Zn} {o : Int} (h : checkZ z = 0) (ho : ¬ (0 ≤ o ∧ o ≤ 4)) : allocR z o = (zeroZ, 0, 2) := by unfold allocR; rw [if_neg (by simp [h]), if_pos ho]
theorem allocR_none {z : Zn} {o : Nat} (h : checkZ z = 0) (ho : o ≤ 4) (hn : ∀ k, o ≤ k → k ≤ 4 → z.fr k = []) : allocR z o = (zeroZ, 0, 16) := by
  unfold allocR
  rw [if_neg (by simp [h]), if_neg (by omega), dif_neg]
  rintro ⟨k, hk⟩
  simp only [Int.toNat_natCast] at hk
  exact hk.2.2.1 (hn k hk.1 hk.2.1)
theorem allocR_at {z : Zn} {o k : Nat} (h : checkZ z = 0) (hk : IsFk z o k) : allocR z o = (canon z fun y => free z y ∧ ¬ (gi (z.fr k) 0 ≤ y ∧ y < gi (z.fr k) 0 + 2 ^ o), gi (z.fr k) 0, 0) := by
  unfold allocR
  have h1 := hk.1
  have h2 := hk.2.1
  have hex : ∃ k, IsFk z (o : Int).toNat k := ⟨k, by simpa using hk⟩
  rw [if_neg (by simp [h]), if_neg (by omega), dif_pos hex]
  have e : hex.choose = k := (IsFk.uniq (by simpa using hex.choose_spec) hk)
  rw [e, Int.toNat_natCast]

theorem zeroZ_small : small zeroZ := fun k hk => by rcases le4 hk with rfl | rfl | rfl | rfl | rfl <;> simp [zeroZ, Zn.fr]
theorem canon_sameP (z : Zn) (S : Int → Prop) : sameP (canon z S) z := by simp [sameP, canon]
theorem canon_small {z : Zn} {S : Int → Prop} (h : rangesZ z) : small (canon z S) := fun k hk => by
  have := valid_small ((canon_sameP z S).ranges.2 h) canon_valid k hk
  omega
theorem check_parts {z : Zn} (h : checkZ z = 0) : rangesZ z ∧ Valid z := checkZ_zero.1 h

theorem allocR_small (z : Zn) (o : Int) : small (allocR z o).1 := by
  unfold allocR
  split
  · exact zeroZ_small
  · rename_i h
    have h := (check_parts (Decidable.of_not_not h)).1
    split
    · exact zeroZ_small
    · split
      · exact canon_small h
      · exact zeroZ_small

/-- What buddy.Alloc makes: the first block of order k is split down to order o. -/
theorem alloc_split {z : Zn} {o k : Nat} {f : Int} {l : List Int} (h : checkZ z = 0) (ho : o ≤ k) (hk : k ≤ 4) (hl : z.fr k = f :: l) (hn : ∀ j, o ≤ j → j < k → z.fr j = []) :
    allocR z o = ((splitX (k - o) (z.set k l) f k f).1, f, 0) := by
  obtain ⟨hr, hv⟩ := check_parts h
  have hf : f ∈ z.fr k := by simp [hl]
  have hpk : (1 : Int) ≤ 2 ^ k := pow_pos'
  obtain ⟨t1, t2⟩ := tail_ok (hv.sorted k hk) hl
  have hm : f % 2 ^ o = 0 := by
    have := (hv.inside k f hk hf).2.1
    rcases le4 hk with rfl | rfl | rfl | rfl | rfl <;> (have := le4 (show o ≤ 4 by omega); rcases this with rfl | rfl | rfl | rfl | rfl <;> first | (exfalso; omega) | (simp at *; try omega))
  rw [allocR_at h ⟨ho, hk, by simp [hl], hn⟩, split_canon hv hk ho hf t1 t2 (Int.le_refl _) (by omega)]
  have e : gi (z.fr k) 0 = f := by rw [hl]; rfl
  rw [e, hm, Int.sub_zero]

open Classical in
noncomputable def freeR (z : Zn) (f o : Int) : Zn × Int :=
  if checkZ z ≠ 0 then (zeroZ, checkZ z) else if ¬ (0 ≤ o ∧ o ≤ 4 ∧ insideZ z f o.toNat) then (zeroZ, 2)
  else if ∃ y, (f ≤ y ∧ y < f + 2 ^ o.toNat) ∧ free z y then (zeroZ, 7) else (canon z fun y => free z y ∨ (f ≤ y ∧ y < f + 2 ^ o.toNat), 0)
theorem freeR_bad {z : Zn} {f o : Int} (h : checkZ z ≠ 0) : freeR z f o = (zeroZ, checkZ z) := by unfold freeR; rw [if_pos h]
theorem freeR_range {z : Zn} {f o : Int} (h : checkZ z = 0) (ho : ¬ (0 ≤ o ∧ o ≤ 4 ∧ insideZ z f o.toNat)) : freeR z f o = (zeroZ, 2) := by unfold freeR; rw [if_neg (by simp [h]), if_pos ho]
theorem freeR_some {z : Zn} {f y : Int} {o : Nat} (h : checkZ z = 0) (ho : o ≤ 4) (hi : insideZ z f o) (hy : f ≤ y ∧ y < f + 2 ^ o) (hf : free z y) : freeR z f o = (zeroZ, 7) := by
  unfold freeR
  rw [if_neg (by simp [h]), if_neg (by simp only [Int.toNat_natCast]; exact fun h => h ⟨by omega, by omega, hi⟩), if_pos ⟨y, by simpa using hy, hf⟩]
theorem freeR_ok {z : Zn} {f : Int} {o : Nat} (h : checkZ z = 0) (ho : o ≤ 4) (hi : insideZ z f o) (hy : ∀ y, f ≤ y → y < f + 2 ^ o → ¬ free z y) : freeR z f o = (canon z fun y => free z y ∨ (f ≤ y ∧ y < f + 2 ^ o), 0) := by
  unfold freeR
  rw [if_neg (by simp [h]), if_neg (by simp only [Int.toNat_natCast]; exact fun h => h ⟨by omega, by omega, hi⟩), if_neg (by simp only [Int.toNat_natCast]; rintro ⟨y, h1, h2⟩; exact hy y h1.1 h1.2 h2), Int.toNat_natCast]
theorem freeR_small (z : Zn) (f o : Int) : small (freeR z f o).1 := by
  unfold freeR
  split
  · exact zeroZ_small
  · rename_i h
    have h := (check_parts (Decidable.of_not_not h)).1
    split
    · exact zeroZ_small
    · split
      · exact zeroZ_small
      · exact canon_small h

open Classical in
noncomputable def takeR (z : Zn) (f : Int) : Zn × Int :=
  if checkZ z ≠ 0 then (zeroZ, checkZ z) else if ¬ insideZ z f 0 then (zeroZ, 2)
  else if ¬ free z f then (zeroZ, 6) else (canon z fun y => free z y ∧ y ≠ f, 0)
theorem takeR_bad {z : Zn} {f : Int} (h : checkZ z ≠ 0) : takeR z f = (zeroZ, checkZ z) := by unfold takeR; rw [if_pos h]
theorem takeR_range {z : Zn} {f : Int} (h : checkZ z = 0) (ho : ¬ insideZ z f 0) : takeR z f = (zeroZ, 2) := by unfold takeR; rw [if_neg (by simp [h]), if_pos ho]
theorem takeR_none {z : Zn} {f : Int} (h : checkZ z = 0) (hi : insideZ z f 0) (hy : ¬ free z f) : takeR z f = (zeroZ, 6) := by
  unfold takeR
  rw [if_neg (by simp [h]), if_neg (by simpa using hi), if_pos hy]
theorem takeR_ok {z : Zn} {f : Int} (h : checkZ z = 0) (hi : insideZ z f 0) (hy : free z f) : takeR z f = (canon z fun y => free z y ∧ y ≠ f, 0) := by
  unfold takeR
  rw [if_neg (by simp [h]), if_neg (by simpa using hi), if_neg (by simpa using hy)]
theorem takeR_small (z : Zn) (f : Int) : small (takeR z f).1 := by
  unfold takeR
  split
  · exact zeroZ_small
  · rename_i h
    have h := (check_parts (Decidable.of_not_not h)).1
    split
    · exact zeroZ_small
    · split
      · exact zeroZ_small
      · exact canon_small h

/-- What buddy.Take makes: the block of order k that holds x is split down to the frame. -/
theorem take_split {z : Zn} {k : Nat} {x : Int} (h : checkZ z = 0) (hk : k ≤ 4) (hf : x - x % 2 ^ k ∈ z.fr k) :
    takeR z x = ((splitX k (z.set k (delI (z.fr k) (x - x % 2 ^ k))) (x - x % 2 ^ k) k x).1, 0) := by
  obtain ⟨hr, hv⟩ := check_parts h
  obtain ⟨t1, t2⟩ := delI_ok (hv.sorted k hk) hf
  have hms := mod_self (g := x) hk
  have hfr : free z x := ⟨k, _, hk, hf, hms.2.1, hms.2.2⟩
  have hin := hv.inz x hfr
  rw [takeR_ok h ((inside0 hr).2 hin) hfr]
  have := split_canon (o := 0) hv hk (Nat.zero_le _) hf t1 t2 hms.2.1 hms.2.2
  rw [Nat.sub_zero] at this
  rw [this]
  congr 1
  refine canon_congr fun y => ?_
  have : x % 2 ^ 0 = 0 := by simp
  rw [this]
  constructor
  · rintro ⟨h1, h2⟩; exact ⟨h1, fun ⟨h3, h4⟩ => h2 (by simp at h4; omega)⟩
  · rintro ⟨h1, h2⟩; exact ⟨h1, fun e => h2 (by subst e; exact ⟨by omega, by simp; omega⟩)⟩

/-- The order of the free block that holds a frame, and its first frame; -1 and 0 if there is none. -/
def bs (x : Int) (k : Nat) : Int := x - x % 2 ^ k
open Classical in
noncomputable def blkR (z : Zn) (x : Int) : Int × Int :=
  if bs x 0 ∈ z.f0 then (0, bs x 0) else if bs x 1 ∈ z.f1 then (1, bs x 1) else if bs x 2 ∈ z.f2 then (2, bs x 2) else if bs x 3 ∈ z.f3 then (3, bs x 3) else if bs x 4 ∈ z.f4 then (4, bs x 4) else (-1, 0)
theorem free_bs {z : Zn} (hv : Valid z) {x : Int} : free z x ↔ ∃ k, k ≤ 4 ∧ bs x k ∈ z.fr k := by
  constructor
  · rintro ⟨k, f, hk, hf, h1, h2⟩
    have := block_start hk (hv.inside k f hk hf).2.1 h1 h2
    exact ⟨k, hk, by unfold bs; rw [this]; exact hf⟩
  · rintro ⟨k, hk, h⟩
    have := mod_self (g := x) hk
    exact ⟨k, _, hk, h, this.2.1, this.2.2⟩
theorem blkR_cases {z : Zn} (hv : Valid z) (x : Int) : (¬ free z x ∧ blkR z x = (-1, 0)) ∨ ∃ k : Nat, k ≤ 4 ∧ bs x k ∈ z.fr k ∧ free z x ∧ blkR z x = ((k : Int), bs x k) := by
  have hfr := free_bs hv (x := x)
  unfold blkR
  split
  · rename_i h; exact .inr ⟨0, by omega, h, hfr.2 ⟨0, by omega, h⟩, rfl⟩
  split
  · rename_i h; exact .inr ⟨1, by omega, h, hfr.2 ⟨1, by omega, h⟩, rfl⟩
  split
  · rename_i h; exact .inr ⟨2, by omega, h, hfr.2 ⟨2, by omega, h⟩, rfl⟩
  split
  · rename_i h; exact .inr ⟨3, by omega, h, hfr.2 ⟨3, by omega, h⟩, rfl⟩
  split
  · rename_i h; exact .inr ⟨4, by omega, h, hfr.2 ⟨4, by omega, h⟩, rfl⟩
  refine .inl ⟨fun hf => ?_, rfl⟩
  obtain ⟨k, hk, h⟩ := hfr.1 hf
  rcases le4 hk with rfl | rfl | rfl | rfl | rfl <;> simp [Zn.fr] at h <;> contradiction

/-- The error of a frame in a list of frames. -/
noncomputable def badB (z : Zn) (l : List Int) (i : Nat) : Int := open Classical in if ¬ insideZ z (gi l i) 0 then 2 else if 0 < i ∧ gi l i ≤ gi l (i - 1) then 10 else 0
def FirstB (z : Zn) (l : List Int) (i : Nat) : Prop := i < l.length ∧ badB z l i ≠ 0 ∧ ∀ j, j < i → badB z l j = 0
theorem FirstB.uniq {z : Zn} {l : List Int} {k j : Nat} (h : FirstB z l k) (h' : FirstB z l j) : k = j := by
  rcases Nat.lt_trichotomy k j with e | e | e
  · exact absurd (h'.2.2 k e) h.2.1
  · exact e
  · exact absurd (h.2.2 j e) h'.2.1
open Classical in
noncomputable def buildR (z : Zn) (l : List Int) : Zn × Int :=
  if ¬ rangesZ z then (zeroZ, 2) else if h : ∃ i, FirstB z l i then (zeroZ, badB z l h.choose) else (canon z (· ∈ l), 0)
theorem buildR_range {z : Zn} {l : List Int} (h : ¬ rangesZ z) : buildR z l = (zeroZ, 2) := by unfold buildR; rw [if_pos h]
theorem buildR_bad {z : Zn} {l : List Int} {i : Nat} (h : rangesZ z) (hi : FirstB z l i) : buildR z l = (zeroZ, badB z l i) := by
  unfold buildR
  have hex : ∃ i, FirstB z l i := ⟨i, hi⟩
  rw [if_neg (by simpa using h), dif_pos hex, hex.choose_spec.uniq hi]
theorem buildR_ok {z : Zn} {l : List Int} (h : rangesZ z) (hi : ∀ j, j < l.length → badB z l j = 0) : buildR z l = (canon z (· ∈ l), 0) := by
  unfold buildR
  rw [if_neg (by simpa using h), dif_neg]
  rintro ⟨i, h1, h2, _⟩
  exact h2 (hi i h1)
theorem buildR_small (z : Zn) (l : List Int) : small (buildR z l).1 := by
  unfold buildR
  split
  · exact zeroZ_small
  · rename_i h
    have h := Decidable.of_not_not h
    split
    · exact zeroZ_small
    · exact canon_small h

/-- A list of numbers of which some are set. -/
noncomputable def upS (s : List Int) (R : Int → Prop) (v : Int) : List Int := open Classical in (List.range 256).map fun (x : Nat) => if R (x : Int) then v else gi s x
@[simp] theorem upS_len (s : List Int) (R : Int → Prop) (v : Int) : (upS s R v).length = 256 := by simp [upS]
open Classical in
theorem upS_gi {s : List Int} {R : Int → Prop} {v : Int} {y : Nat} (h : y < 256) : gi (upS s R v) y = if R (y : Int) then v else gi s y := by
  rw [gi_eq (by simpa using h)]
  simp [upS]
theorem upS_congr {s : List Int} {R R' : Int → Prop} {v : Int} (h : ∀ x, R x ↔ R' x) : upS s R v = upS s R' v := by
  have : R = R' := funext fun x => propext (h x)
  rw [this]
theorem list256 {s : List Int} (h : s.length = 256) {t : List Int} (ht : t.length = 256) (hg : ∀ y, y < 256 → gi s y = gi t y) : s = t := by
  apply List.ext_getElem (by omega)
  intro n h1 h2
  have := hg n (by omega)
  rwa [gi_eq h1, gi_eq h2] at this
theorem upS_none {s : List Int} {R : Int → Prop} {v : Int} (h : s.length = 256) (hR : ∀ x, ¬ R x) : upS s R v = s :=
  list256 (by simp) h fun y hy => by rw [upS_gi hy, if_neg (hR _)]
open Classical in
theorem upS_set {s : List Int} {R : Int → Prop} {v : Int} {y : Nat} : (irows (upS s R v)).set y [I v] = irows (upS s (fun x => R x ∨ x = (y : Int)) v) := by
  rw [irows_set]
  refine congrArg irows (list256 (by simp) (by simp) fun x hx => ?_)
  rw [upS_gi hx, gi_eq (by simpa using hx), List.getElem_set]
  have h1 := upS_gi (s := s) (R := R) (v := v) hx
  rw [gi_eq (by simpa using hx)] at h1
  rw [h1]
  by_cases e : y = x
  · subst e
    rw [if_pos rfl, if_pos (Or.inr rfl)]
  · rw [if_neg e]
    by_cases hR : R (x : Int)
    · rw [if_pos hR, if_pos (Or.inl hR)]
    · rw [if_neg hR, if_neg (by rintro (h | h); exact hR h; omega)]
theorem gi_out {s : List Int} {y : Nat} (h : s.length ≤ y) : gi s y = 0 := by
  unfold gi
  rw [List.getD_eq_getElem?_getD, List.getElem?_eq_none h]; rfl
theorem setOf_lt {s : List Int} {x : Int} (hs : s.length = 256) (h : setOf s x) : 0 ≤ x ∧ x < 256 := by
  refine ⟨h.1, ?_⟩
  by_cases hx : x.toNat < 256
  · have := h.1; omega
  · exact absurd (gi_out (by omega)) h.2
theorem setOf_up0 {s : List Int} {R : Int → Prop} (hs : s.length = 256) (x : Int) : setOf (upS s R 0) x ↔ setOf s x ∧ ¬ R x := by
  constructor
  · intro h
    obtain ⟨h0, h1⟩ := setOf_lt (by simp) h
    have h2 := h.2
    rw [upS_gi (by omega)] at h2
    have hx : ((x.toNat : Nat) : Int) = x := by omega
    rw [hx] at h2
    split at h2
    · exact absurd rfl h2
    · exact ⟨⟨h0, h2⟩, ‹_›⟩
  · rintro ⟨h, hR⟩
    obtain ⟨h0, h1⟩ := setOf_lt hs h
    refine ⟨h0, ?_⟩
    have hx : ((x.toNat : Nat) : Int) = x := by omega
    rw [upS_gi (by omega), hx, if_neg hR]
    exact h.2
theorem setOf_up1 {s : List Int} {R : Int → Prop} (hs : s.length = 256) (hR : ∀ x, R x → 0 ≤ x ∧ x < 256) (x : Int) : setOf (upS s R 1) x ↔ setOf s x ∨ R x := by
  constructor
  · intro h
    obtain ⟨h0, h1⟩ := setOf_lt (by simp) h
    have h2 := h.2
    rw [upS_gi (by omega)] at h2
    have hx : ((x.toNat : Nat) : Int) = x := by omega
    rw [hx] at h2
    split at h2
    · exact .inr ‹_›
    · exact .inl ⟨h0, h2⟩
  · intro h
    have h01 : 0 ≤ x ∧ x < 256 := h.elim (setOf_lt hs) (hR x)
    refine ⟨h01.1, ?_⟩
    have hx : ((x.toNat : Nat) : Int) = x := by omega
    rw [upS_gi (by omega), hx]
    split
    · decide
    · exact (h.resolve_right ‹_›).2
theorem setOf_cnts {z : Zn} (hr : rangesZ z) (hv : Valid z) (x : Int) : setOf (cnts (coverL z 5)) x ↔ free z x := by
  rw [free_cover]
  constructor
  · intro h
    obtain ⟨h0, h1⟩ := setOf_lt (cnts_len _) h
    have h2 := h.2
    rw [cnts_gi (by omega)] at h2
    have hx : ((x.toNat : Nat) : Int) = x := by omega
    rw [hx] at h2
    exact List.count_pos_iff.1 (by omega)
  · intro h
    have hin := hv.inz x (free_cover.2 h)
    have hrr := hr
    unfold rangesZ at hrr
    refine ⟨by omega, ?_⟩
    have hx : ((x.toNat : Nat) : Int) = x := by omega
    rw [cnts_gi (by omega), hx]
    have := List.count_pos_iff.2 h
    omega
/-- What holds before each round of splitting. -/
structure SplitInv (z : Zn) (x : Int) (o : Nat) (T : Zn × Int) (y : Zn) (f : Int) (k : Nat) : Prop where
  valid : Valid y
  same : sameP y z
  inside : insideZ y f k
  none : ∀ w, f ≤ w → w < f + 2 ^ k → ¬ free y w
  lo : f ≤ x
  hi : x < f + 2 ^ k
  ok : o ≤ k
  k4 : k ≤ 4
  res : splitX (k - o) y f k x = T
theorem SplitInv.low {z y : Zn} {x f : Int} {o k : Nat} {T : Zn × Int} (h : SplitInv z x o T y f (k + 1)) (ho : o ≤ k) (hx : x < f + 2 ^ k) : SplitInv z x o T (y.set k (insI (y.fr k) (f + 2 ^ k))) f k := by
  have h4 := h.k4
  have hp := pow_pos' (k := k)
  have hs := pow_succ2 (k := k)
  have hm := mod_half (show k + 1 ≤ 4 by omega) h.inside.2.1
  obtain ⟨s1, s2, s3⟩ := split_step (show k < 4 by omega) h.valid h.inside h.none (.inr rfl)
  refine ⟨s1, s2.trans h.same, s2.inside.2 (inside_of_sub (j := k + 1) (by omega) (by omega) h.inside hm.1 (by omega) (by omega)), fun w h1 h2 hw => ?_, h.lo, hx, ho, by omega, ?_⟩
  · rcases (s3 w).1 hw with hw | hw
    · exact h.none w h1 (by omega) hw
    · omega
  · have := h.res
    rw [show k + 1 - o = (k - o) + 1 by omega] at this
    simp only [splitX, Nat.add_sub_cancel] at this
    rwa [if_pos hx] at this
theorem SplitInv.high {z y : Zn} {x f : Int} {o k : Nat} {T : Zn × Int} (h : SplitInv z x o T y f (k + 1)) (ho : o ≤ k) (hx : ¬ x < f + 2 ^ k) : SplitInv z x o T (y.set k (insI (y.fr k) f)) (f + 2 ^ k) k := by
  have h4 := h.k4
  have hp := pow_pos' (k := k)
  have hs := pow_succ2 (k := k)
  have hh := h.hi
  have hm := mod_half (show k + 1 ≤ 4 by omega) h.inside.2.1
  obtain ⟨s1, s2, s3⟩ := split_step (show k < 4 by omega) h.valid h.inside h.none (.inl rfl)
  refine ⟨s1, s2.trans h.same, s2.inside.2 (inside_of_sub (j := k + 1) (by omega) (by omega) h.inside hm.2 (by omega) (by omega)), fun w h1 h2 hw => ?_, by omega, by omega, ho, by omega, ?_⟩
  · rcases (s3 w).1 hw with hw | hw
    · exact h.none w (by omega) (by omega) hw
    · omega
  · have := h.res
    rw [show k + 1 - o = (k - o) + 1 by omega] at this
    simp only [splitX, Nat.add_sub_cancel] at this
    rwa [if_neg hx] at this
theorem SplitInv.done {z y : Zn} {x f : Int} {o : Nat} {T : Zn × Int} (h : SplitInv z x o T y f o) : T = (y, f) := by
  have := h.res
  rw [Nat.sub_self] at this
  exact this.symm
theorem SplitInv.start {z : Zn} (hv : Valid z) {x f : Int} {o k : Nat} {l : List Int} (hk : k ≤ 4) (ho : o ≤ k) (hf : f ∈ z.fr k) (hl : Sorted l) (hm : ∀ y, y ∈ l ↔ y ∈ z.fr k ∧ y ≠ f) (h1 : f ≤ x) (h2 : x < f + 2 ^ k) :
    SplitInv z x o (splitX (k - o) (z.set k l) f k x) (z.set k l) f k := by
  obtain ⟨q1, q2⟩ := hv.remove hk hf hl hm
  exact ⟨q1, sameP.set, sameP.set.inside.2 (hv.inside k f hk hf), fun y h3 h4 h => ((q2 y).1 h).2 ⟨h3, h4⟩, h1, h2, ho, hk, rfl⟩
theorem SplitInv.small {z y : Zn} {x f : Int} {o k : Nat} {T : Zn × Int} (h : SplitInv z x o T y f k) (hz : rangesZ z) : small y := fun k hk => by
  have := valid_small (h.same.ranges.2 hz) h.valid k hk
  omega
end Go.AM
