/- Free lists of a buddy system: the plain laws. A zone whose lists are in order, apart and joined is the one that its set of free frames gives. -/
import Derived.Test.YtjdahonmgfhpgaaBd1
set_option linter.all false

namespace Go.AM
open Go

def Zn.set (z : Zn) (k : Nat) (l : List Int) : Zn := match k with
  | 0 => { z with f0 := l }
  | 1 => { z with f1 := l }
  | 2 => { z with f2 := l }
  | 3 => { z with f3 := l }
  | 4 => { z with f4 := l }
  | _ => z

theorem le4 {k : Nat} (h : k ≤ 4) : k = 0 ∨ k = 1 ∨ k = 2 ∨ k = 3 ∨ k = 4 := by omega

theorem Zn.fr_set {z : Zn} {k j : Nat} {l : List Int} (hk : k ≤ 4) (hj : j ≤ 4) : (z.set k l).fr j = if j = k then l else z.fr j := by
  rcases le4 hk with rfl | rfl | rfl | rfl | rfl <;> rcases le4 hj with rfl | rfl | rfl | rfl | rfl <;> rfl

@[simp] theorem Zn.set_start {z : Zn} {k : Nat} {l : List Int} : (z.set k l).start = z.start := by unfold Zn.set; split <;> rfl
@[simp] theorem Zn.set_count {z : Zn} {k : Nat} {l : List Int} : (z.set k l).count = z.count := by unfold Zn.set; split <;> rfl
@[simp] theorem Zn.set_node {z : Zn} {k : Nat} {l : List Int} : (z.set k l).node = z.node := by unfold Zn.set; split <;> rfl
@[simp] theorem Zn.set_kind {z : Zn} {k : Nat} {l : List Int} : (z.set k l).kind = z.kind := by unfold Zn.set; split <;> rfl
@[simp] theorem Zn.set_least {z : Zn} {k : Nat} {l : List Int} : (z.set k l).least = z.least := by unfold Zn.set; split <;> rfl

def Sorted (l : List Int) : Prop := l.Pairwise (· < ·)

theorem sorted_ext : ∀ {l m : List Int}, Sorted l → Sorted m → (∀ x, x ∈ l ↔ x ∈ m) → l = m
  | [], [], _, _, _ => rfl
  | [], b :: m, _, _, h => by have := (h b).2 (by simp); simp at this
  | a :: l, [], _, _, h => by have := (h a).1 (by simp); simp at this
  | a :: l, b :: m, hl, hm, h => by
    have h1 := List.pairwise_cons.1 hl
    have h2 := List.pairwise_cons.1 hm
    have hab : a = b := by
      have ha := (h a).1 (by simp)
      have hb := (h b).2 (by simp)
      rcases List.mem_cons.1 ha with e | ha
      · exact e
      · rcases List.mem_cons.1 hb with e | hb
        · exact e.symm
        · have := h2.1 a ha
          have := h1.1 b hb
          omega
    subst hab
    congr 1
    refine sorted_ext h1.2 h2.2 fun x => ?_
    constructor
    · intro hx
      have := h1.1 x hx
      rcases List.mem_cons.1 ((h x).1 (List.mem_cons_of_mem _ hx)) with e | e
      · omega
      · exact e
    · intro hx
      have := h2.1 x hx
      rcases List.mem_cons.1 ((h x).2 (List.mem_cons_of_mem _ hx)) with e | e
      · omega
      · exact e

/-- Is every frame of a block in the set? -/
def Full (z : Zn) (S : Int → Prop) (f : Int) (k : Nat) : Prop := insideZ z f k ∧ ∀ g, f ≤ g → g < f + 2^k → S g
def par (f : Int) (k : Nat) : Int := f - f % 2^(k+1)
def top (z : Zn) (S : Int → Prop) (k : Nat) (f : Int) : Prop := Full z S f k ∧ ¬ (k < 4 ∧ Full z S (par f k) (k+1))

def Zn.frames (z : Zn) : List Int := (List.range z.count.toNat).map fun (i : Nat) => z.start + (i : Int)

open Classical in
noncomputable def canonL (z : Zn) (S : Int → Prop) (k : Nat) : List Int := z.frames.filter fun f => decide (top z S k f)

noncomputable def canon (z : Zn) (S : Int → Prop) : Zn := { z with f0 := canonL z S 0, f1 := canonL z S 1, f2 := canonL z S 2, f3 := canonL z S 3, f4 := canonL z S 4 }

theorem canon_fr {z : Zn} {S : Int → Prop} {k : Nat} (hk : k ≤ 4) : (canon z S).fr k = canonL z S k := by
  rcases le4 hk with rfl | rfl | rfl | rfl | rfl <;> rfl

theorem frames_sorted (z : Zn) : Sorted z.frames := by
  unfold Sorted Zn.frames
  rw [List.pairwise_map]
  refine List.pairwise_lt_range.imp fun h => by omega

theorem canonL_sorted {z : Zn} {S : Int → Prop} {k : Nat} : Sorted (canonL z S k) := (frames_sorted z).filter _

theorem mem_frames {z : Zn} {f : Int} : f ∈ z.frames ↔ z.start ≤ f ∧ f < z.start + z.count := by
  unfold Zn.frames
  rw [List.mem_map]
  constructor
  · rintro ⟨i, hi, rfl⟩
    have := List.mem_range.1 hi
    omega
  · rintro ⟨h1, h2⟩
    exact ⟨(f - z.start).toNat, List.mem_range.2 (by omega), by omega⟩

theorem pow_pos' {k : Nat} : (1 : Int) ≤ 2 ^ k := by
  have := Nat.one_le_two_pow (n := k)
  have h3 : ((2 ^ k : Nat) : Int) = (2 : Int) ^ k := by simp
  omega

theorem mem_canonL {z : Zn} {S : Int → Prop} {k : Nat} {f : Int} : f ∈ canonL z S k ↔ top z S k f := by
  unfold canonL
  rw [List.mem_filter, mem_frames]
  simp only [decide_eq_true_eq]
  refine ⟨fun h => h.2, fun h => ⟨?_, h⟩⟩
  obtain ⟨⟨⟨h1, h2, h3, h4⟩, _⟩, _⟩ := h
  have := pow_pos' (k := k)
  omega

theorem nest {k j : Nat} {f g : Int} (hkj : k ≤ j) (hj : j ≤ 4) (hf : f % 2^k = 0) (hg : g % 2^j = 0) (h1 : g ≤ f) (h2 : f < g + 2^j) : f + 2^k ≤ g + 2^j := by
  rcases le4 hj with rfl | rfl | rfl | rfl | rfl <;> rcases le4 (Nat.le_trans hkj hj) with rfl | rfl | rfl | rfl | rfl <;> first | (exfalso; omega) | (simp at *; omega)

theorem nest' {k j : Nat} {f g x : Int} (hkj : k ≤ j) (hj : j ≤ 4) (hf : f % 2^k = 0) (hg : g % 2^j = 0) (h1 : g ≤ x) (h2 : x < g + 2^j) (h3 : f ≤ x) (h4 : x < f + 2^k) : g ≤ f := by
  rcases le4 hj with rfl | rfl | rfl | rfl | rfl <;> rcases le4 (Nat.le_trans hkj hj) with rfl | rfl | rfl | rfl | rfl <;> first | (exfalso; omega) | (simp at *; omega)

/-- Blocks that meet: the smaller one lies in the greater one. -/
theorem nested {k j : Nat} {f g x : Int} (hkj : k ≤ j) (hj : j ≤ 4) (hf : f % 2^k = 0) (hg : g % 2^j = 0) (h1 : g ≤ x) (h2 : x < g + 2^j) (h3 : f ≤ x) (h4 : x < f + 2^k) : g ≤ f ∧ f + 2^k ≤ g + 2^j := by
  have h5 := nest' hkj hj hf hg h1 h2 h3 h4
  exact ⟨h5, nest hkj hj hf hg h5 (by omega)⟩

theorem same_of_meet {k : Nat} {f g x : Int} (hk : k ≤ 4) (hf : f % 2^k = 0) (hg : g % 2^k = 0) (h1 : g ≤ x) (h2 : x < g + 2^k) (h3 : f ≤ x) (h4 : x < f + 2^k) : f = g := by
  have h5 := nested (Nat.le_refl k) hk hf hg h1 h2 h3 h4
  omega

theorem par_facts {k : Nat} {f : Int} (hk : k < 4) (hf : f % 2^k = 0) : (par f k) % 2^(k+1) = 0 ∧ par f k ≤ f ∧ f + 2^k ≤ par f k + 2^(k+1) ∧ (par f k = f ∨ par f k + 2^k = f) := by
  unfold par
  rcases le4 (Nat.le_of_lt hk) with rfl | rfl | rfl | rfl | rfl <;> first | (exfalso; omega) | (simp at *; omega)

/-- A zone whose lists are as they should be. -/
structure Valid (z : Zn) : Prop where
  sorted : ∀ k, k ≤ 4 → Sorted (z.fr k)
  inside : ∀ k f, k ≤ 4 → f ∈ z.fr k → insideZ z f k
  apart : ∀ k f j g x, k ≤ 4 → j ≤ 4 → f ∈ z.fr k → g ∈ z.fr j → f ≤ x → x < f + 2^k → g ≤ x → x < g + 2^j → k = j ∧ f = g
  joined : ∀ k f, k < 4 → f ∈ z.fr k → f + 2^k ∈ z.fr k → insideZ z f (k+1) → False

def free (z : Zn) (x : Int) : Prop := ∃ k f, k ≤ 4 ∧ f ∈ z.fr k ∧ f ≤ x ∧ x < f + 2^k

theorem inside_of_sub {z : Zn} {k j : Nat} {f g : Int} (hkj : k ≤ j) (hj : j ≤ 4) (hg : insideZ z g j) (hf : f % 2^k = 0) (h1 : g ≤ f) (h2 : f + 2^k ≤ g + 2^j) : insideZ z f k := by
  obtain ⟨a, b, c, d⟩ := hg
  refine ⟨by omega, hf, ?_, by omega⟩
  rcases le4 hj with rfl | rfl | rfl | rfl | rfl <;> rcases le4 (Nat.le_trans hkj hj) with rfl | rfl | rfl | rfl | rfl <;> first | (exfalso; omega) | (simp at *; omega)

theorem Full.sub {z : Zn} {S : Int → Prop} {k j : Nat} {f g : Int} (h : Full z S g j) (hkj : k ≤ j) (hj : j ≤ 4) (hf : f % 2^k = 0) (h1 : g ≤ f) (h2 : f + 2^k ≤ g + 2^j) : Full z S f k :=
  ⟨inside_of_sub hkj hj h.1 hf h1 h2, fun x h3 h4 => h.2 x (by omega) (by omega)⟩

theorem pow_succ2 {k : Nat} : (2 : Int) ^ (k + 1) = 2 ^ k + 2 ^ k := by rw [Int.pow_succ]; omega

theorem mod_half {k : Nat} {f : Int} (hk : k + 1 ≤ 4) (hf : f % 2^(k+1) = 0) : f % 2^k = 0 ∧ (f + 2^k) % 2^k = 0 := by
  rcases le4 (show k ≤ 4 by omega) with rfl | rfl | rfl | rfl | rfl <;> first | (exfalso; omega) | (simp at * <;> omega)

/-- A full block is covered by one block that is not smaller. -/
theorem cover {z : Zn} (hv : Valid z) : ∀ {j : Nat} {g : Int}, j ≤ 4 → Full z (free z) g j → ∃ k f, j ≤ k ∧ k ≤ 4 ∧ f ∈ z.fr k ∧ f ≤ g ∧ g + 2^j ≤ f + 2^k
  | 0, g, _, h => by
    have := h.2 g (by omega) (by simp only [Int.pow_zero]; omega)
    obtain ⟨k, f, h1, h2, h3, h4⟩ := this
    exact ⟨k, f, Nat.zero_le _, h1, h2, h3, by simp only [Int.pow_zero]; omega⟩
  | j + 1, g, hj, h => by
    have hg := h.1.2.1
    have hm := mod_half hj hg
    have hp := pow_succ2 (k := j)
    have hpos := pow_pos' (k := j)
    obtain ⟨k1, f1, a1, a2, a3, a4, a5⟩ := cover hv (j := j) (g := g) (by omega) (h.sub (by omega) hj hm.1 (by omega) (by omega))
    obtain ⟨k2, f2, b1, b2, b3, b4, b5⟩ := cover hv (j := j) (g := g + 2^j) (by omega) (h.sub (by omega) hj hm.2 (by omega) (by omega))
    have i1 := hv.inside k1 f1 a2 a3
    have i2 := hv.inside k2 f2 b2 b3
    by_cases c1 : j + 1 ≤ k1
    · have := nested (x := g) c1 a2 hg i1.2.1 a4 (by omega) (by omega) (by omega)
      exact ⟨k1, f1, c1, a2, a3, a4, this.2⟩
    · by_cases c2 : j + 1 ≤ k2
      · have := nested (x := g + 2^j) c2 b2 hg i2.2.1 b4 (by omega) (by omega) (by omega)
        exact ⟨k2, f2, c2, b2, b3, this.1, this.2⟩
      · exfalso
        have e1 : k1 = j := by omega
        have e2 : k2 = j := by omega
        subst e1 e2
        have q1 : f1 = g := by omega
        have q2 : f2 = f1 + 2^k2 := by omega
        subst q1 q2
        exact hv.joined _ _ (by omega) a3 b3 h.1

theorem Valid.full {z : Zn} (hv : Valid z) {k : Nat} {f : Int} (hk : k ≤ 4) (hf : f ∈ z.fr k) : Full z (free z) f k := ⟨hv.inside k f hk hf, fun x h1 h2 => ⟨k, f, hk, hf, h1, h2⟩⟩

theorem Valid.top {z : Zn} (hv : Valid z) {k : Nat} {f : Int} (hk : k ≤ 4) : f ∈ z.fr k ↔ top z (free z) k f := by
  constructor
  · intro hf
    have hfull := hv.full hk hf
    refine ⟨hfull, fun ⟨hk4, hp⟩ => ?_⟩
    have hpf := par_facts hk4 hfull.1.2.1
    obtain ⟨j, g, h1, h2, h3, h4, h5⟩ := cover hv (by omega) hp
    have hpos := pow_pos' (k := k)
    have := hv.apart k f j g f hk h2 hf h3 (by omega) (by omega) (by omega) (by omega)
    omega
  · rintro ⟨hfull, hn⟩
    obtain ⟨j, g, h1, h2, h3, h4, h5⟩ := cover hv hk hfull
    have hpos := pow_pos' (k := k)
    rcases Nat.lt_or_ge k j with hlt | hge
    · exfalso
      have hk4 : k < 4 := by omega
      refine hn ⟨hk4, ?_⟩
      have hpf := par_facts hk4 hfull.1.2.1
      have hg := hv.full h2 h3
      have := nested (x := f) (show k + 1 ≤ j by omega) h2 hpf.1 hg.1.2.1 h4 (by omega) (by omega) (by omega)
      exact hg.sub (by omega) h2 hpf.1 this.1 this.2
    · have : j = k := by omega
      subst this
      have : g = f := by omega
      rw [← this]; exact h3

theorem Zn.ext_fr {z y : Zn} (h1 : z.node = y.node) (h2 : z.kind = y.kind) (h3 : z.start = y.start) (h4 : z.count = y.count) (h5 : z.least = y.least) (h : ∀ k, k ≤ 4 → z.fr k = y.fr k) : z = y := by
  have a0 : z.f0 = y.f0 := h 0 (by omega)
  have a1 : z.f1 = y.f1 := h 1 (by omega)
  have a2 : z.f2 = y.f2 := h 2 (by omega)
  have a3 : z.f3 = y.f3 := h 3 (by omega)
  have a4 : z.f4 = y.f4 := h 4 (by omega)
  cases z; cases y; simp_all

theorem Valid.canon {z : Zn} (hv : Valid z) : z = canon z (free z) := by
  refine Zn.ext_fr rfl rfl rfl rfl rfl fun k hk => ?_
  rw [canon_fr hk]
  exact sorted_ext (hv.sorted k hk) canonL_sorted fun x => by rw [mem_canonL]; exact hv.top hk

/-- The set lies in the zone. -/
def In (z : Zn) (S : Int → Prop) : Prop := ∀ g, S g → z.start ≤ g ∧ g < z.start + z.count

theorem canon_valid {z : Zn} {S : Int → Prop} : Valid (canon z S) where
  sorted := fun k hk => by rw [canon_fr hk]; exact canonL_sorted
  inside := fun k f hk hf => by
    rw [canon_fr hk, mem_canonL] at hf
    exact hf.1.1
  apart := by
    have key : ∀ k f j g x, k ≤ j → j ≤ 4 → top z S k f → top z S j g → f ≤ x → x < f + 2^k → g ≤ x → x < g + 2^j → k = j ∧ f = g := fun k f j g x hkj hj hf hg h1 h2 h3 h4 => by
      rcases Nat.lt_or_ge k j with hlt | hge
      · exfalso
        have hk4 : k < 4 := by omega
        refine hf.2 ⟨hk4, ?_⟩
        have hpf := par_facts hk4 hf.1.1.2.1
        have := nested (x := x) (show k + 1 ≤ j by omega) hj hpf.1 hg.1.1.2.1 h3 h4 (by omega) (by omega)
        exact hg.1.sub (by omega) hj hpf.1 this.1 this.2
      · have : k = j := by omega
        subst this
        exact ⟨rfl, same_of_meet hj hf.1.1.2.1 hg.1.1.2.1 h3 h4 h1 h2⟩
    intro k f j g x hk hj hf hg h1 h2 h3 h4
    rw [canon_fr hk, mem_canonL] at hf
    rw [canon_fr hj, mem_canonL] at hg
    rcases Nat.le_total k j with h | h
    · exact key k f j g x h hj hf hg h1 h2 h3 h4
    · have := key j g k f x h hk hg hf h3 h4 h1 h2
      exact ⟨this.1.symm, this.2.symm⟩
  joined := fun k f hk hf hg hi => by
    rw [canon_fr (by omega), mem_canonL] at hf hg
    have e : par f k = f := by unfold par; have := hi.2.1; omega
    have hi' : insideZ z f (k+1) := hi
    refine hf.2 ⟨hk, ?_⟩
    rw [e]
    refine ⟨hi', fun x h1 h2 => ?_⟩
    rw [pow_succ2] at h2
    by_cases h : x < f + 2^k
    · exact hf.1.2 x h1 h
    · exact hg.1.2 x (by omega) (by omega)

theorem mod_self {k : Nat} {g : Int} (hk : k ≤ 4) : (g - g % 2^k) % 2^k = 0 ∧ g - g % 2^k ≤ g ∧ g < g - g % 2^k + 2^k := by
  rcases le4 hk with rfl | rfl | rfl | rfl | rfl <;> (simp; omega)

theorem free_canon {z : Zn} {S : Int → Prop} (hz : 1 ≤ z.count) (hS : In z S) {g : Int} : free (canon z S) g ↔ S g := by
  constructor
  · rintro ⟨k, f, hk, hf, h1, h2⟩
    rw [canon_fr hk, mem_canonL] at hf
    exact hf.1.2 g h1 h2
  · intro hg
    have h0 : Full z S (g - g % 2^0) 0 := by
      have := hS g hg
      refine ⟨⟨by simp; omega, by simp, by simp; omega, by simp; omega⟩, fun x h1 h2 => ?_⟩
      have : x = g := by simp at h1 h2; omega
      rw [this]; exact hg
    have up : ∀ n, n ≤ 4 → (∃ k, k ≤ 4 ∧ top z S k (g - g % 2^k)) ∨ Full z S (g - g % 2^n) n := by
      intro n
      induction n with
      | zero => exact fun _ => .inr h0
      | succ n ih =>
        intro hn
        rcases ih (by omega) with h | h
        · exact .inl h
        · by_cases hp : Full z S (g - g % 2^(n+1)) (n+1)
          · exact .inr hp
          · left
            refine ⟨n, by omega, h, fun ⟨_, hq⟩ => hp ?_⟩
            have e : par (g - g % 2^n) n = g - g % 2^(n+1) := by
              unfold par
              rcases le4 (show n ≤ 4 by omega) with rfl | rfl | rfl | rfl | rfl <;> first | (exfalso; omega) | (simp <;> omega)
            rw [e] at hq
            exact hq
    have : ∃ k, k ≤ 4 ∧ top z S k (g - g % 2^k) := by
      rcases up 4 (Nat.le_refl _) with h | h
      · exact h
      · exact ⟨4, Nat.le_refl _, h, fun hh => by omega⟩
    obtain ⟨k, hk, ht⟩ := this
    have hm := mod_self (g := g) hk
    exact ⟨k, _, hk, by rw [canon_fr hk, mem_canonL]; exact ht, hm.2.1, hm.2.2⟩

theorem Valid.inz {z : Zn} (hv : Valid z) : In z (free z) := fun g ⟨k, f, hk, hf, h1, h2⟩ => by
  obtain ⟨a, _, _, d⟩ := hv.inside k f hk hf
  omega

/-- The zone depends on the set alone. -/
theorem canon_congr {z : Zn} {S S' : Int → Prop} (h : ∀ g, S g ↔ S' g) : canon z S = canon z S' := by
  have : S = S' := funext fun g => propext (h g)
  rw [this]

/-- Without one block. -/
theorem Valid.remove {z : Zn} (hv : Valid z) {k : Nat} {f : Int} (hk : k ≤ 4) (hf : f ∈ z.fr k) {l : List Int} (hl : Sorted l) (hm : ∀ x, x ∈ l ↔ x ∈ z.fr k ∧ x ≠ f) :
    Valid (z.set k l) ∧ ∀ x, free (z.set k l) x ↔ free z x ∧ ¬ (f ≤ x ∧ x < f + 2^k) := by
  have hsub : ∀ j x, j ≤ 4 → (x ∈ (z.set k l).fr j ↔ x ∈ z.fr j ∧ ¬ (j = k ∧ x = f)) := fun j x hj => by
    rw [Zn.fr_set hk hj]
    split
    · rename_i e; subst e; rw [hm]; simp
    · rename_i e; simp [e]
  have hin : ∀ f j, insideZ (z.set k l) f j ↔ insideZ z f j := fun f j => by simp [insideZ]
  refine ⟨⟨fun j hj => ?_, fun j x hj hx => ?_, fun j x i y w hj hi hx hy => ?_, fun j x hj hx hy hi => ?_⟩, fun x => ?_⟩
  · rw [Zn.fr_set hk hj]
    split
    · exact hl
    · exact hv.sorted j hj
  · rw [hin]; exact hv.inside j x hj ((hsub j x hj).1 hx).1
  · exact hv.apart j x i y w hj hi ((hsub j x hj).1 hx).1 ((hsub i y hi).1 hy).1
  · exact hv.joined j x hj ((hsub j x (by omega)).1 hx).1 ((hsub j _ (by omega)).1 hy).1 ((hin _ _).1 hi)
  · constructor
    · rintro ⟨j, y, hj, hy, h1, h2⟩
      obtain ⟨hy1, hy2⟩ := (hsub j y hj).1 hy
      exact ⟨⟨j, y, hj, hy1, h1, h2⟩, fun ⟨h3, h4⟩ => hy2 (hv.apart j y k f x hj hk hy1 hf h1 h2 h3 h4)⟩
    · rintro ⟨⟨j, y, hj, hy, h1, h2⟩, hn⟩
      exact ⟨j, y, hj, (hsub j y hj).2 ⟨hy, fun ⟨e1, e2⟩ => by subst e1 e2; exact hn ⟨h1, h2⟩⟩, h1, h2⟩

/-- With one block more, which has no partner. -/
theorem Valid.insert {z : Zn} (hv : Valid z) {k : Nat} {f : Int} (hk : k ≤ 4) (hi : insideZ z f k) (hd : ∀ x, f ≤ x → x < f + 2^k → ¬ free z x) (hp : k < 4 → insideZ z (par f k) (k+1) → (if par f k = f then f + 2^k else par f k) ∉ z.fr k) {l : List Int} (hl : Sorted l) (hm : ∀ x, x ∈ l ↔ x ∈ z.fr k ∨ x = f) :
    Valid (z.set k l) ∧ ∀ x, free (z.set k l) x ↔ free z x ∨ (f ≤ x ∧ x < f + 2^k) := by
  have hsub : ∀ j x, j ≤ 4 → (x ∈ (z.set k l).fr j ↔ x ∈ z.fr j ∨ (j = k ∧ x = f)) := fun j x hj => by
    rw [Zn.fr_set hk hj]
    split
    · rename_i e; subst e; rw [hm]; simp
    · rename_i e; simp [e]
  have hin : ∀ f j, insideZ (z.set k l) f j ↔ insideZ z f j := fun f j => by simp [insideZ]
  have hpos := pow_pos' (k := k)
  refine ⟨⟨fun j hj => ?_, fun j x hj hx => ?_, fun j x i y w hj hi' hx hy h1 h2 h3 h4 => ?_, fun j x hj hx hy hi' => ?_⟩, fun x => ?_⟩
  · rw [Zn.fr_set hk hj]
    split
    · exact hl
    · exact hv.sorted j hj
  · rw [hin]
    rcases (hsub j x hj).1 hx with h | ⟨rfl, rfl⟩
    · exact hv.inside j x hj h
    · exact hi
  · rcases (hsub j x hj).1 hx with px | ⟨e1, e2⟩ <;> rcases (hsub i y hi').1 hy with py | ⟨e3, e4⟩
    · exact hv.apart j x i y w hj hi' px py h1 h2 h3 h4
    · subst e3 e4; exact absurd ⟨j, x, hj, px, h1, h2⟩ (hd w h3 h4)
    · subst e1 e2; exact absurd ⟨i, y, hi', py, h3, h4⟩ (hd w h1 h2)
    · exact ⟨e1.trans e3.symm, e2.trans e4.symm⟩
  · rw [hin] at hi'
    have hx0 := hi'.2.1
    have e : ∀ {f : Int}, f % 2^(j+1) = 0 → par f j = f := fun h => by unfold par; omega
    rcases (hsub j x (by omega)).1 hx with px | ⟨e1, e3⟩ <;> rcases (hsub j _ (by omega)).1 hy with py | ⟨ej, hyf⟩
    · exact hv.joined j x hj px py hi'
    · subst ej
      have e2 : par f j = x := by
        have := par_facts hj (show f % 2^j = 0 from hi.2.1)
        rw [← hyf] at this ⊢
        have hb := (par_facts hj (mod_half (show j + 1 ≤ 4 by omega) hx0).2)
        have hs := pow_succ2 (k := j)
        have hp0 := pow_pos' (k := j)
        exact same_of_meet (x := x + 2^j) (k := j + 1) (f := par (x + 2^j) j) (g := x) (by omega) hb.1 hx0 (by omega) (by omega) (by omega) (by omega)
      have := hp hj (by rw [e2]; exact hi')
      rw [e2, if_neg (by omega)] at this
      exact this px
    · subst e1 e3
      have := hp hj (by rw [e hx0]; exact hi')
      rw [e hx0, if_pos rfl] at this
      exact this py
    · omega
  · constructor
    · rintro ⟨j, y, hj, hy, h1, h2⟩
      rcases (hsub j y hj).1 hy with hy | ⟨rfl, rfl⟩
      · exact .inl ⟨j, y, hj, hy, h1, h2⟩
      · exact .inr ⟨h1, h2⟩
    · rintro (⟨j, y, hj, hy, h1, h2⟩ | ⟨h1, h2⟩)
      · exact ⟨j, y, hj, (hsub j y hj).2 (.inl hy), h1, h2⟩
      · exact ⟨k, f, hk, (hsub k f hk).2 (.inr ⟨rfl, rfl⟩), h1, h2⟩
end Go.AM
