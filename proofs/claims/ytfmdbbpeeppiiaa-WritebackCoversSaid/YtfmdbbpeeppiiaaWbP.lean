/- Writeback in plain words: the order of writing, the least page, runs. -/
import Derived.Test.YtfmdbbpeeppiiaaWb4
set_option linter.all false

namespace Go.AM
open Go

theorem stoD : STO ltD where
  irr a := by unfold ltD; omega
  trans {a b c} h k := by unfold ltD at *; omega
  tri a b := by
    obtain ⟨a1, a2, a3⟩ := a
    obtain ⟨b1, b2, b3⟩ := b
    unfold ltD
    simp only [Prod.mk.injEq]
    omega
def ltP (a b : Mp) : Prop := a.1 < b.1 ∨ a.1 = b.1 ∧ a.2 < b.2
instance (a b : Mp) : Decidable (ltP a b) := by unfold ltP; infer_instance
theorem stoP : STO ltP where
  irr a := by unfold ltP; omega
  trans {a b c} h k := by unfold ltP at *; omega
  tri a b := by
    obtain ⟨a1, a2⟩ := a
    obtain ⟨b1, b2⟩ := b
    unfold ltP
    simp only [Prod.mk.injEq]
    omega
theorem insG_at {α : Type} {lt : α → α → Prop} [DecidableRel lt] {m : α} : ∀ {l : List α} {j : Nat}, (∀ y ∈ l.take j, ¬ lt m y) → (∀ y ∈ l.drop j, lt m y) → insG lt l m = l.take j ++ m :: l.drop j
  | [], j, _, _ => by simp [insG]
  | x :: r, 0, _, h2 => by simp only [insG]; rw [if_pos (h2 x (by simp))]; rfl
  | x :: r, j + 1, h1, h2 => by
    simp only [insG]
    rw [if_neg (h1 x (by simp)), insG_at (j := j) (fun y hy => h1 y (by simp [hy])) (fun y hy => h2 y (by simpa using hy))]
    rfl

/-- What Order gives. -/
noncomputable def ordR (l : List Tp) : List Tp × Int := if chkD l = 0 then (sortG ltD l, 0) else ([], chkD l)
theorem ordR_z {l : List Tp} (h : chkD l = 0) : ordR l = (sortG ltD l, 0) := by unfold ordR; rw [if_pos h]
theorem ordR_n {l : List Tp} (h : ¬ chkD l = 0) : ordR l = ([], chkD l) := by unfold ordR; rw [if_neg h]

/-! A nodup list within another one -/
theorem nodup_le {α : Type} [DecidableEq α] : ∀ {a b : List α}, a.Nodup → (∀ x ∈ a, x ∈ b) → a.length ≤ b.length
  | [], _, _, _ => by simp
  | x :: a, b, hn, h => by
    obtain ⟨h1, h2⟩ := List.nodup_cons.1 hn
    have hx : x ∈ b := h x (by simp)
    have := nodup_le (a := a) (b := b.erase x) h2 fun y hy => by
      have hne : y ≠ x := fun e => h1 (e ▸ hy)
      exact (List.mem_erase_of_ne hne).2 (h y (by simp [hy]))
    rw [List.length_erase_of_mem hx] at this
    have hpos := List.length_pos_of_mem hx
    simp only [List.length_cons]
    omega
theorem nodup_all {α : Type} [DecidableEq α] {a b : List α} (hn : a.Nodup) (h : ∀ x ∈ a, x ∈ b) (hl : b.length ≤ a.length) : ∀ x ∈ b, x ∈ a := fun x hx => Classical.byContradiction fun hxa => by
  have := nodup_le (a := a) (b := b.erase x) hn fun y hy => by
    have hne : y ≠ x := fun e => hxa (e ▸ hy)
    exact (List.mem_erase_of_ne hne).2 (h y hy)
  rw [List.length_erase_of_mem hx] at this
  have hpos := List.length_pos_of_mem hx
  omega
/-- All places. -/
def allP : List Mp := (List.range 4).flatMap fun f : Nat => (List.range 16).map fun i : Nat => ((f : Int), (i : Int))
theorem mem_allP {p : Mp} : p ∈ allP ↔ pgN p.1 p.2 := by
  obtain ⟨a, b⟩ := p
  unfold allP pgN
  simp only [List.mem_flatMap, List.mem_range, List.mem_map, Prod.mk.injEq]
  constructor
  · rintro ⟨f, hf, i, hi, rfl, rfl⟩
    omega
  · rintro ⟨h1, h2⟩
    exact ⟨a.toNat, by omega, b.toNat, by omega, by omega, by omega⟩
theorem chk_len {l : List Tp} (h : chkD l = 0) : l.length ≤ 64 := by
  obtain ⟨hv, hn⟩ := chk_zero.1 h
  have := nodup_le hn (b := allP) fun p hp => by
    obtain ⟨q, hq, rfl⟩ := List.mem_map.1 hp
    obtain ⟨j, hj, rfl⟩ := List.getElem_of_mem hq
    have := (hv j hj).1
    rw [gd_eq hj] at this
    exact mem_allP.2 this
  rw [List.length_map] at this
  exact this

/-! The least page -/
def mnD (m y : Tp) : Tp := if ltD y m then y else m
def mnP (l : List Tp) : Nat → Tp
  | 0 => gd l 0
  | i + 1 => mnD (mnP l i) (gd l (i + 1))
/-- The least of the first i + 1 pages. -/
theorem mnP_le (l : List Tp) : ∀ {i j : Nat}, j ≤ i → ¬ ltD (gd l j) (mnP l i)
  | 0, j, h => by obtain rfl : j = 0 := by omega
                  exact stoD.irr _
  | i + 1, j, h => by
    simp only [mnP, mnD]
    split
    · rename_i hl
      rcases Nat.lt_or_eq_of_le h with h1 | rfl
      · have := mnP_le l (i := i) (j := j) (by omega)
        exact fun hh => this (stoD.trans hh hl)
      · exact stoD.irr _
    · rename_i hl
      rcases Nat.lt_or_eq_of_le h with h1 | rfl
      · exact mnP_le l (by omega)
      · exact hl
theorem mnP_at (l : List Tp) : ∀ (i : Nat), ∃ j, j ≤ i ∧ mnP l i = gd l j
  | 0 => ⟨0, Nat.le_refl _, rfl⟩
  | i + 1 => by
    simp only [mnP, mnD]
    split
    · exact ⟨i + 1, Nat.le_refl _, rfl⟩
    · obtain ⟨j, h1, h2⟩ := mnP_at l i
      exact ⟨j, by omega, h2⟩
def mnL (l : List Tp) : Tp := mnP l (l.length - 1)

def fstD (p : Tp → Bool) (l : List Tp) : Int := if l.findIdx p < l.length then (l.findIdx p : Int) else -1
theorem fstD_at {p : Tp → Bool} {l : List Tp} {i : Nat} (hi : i < l.length) (hp : p (gd l i) = true) (hn : ∀ j, j < i → p (gd l j) = false) : fstD p l = i := by
  have : l.findIdx p = i := by
    rw [List.findIdx_eq hi]
    refine ⟨by rw [← gd_eq hi]; exact hp, fun j hj => ?_⟩
    have := hn j hj
    rw [gd_eq (by omega)] at this
    exact this
  unfold fstD
  rw [this, if_pos hi]
theorem fstD_not {p : Tp → Bool} {l : List Tp} (hn : ∀ j, j < l.length → p (gd l j) = false) : fstD p l = -1 := by
  have : l.findIdx p = l.length := by
    rw [List.findIdx_eq_length]
    intro x hx
    obtain ⟨j, hj, rfl⟩ := List.getElem_of_mem hx
    have := hn j hj
    rw [gd_eq hj] at this
    exact this
  unfold fstD
  rw [this, if_neg (by omega)]
theorem fstD_cases (p : Tp → Bool) (l : List Tp) : (fstD p l = -1 ∧ ∀ j, j < l.length → p (gd l j) = false) ∨ ∃ i, i < l.length ∧ fstD p l = (i : Int) ∧ p (gd l i) = true ∧ ∀ j, j < i → p (gd l j) = false := by
  by_cases h : l.findIdx p < l.length
  · right
    refine ⟨l.findIdx p, h, by unfold fstD; rw [if_pos h], ?_, fun j hj => ?_⟩
    · rw [gd_eq h]; exact List.findIdx_getElem
    · rw [gd_eq (by omega)]
      have := List.not_of_lt_findIdx hj
      simpa using this
  · left
    have h2 : l.findIdx p = l.length := Nat.le_antisymm (List.findIdx_le_length) (by omega)
    refine ⟨by unfold fstD; rw [if_neg h], fun j hj => ?_⟩
    rw [gd_eq hj]
    exact (List.findIdx_eq_length.1 h2) _ (List.getElem_mem hj)
def eqD (m x : Tp) : Bool := decide (x = m)
/-- What Next gives. -/
noncomputable def nxtR (l : List Tp) : Int := if l = [] then -1 else if chkD l = 0 then fstD (eqD (mnL l)) l else -1
theorem nxtR_e : nxtR [] = -1 := by unfold nxtR; rw [if_pos rfl]
theorem nxtR_n {l : List Tp} (h : ¬ chkD l = 0) : nxtR l = -1 := by
  unfold nxtR
  by_cases h1 : l = []
  · rw [if_pos h1]
  · rw [if_neg h1, if_neg h]
theorem nxtR_z {l : List Tp} (h0 : l ≠ []) (h : chkD l = 0) : nxtR l = fstD (eqD (mnL l)) l := by unfold nxtR; rw [if_neg h0, if_pos h]

/-! Runs -/
/-- How long a run of at most m pages is that begins at i. -/
def rl (P : Nat → Bool) (m : Int) (i : Nat) : Nat := ((List.range (16 - i)).takeWhile fun n : Nat => decide ((n : Int) < m) && P (i + n)).length
theorem takeWhile_at {p : Nat → Bool} {N n : Nat} (hn : n ≤ N) (h1 : ∀ j, j < n → p j = true) (h2 : n < N → p n = false) : ((List.range N).takeWhile p).length = n := by
  have : (List.range N).takeWhile p = List.range n := by
    obtain ⟨d, rfl⟩ : ∃ d, N = n + d := ⟨N - n, by omega⟩
    rw [List.range_add, List.takeWhile_append_of_pos (by intro a ha; exact h1 a (List.mem_range.1 ha))]
    cases d with
    | zero => simp
    | succ d =>
      rw [List.range_succ_eq_map]
      simp only [List.map_cons, Nat.add_zero]
      rw [List.takeWhile_cons_of_neg (by rw [h2 (by omega)]; simp)]
      simp
  rw [this, List.length_range]
theorem rl_at {P : Nat → Bool} {m : Int} {i n : Nat} (hn : n ≤ 16 - i) (h1 : ∀ j, j < n → (j : Int) < m ∧ P (i + j) = true) (h2 : n < 16 - i → ¬ ((n : Int) < m ∧ P (i + n) = true)) : rl P m i = n :=
  takeWhile_at hn (fun j hj => by have := h1 j hj; simp [this.1, this.2]) fun h => by
    have := h2 h
    by_cases h3 : (n : Int) < m
    · simp only [h3, true_and, Bool.not_eq_true] at this
      simp [this]
    · simp [h3]
theorem rl_spec (P : Nat → Bool) (m : Int) (i : Nat) : rl P m i ≤ 16 - i ∧ (∀ j, j < rl P m i → (j : Int) < m ∧ P (i + j) = true) ∧ (rl P m i < 16 - i → ¬ ((rl P m i : Int) < m ∧ P (i + rl P m i) = true)) := by
  have key : ∀ N, N ≤ 16 - i → ∃ n, n ≤ N ∧ (∀ j, j < n → (j : Int) < m ∧ P (i + j) = true) ∧ (n < N → ¬ ((n : Int) < m ∧ P (i + n) = true)) := by
    intro N
    induction N with
    | zero => intro _; exact ⟨0, Nat.le_refl _, fun j hj => by omega, fun h => by omega⟩
    | succ N ih =>
      intro hN
      obtain ⟨n, h1, h2, h3⟩ := ih (by omega)
      by_cases hn : n < N
      · exact ⟨n, by omega, h2, fun _ => h3 hn⟩
      · obtain rfl : n = N := by omega
        by_cases hp : (n : Int) < m ∧ P (i + n) = true
        · refine ⟨n + 1, Nat.le_refl _, fun j hj => ?_, fun h => by omega⟩
          rcases Nat.lt_succ_iff_lt_or_eq.1 hj with h | rfl
          · exact h2 j h
          · exact hp
        · exact ⟨n, by omega, h2, fun _ => hp⟩
  obtain ⟨n, h1, h2, h3⟩ := key _ (Nat.le_refl _)
  rw [rl_at h1 h2 h3]
  exact ⟨h1, h2, h3⟩
/-- The runs of a file from i on. -/
def scan (P : Nat → Bool) (m : Int) (i : Nat) : List (Nat × Nat) :=
  if h : 16 ≤ i then [] else if h0 : rl P m i = 0 then scan P m (i + 1) else (i, rl P m i) :: scan P m (i + rl P m i)
termination_by 16 - i
theorem scan_end {P : Nat → Bool} {m : Int} {i : Nat} (h : 16 ≤ i) : scan P m i = [] := by rw [scan, dif_pos h]
theorem scan_skip {P : Nat → Bool} {m : Int} {i : Nat} (h : ¬ 16 ≤ i) (h0 : rl P m i = 0) : scan P m i = scan P m (i + 1) := by rw [scan, dif_neg h, dif_pos h0]
theorem scan_run {P : Nat → Bool} {m : Int} {i : Nat} (h : ¬ 16 ≤ i) (h0 : ¬ rl P m i = 0) : scan P m i = (i, rl P m i) :: scan P m (i + rl P m i) := by rw [scan, dif_neg h, dif_neg h0]
def fil (f : Nat) (L : List (Nat × Nat)) : List Tp := L.map fun x => ((f : Int), (x.1 : Int), (x.2 : Int))
/-- The runs, file by file. -/
def runF (Q : Nat → Nat → Bool) (m : Int) (n : Nat) : List Tp := (List.range n).flatMap fun f => fil f (scan (Q f) m 0)
theorem runF_succ (Q : Nat → Nat → Bool) (m : Int) (n : Nat) : runF Q m (n + 1) = runF Q m n ++ fil n (scan (Q n) m 0) := by
  unfold runF
  rw [List.range_succ, List.flatMap_append]
  simp
/-- Is a place dirty? -/
def hasP (l : List Tp) (f i : Int) : Bool := decide ((f, i) ∈ l.map plc)
def hasN (l : List Tp) (f i : Nat) : Bool := hasP l f i
noncomputable def runR (l : List Tp) (m : Int) : List Tp × Int :=
  if chkD l = 0 then (if m < 1 then ([], 2) else (runF (hasN l) m 4, 0)) else ([], chkD l)
theorem runR_n {l : List Tp} {m : Int} (h : ¬ chkD l = 0) : runR l m = ([], chkD l) := by unfold runR; rw [if_neg h]
theorem runR_m {l : List Tp} {m : Int} (h : chkD l = 0) (h1 : m < 1) : runR l m = ([], 2) := by unfold runR; rw [if_pos h, if_pos h1]
theorem runR_z {l : List Tp} {m : Int} (h : chkD l = 0) (h1 : ¬ m < 1) : runR l m = (runF (hasN l) m 4, 0) := by unfold runR; rw [if_pos h, if_neg h1]

/-! The runs of a list of places in order -/
def plc1 (m : Int) (S : List Mp) (n : Nat) : Bool := decide ((n : Int) < m) && decide (S[n]? = some ((gm S 0).1, (gm S 0).2 + n))
def cntP (m : Int) (S : List Mp) : Nat := ((List.range (S.length - 1)).takeWhile fun n => plc1 m S (n + 1)).length + 1
theorem cntP_at {m : Int} {S : List Mp} {n : Nat} (h0 : 1 ≤ n) (hn : n ≤ S.length) (h1 : ∀ j, 1 ≤ j → j < n → plc1 m S j = true) (h2 : n < S.length → plc1 m S n = false) : cntP m S = n := by
  unfold cntP
  rw [takeWhile_at (n := n - 1) (by omega) (fun j hj => h1 (j + 1) (by omega) (by omega)) (fun h => by rw [show n - 1 + 1 = n by omega]; exact h2 (by omega))]
  omega
def runL (m : Int) : List Mp → List Tp
  | [] => []
  | x :: r => (x.1, x.2, (cntP m (x :: r) : Int)) :: runL m (r.drop (cntP m (x :: r) - 1))
termination_by S => S.length
decreasing_by simp; omega
theorem runL_nil (m : Int) : runL m [] = [] := by rw [runL]
theorem runL_cons (m : Int) (x : Mp) (r : List Mp) : runL m (x :: r) = (x.1, x.2, (cntP m (x :: r) : Int)) :: runL m ((x :: r).drop (cntP m (x :: r))) := by
  rw [runL]
  have : 1 ≤ cntP m (x :: r) := by unfold cntP; omega
  obtain ⟨k, hk⟩ : ∃ k, cntP m (x :: r) = k + 1 := ⟨cntP m (x :: r) - 1, by omega⟩
  rw [hk]; simp

/-- The dirty places of a file from i on. -/
def enF (P : Nat → Bool) (f i : Nat) : List Mp := ((List.range' i (16 - i)).filter P).map fun j : Nat => ((f : Int), (j : Int))
theorem enF_end {P : Nat → Bool} {f i : Nat} (h : 16 ≤ i) : enF P f i = [] := by
  unfold enF
  rw [show 16 - i = 0 by omega]; rfl
theorem enF_no {P : Nat → Bool} {f i : Nat} (h : ¬ 16 ≤ i) (hp : P i = false) : enF P f i = enF P f (i + 1) := by
  unfold enF
  rw [show 16 - i = (16 - (i + 1)) + 1 by omega, List.range'_succ, List.filter_cons_of_neg (by rw [hp]; simp)]
theorem enF_yes {P : Nat → Bool} {f i : Nat} (h : ¬ 16 ≤ i) (hp : P i = true) : enF P f i = ((f : Int), (i : Int)) :: enF P f (i + 1) := by
  unfold enF
  rw [show 16 - i = (16 - (i + 1)) + 1 by omega, List.range'_succ, List.filter_cons_of_pos hp]
  rfl
theorem enF_mem {P : Nat → Bool} {f i : Nat} {p : Mp} : p ∈ enF P f i ↔ ∃ j, i ≤ j ∧ j < 16 ∧ P j = true ∧ p = ((f : Int), (j : Int)) := by
  unfold enF
  simp only [List.mem_map, List.mem_filter, List.mem_range'_1]
  constructor
  · rintro ⟨j, ⟨⟨h1, h2⟩, h3⟩, rfl⟩
    exact ⟨j, h1, by omega, h3, rfl⟩
  · rintro ⟨j, h1, h2, h3, rfl⟩
    exact ⟨j, ⟨⟨h1, by omega⟩, h3⟩, rfl⟩
/-- All from i on as long as they are dirty. -/
theorem enF_row {P : Nat → Bool} {f : Nat} : ∀ {n i : Nat}, i + n ≤ 16 → (∀ j, j < n → P (i + j) = true) → enF P f i = (List.range n).map (fun j : Nat => ((f : Int), ((i + j : Nat) : Int))) ++ enF P f (i + n)
  | 0, i, _, _ => by simp
  | n + 1, i, h, hp => by
    rw [enF_yes (by omega) (by simpa using hp 0 (by omega)), enF_row (n := n) (i := i + 1) (by omega) (fun j hj => by have := hp (j + 1) (by omega); rwa [show i + 1 + j = i + (j + 1) by omega]), List.range_succ_eq_map]
    simp only [List.map_cons, List.map_map, List.cons_append, Nat.add_zero, List.cons.injEq, true_and]
    rw [show i + 1 + n = i + (n + 1) by omega]
    congr 1
    refine List.map_congr_left fun j _ => ?_
    simp only [Function.comp_apply, Prod.mk.injEq, true_and]
    omega
theorem enF_head {P : Nat → Bool} {f i : Nat} {R : List Mp} (hR : ∀ p ∈ R, (f : Int) < p.1) (hp : ¬ (i < 16 ∧ P i = true)) : (enF P f i ++ R)[0]? ≠ some ((f : Int), (i : Int)) := fun h => by
  have hm := List.mem_of_getElem? h
  rcases List.mem_append.1 hm with hm | hm
  · obtain ⟨j, h1, h2, h3, e⟩ := enF_mem.1 hm
    simp only [Prod.mk.injEq] at e
    obtain rfl : i = j := by omega
    exact hp ⟨h2, h3⟩
  · have := hR _ hm
    simp only at this
    omega
theorem runL_scan {P : Nat → Bool} {m : Int} (hm : 1 ≤ m) {f : Nat} {R : List Mp} (hR : ∀ p ∈ R, (f : Int) < p.1) : ∀ (k i : Nat), 16 - i ≤ k → runL m (enF P f i ++ R) = fil f (scan P m i) ++ runL m R := by
  intro k
  induction k with
  | zero => intro i h; rw [enF_end (by omega), scan_end (by omega)]; simp [fil]
  | succ k ih =>
    intro i h
    by_cases h16 : 16 ≤ i
    · rw [enF_end h16, scan_end h16]; simp [fil]
    · obtain ⟨r1, r2, r3⟩ := rl_spec P m i
      cases hp : P i with
      | false =>
        have h0 : rl P m i = 0 := by
          rcases Nat.eq_zero_or_pos (rl P m i) with e | e
          · exact e
          · have := (r2 0 e).2
            rw [Nat.add_zero, hp] at this
            simp at this
        rw [enF_no h16 hp, scan_skip h16 h0]
        exact ih (i + 1) (by omega)
      | true =>
        have h0 : 1 ≤ rl P m i := by
          rcases Nat.eq_zero_or_pos (rl P m i) with e | e
          · rw [e] at r3
            exact absurd ⟨by omega, by simpa using hp⟩ (r3 (by omega))
          · exact e
        obtain ⟨n, hn⟩ : ∃ n, n = rl P m i := ⟨_, rfl⟩
        rw [← hn] at r1 r2 r3 h0
        have hrow := enF_row (P := P) (f := f) (n := n) (i := i) (by omega) fun j hj => (r2 j hj).2
        obtain ⟨S, hS⟩ : ∃ S, S = enF P f i ++ R := ⟨_, rfl⟩
        have hSr : S = (List.range n).map (fun j : Nat => ((f : Int), ((i + j : Nat) : Int))) ++ (enF P f (i + n) ++ R) := by rw [hS, hrow, List.append_assoc]
        have hS0 : S = ((f : Int), (i : Int)) :: (enF P f (i + 1) ++ R) := by rw [hS, enF_yes h16 hp]; rfl
        have hg0 : gm S 0 = ((f : Int), (i : Int)) := by rw [hS0]; rfl
        have hlt : ∀ j, j < n → S[j]? = some ((f : Int), ((i + j : Nat) : Int)) := fun j hj => by
          rw [hSr, List.getElem?_append_left (by simpa using hj), List.getElem?_map, List.getElem?_range hj]; rfl
        have hcn : cntP m S = n := by
          refine cntP_at h0 ?_ (fun j h1 h2 => ?_) (fun hl => ?_)
          · rw [hSr]; simp
          · unfold plc1
            rw [hg0, hlt j h2]
            simp [(r2 j h2).1]
          · unfold plc1
            rw [hg0]
            have hn0 : S[n]? = (enF P f (i + n) ++ R)[0]? := by rw [hSr, List.getElem?_append_right (by simp)]; simp
            rw [hn0]
            by_cases hmn : (n : Int) < m
            · have hq : ¬ (i + n < 16 ∧ P (i + n) = true) := fun hh => r3 (by omega) ⟨hmn, hh.2⟩
              have := enF_head (i := i + n) hR hq
              simp only [Bool.and_eq_false_iff, decide_eq_false_iff_not]
              right
              simpa using this
            · simp [hmn]
        rw [scan_run h16 (by omega), ← hn, ← hS]
        have hd : S.drop n = enF P f (i + n) ++ R := by rw [hSr, List.drop_left' (by simp)]
        have hrl := runL_cons m ((f : Int), (i : Int)) (enF P f (i + 1) ++ R)
        rw [← hS0, hcn, hd] at hrl
        rw [hrl, ih (i + n) (by omega)]
        rfl
def enA (Q : Nat → Nat → Bool) : Nat → Nat → List Mp
  | _, 0 => []
  | f, k + 1 => enF (Q f) f 0 ++ enA Q (f + 1) k
theorem enA_mem {Q : Nat → Nat → Bool} {p : Mp} : ∀ {k f : Nat}, p ∈ enA Q f k ↔ ∃ g j : Nat, f ≤ g ∧ g < f + k ∧ j < 16 ∧ Q g j = true ∧ p = ((g : Int), (j : Int))
  | 0, f => by
    simp only [enA, List.not_mem_nil, false_iff]
    rintro ⟨g, j, h1, h2, _⟩
    omega
  | k + 1, f => by
    simp only [enA, List.mem_append, enF_mem, enA_mem (k := k)]
    constructor
    · rintro (⟨j, _, h2, h3, rfl⟩ | ⟨g, j, h1, h2, h3, h4, rfl⟩)
      · exact ⟨f, j, Nat.le_refl _, by omega, h2, h3, rfl⟩
      · exact ⟨g, j, by omega, by omega, h3, h4, rfl⟩
    · rintro ⟨g, j, h1, h2, h3, h4, rfl⟩
      rcases Nat.eq_or_lt_of_le h1 with rfl | h
      · exact .inl ⟨j, by omega, h3, h4, rfl⟩
      · exact .inr ⟨g, j, by omega, by omega, h3, h4, rfl⟩
theorem enF_sorted (P : Nat → Bool) (f i : Nat) : (enF P f i).Pairwise ltP := by
  unfold enF
  rw [List.pairwise_map]
  have : ((List.range' i (16 - i)).filter P).Pairwise (· < ·) := List.Pairwise.filter _ (List.pairwise_lt_range' (s := i) (n := 16 - i))
  refine this.imp fun {a b} h => ?_
  unfold ltP
  simp only
  right
  exact ⟨trivial, by omega⟩
theorem enA_sorted (Q : Nat → Nat → Bool) : ∀ (k f : Nat), (enA Q f k).Pairwise ltP
  | 0, f => by simp [enA]
  | k + 1, f => by
    simp only [enA]
    rw [List.pairwise_append]
    refine ⟨enF_sorted _ _ _, enA_sorted Q k (f + 1), fun a ha b hb => ?_⟩
    obtain ⟨j, _, _, _, rfl⟩ := enF_mem.1 ha
    obtain ⟨g, j', h1, _, _, _, rfl⟩ := enA_mem.1 hb
    unfold ltP
    simp only
    omega
theorem runL_all {Q : Nat → Nat → Bool} {m : Int} (hm : 1 ≤ m) : ∀ (k f : Nat), runL m (enA Q f k) = (List.range' f k).flatMap fun g => fil g (scan (Q g) m 0)
  | 0, f => by simp [enA, runL_nil]
  | k + 1, f => by
    simp only [enA]
    rw [runL_scan hm (fun p hp => by obtain ⟨g, j, h1, _, _, _, rfl⟩ := enA_mem.1 hp; simp only; omega) 16 0 (by omega), runL_all hm k (f + 1), List.range'_succ]
    simp
theorem mem_ext_sorted {a b : List Mp} (ha : a.Pairwise ltP) (hb : b.Pairwise ltP) (h : ∀ x, x ∈ a ↔ x ∈ b) : a = b := by
  refine stoP.uniq ?_ (stoP.lt_le ha) (stoP.lt_le hb)
  exact (List.perm_ext_iff_of_nodup (stoP.lt_nodup ha) (stoP.lt_nodup hb)).2 h
/-- The runs of the places in order are those that are found file by file. -/
theorem runL_sort {l : List Tp} (h : chkD l = 0) {m : Int} (hm : 1 ≤ m) : runL m (sortG ltP (l.map plc)) = runF (hasN l) m 4 := by
  obtain ⟨hv, hn⟩ := chk_zero.1 h
  have e : sortG ltP (l.map plc) = enA (hasN l) 0 4 := by
    refine mem_ext_sorted (stoP.le_lt (stoP.sort_sorted _) ((sortG_perm _).nodup_iff.2 hn)) (enA_sorted _ _ _) fun x => ?_
    rw [(sortG_perm _).mem_iff, enA_mem]
    constructor
    · intro hx
      obtain ⟨q, hq, rfl⟩ := List.mem_map.1 hx
      obtain ⟨j, hj, rfl⟩ := List.getElem_of_mem hq
      have hp := (hv j hj).1
      rw [gd_eq hj] at hp
      unfold pgN at hp
      refine ⟨(plc l[j]).1.toNat, (plc l[j]).2.toNat, by omega, ?_, ?_, ?_, ?_⟩
      · simp only [plc]; omega
      · simp only [plc]; omega
      · unfold hasN hasP
        have : ((((plc l[j]).1.toNat : Nat) : Int), (((plc l[j]).2.toNat : Nat) : Int)) = plc l[j] := by
          simp only [plc, Prod.mk.injEq]; omega
        rw [this]
        simpa using hx
      · simp only [plc, Prod.mk.injEq]; omega
    · rintro ⟨g, j, _, _, _, h4, rfl⟩
      unfold hasN hasP at h4
      simpa using h4
  rw [e, runL_all hm]
  rfl
end Go.AM
