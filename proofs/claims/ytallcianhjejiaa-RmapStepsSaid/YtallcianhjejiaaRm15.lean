/- Rmap: a script of additions and removals, in plain words. -/
import Derived.Test.YtallcianhjejiaaRm14
set_option linter.all false

namespace Go.AM
open Go Go.Proofs

/-- Was a mapping added, and not removed since? -/
def inS (b : Bool) (m : Mp) (o : Ops) : Bool := if o.2 = m then !o.1 else b
def inL (os : List Ops) (m : Mp) : Bool := os.foldl (fun b o => inS b m o) false
theorem inL_snoc (os : List Ops) (o : Ops) (m : Mp) : inL (os ++ [o]) m = inS (inL os m) m o := by unfold inL; rw [List.foldl_append]; rfl

theorem delM_mem {l : List Mp} {m y : Mp} : y ∈ delM l m ↔ y ∈ l ∧ y ≠ m := by
  unfold delM; simp
theorem chk_ins {l : List Mp} {m : Mp} (h : chk l = 0) (hv : valM m) (hm : m ∉ l) : chk (insR l m) = 0 := by
  obtain ⟨h1, h2⟩ := chk_zero.1 h
  have hpw := chkO_pw.1 h2
  refine chk_z (chkV_mem.2 fun y hy => ?_) (chkO_pw.2 (le_lt (insR_sorted m (lt_le hpw)) ?_))
  · rcases insR_mem.1 hy with rfl | hy
    · exact hv
    · exact chkV_mem.1 h1 y hy
  · exact (insR_perm m l).nodup_iff.2 (List.nodup_cons.2 ⟨hm, lt_nodup hpw⟩)
theorem chk_del {l : List Mp} (m : Mp) (h : chk l = 0) : chk (delM l m) = 0 := by
  obtain ⟨h1, h2⟩ := chk_zero.1 h
  refine chk_z (chkV_mem.2 fun y hy => chkV_mem.1 h1 y (delM_mem.1 hy).1) (chkO_pw.2 ((chkO_pw.1 h2).sublist List.filter_sublist))
theorem chk_nil : chk [] = 0 := chk_z (fun i h => by simp at h) fun i h => by simp at h

/-- What the list holds along a script. -/
structure SetI (os : List Ops) (l : List Mp) : Prop where
  ok : chk l = 0
  mem : ∀ m, m ∈ l ↔ valM m ∧ inL os m = true
theorem set_opR {os : List Ops} {l : List Mp} (h : SetI os l) (o : Ops) : ((opR l o).2 = 0 ↔ valM o.2 ∧ inL os o.2 = o.1) := by
  obtain ⟨r, m⟩ := o
  have hm := h.mem m
  unfold opR
  cases r with
  | true =>
    simp only [if_true]
    unfold remR
    rw [if_pos h.ok]
    by_cases e : m ∈ l
    · rw [if_pos e]
      simp only [true_iff]
      exact hm.1 e
    · rw [if_neg e]
      simp only [show ¬ ((6 : Int) = 0) by decide, false_iff]
      exact fun h2 => e (hm.2 h2)
  | false =>
    simp only [Bool.false_eq_true, if_false]
    unfold addR
    rw [if_pos h.ok]
    by_cases hv : valM m
    · rw [if_pos hv]
      by_cases e : m ∈ l
      · rw [if_pos e]
        simp only [show ¬ ((7 : Int) = 0) by decide, false_iff]
        intro h2
        have := (hm.1 e).2
        rw [this] at h2
        simp at h2
      · rw [if_neg e]
        simp only [true_iff]
        refine ⟨hv, ?_⟩
        cases h3 : inL os m with
        | false => rfl
        | true => exact absurd (hm.2 ⟨hv, h3⟩) e
    · rw [if_neg hv]
      simp only [show ¬ ((2 : Int) = 0) by decide, false_iff]
      exact fun h2 => hv h2.1
theorem set_step {os : List Ops} {l : List Mp} (h : SetI os l) (o : Ops) : SetI (os ++ [o]) (stp l o) := by
  have hz := set_opR h o
  obtain ⟨r, m⟩ := o
  have hm := h.mem m
  unfold stp
  by_cases e : (opR l (r, m)).2 = 0
  · rw [if_pos e]
    obtain ⟨hv, hi⟩ := hz.1 e
    simp only at hv hi
    unfold opR
    cases r with
    | true =>
      have hml : m ∈ l := hm.2 ⟨hv, hi⟩
      simp only [if_true]
      unfold remR
      rw [if_pos h.ok, if_pos hml]
      refine ⟨chk_del m h.ok, fun y => ?_⟩
      rw [delM_mem, inL_snoc]
      unfold inS
      simp only
      by_cases ey : m = y
      · subst ey; simp
      · rw [if_neg ey, h.mem y]
        have : y ≠ m := fun h => ey h.symm
        simp [this]
    | false =>
      have hml : m ∉ l := fun h2 => by have := (hm.1 h2).2; rw [hi] at this; simp at this
      simp only [Bool.false_eq_true, if_false]
      unfold addR
      rw [if_pos h.ok, if_pos hv, if_neg hml]
      refine ⟨chk_ins h.ok hv hml, fun y => ?_⟩
      show y ∈ insR l m ↔ _
      rw [insR_mem, inL_snoc]
      unfold inS
      simp only
      by_cases ey : m = y
      · subst ey; simp [hv]
      · rw [if_neg ey, h.mem y]
        have : y ≠ m := fun h => ey h.symm
        simp [this]
  · rw [if_neg e]
    refine ⟨h.ok, fun y => ?_⟩
    rw [inL_snoc]
    unfold inS
    simp only
    by_cases ey : m = y
    · subst ey
      rw [if_pos rfl, hm]
      constructor
      · rintro ⟨hv, hi⟩
        refine ⟨hv, ?_⟩
        cases r with
        | true => exact absurd (hz.2 ⟨hv, hi⟩) e
        | false => rfl
      · rintro ⟨hv, hr⟩
        refine ⟨hv, ?_⟩
        cases hi : inL os m with
        | true => rfl
        | false =>
          cases r with
          | true => simp at hr
          | false => exact absurd (hz.2 ⟨hv, hi⟩) e
    · rw [if_neg ey, h.mem y]
theorem set_run (os : List Ops) : ∀ i, SetI (os.take i) (stps [] (os.take i))
  | 0 => ⟨chk_nil, fun m => by simp [stps, inL]⟩
  | i + 1 => by
    have ih := set_run os i
    by_cases h : i < os.length
    · rw [take_succ_go h, stps_snoc]
      exact set_step ih _
    · rw [List.take_of_length_le (by omega)] at ih ⊢
      exact ih

/-- The mappings that were added when they were not there. -/
def allS (os : List Ops) (a : List Mp) (o : Ops) : List Mp := if o.1 = false ∧ valM o.2 ∧ inL os o.2 = false then a ++ [o.2] else a
def allA (os : List Ops) : Nat → List Mp
  | 0 => []
  | i + 1 => allS (os.take i) (allA os i) (go os i)
theorem allA_len (os : List Ops) : ∀ i, (allA os i).length ≤ i
  | 0 => by simp [allA]
  | i + 1 => by
    have := allA_len os i
    simp only [allA, allS]
    split <;> simp <;> omega
theorem allA_val (os : List Ops) : ∀ i, ∀ m ∈ allA os i, valM m
  | 0, m, h => by simp [allA] at h
  | i + 1, m, h => by
    simp only [allA, allS] at h
    split at h
    · rename_i hc
      rcases List.mem_append.1 h with h | h
      · exact allA_val os i m h
      · rw [List.mem_singleton] at h; rw [h]; exact hc.2.1
    · exact allA_val os i m h
theorem allA_mem (os : List Ops) {m : Mp} (hv : valM m) : ∀ i, i ≤ os.length → inL (os.take i) m = true → m ∈ allA os i
  | 0, _, h => by simp [inL] at h
  | i + 1, hi, h => by
    rw [take_succ_go (by omega), inL_snoc] at h
    unfold inS at h
    simp only [allA, allS]
    by_cases e : (go os i).2 = m
    · rw [if_pos e] at h
      have hr : (go os i).1 = false := by simpa using h
      cases hin : inL (os.take i) m with
      | true =>
        have := allA_mem os hv i (by omega) hin
        split
        · exact List.mem_append_left _ this
        · exact this
      | false =>
        rw [if_pos ⟨hr, by rw [e]; exact hv, by rw [e]; exact hin⟩, e]
        simp
    · rw [if_neg e] at h
      have := allA_mem os hv i (by omega) h
      split
      · exact List.mem_append_left _ this
      · exact this

/-- Each once, at its last place. -/
def ddM : List Mp → List Mp
  | [] => []
  | x :: r => if x ∈ r then ddM r else x :: ddM r
theorem ddM_mem {y : Mp} : ∀ {l : List Mp}, y ∈ ddM l ↔ y ∈ l
  | [] => by simp [ddM]
  | x :: r => by
    have ih := ddM_mem (y := y) (l := r)
    simp only [ddM]
    split
    · rename_i h
      rw [ih, List.mem_cons]
      constructor
      · exact .inr
      · rintro (rfl | h2)
        · exact h
        · exact h2
    · rw [List.mem_cons, List.mem_cons, ih]
theorem ddM_nodup : ∀ l : List Mp, (ddM l).Nodup
  | [] => by simp [ddM]
  | x :: r => by
    simp only [ddM]
    split
    · exact ddM_nodup r
    · rename_i h
      exact List.nodup_cons.2 ⟨fun hm => h (ddM_mem.1 hm), ddM_nodup r⟩
def lastN (l : List Mp) (P : Mp → Bool) : Nat → Nat
  | 0 => 0
  | i + 1 => lastN l P i + if gm l i ∉ l.drop (i + 1) ∧ P (gm l i) = true then 1 else 0
theorem lastN_le (l : List Mp) (P : Mp → Bool) : ∀ i, lastN l P i ≤ i
  | 0 => Nat.le_refl _
  | i + 1 => by
    have := lastN_le l P i
    simp only [lastN]
    split <;> omega
theorem lastN_dd (l : List Mp) (P : Mp → Bool) : ∀ i, i ≤ l.length → lastN l P i + ((ddM (l.drop i)).filter P).length = ((ddM l).filter P).length
  | 0, _ => by simp [lastN]
  | i + 1, h => by
    have ih := lastN_dd l P i (by omega)
    rw [drop_gm (by omega)] at ih
    simp only [ddM] at ih
    simp only [lastN]
    by_cases h1 : gm l i ∈ l.drop (i + 1)
    · rw [if_pos h1] at ih
      rw [if_neg (fun h2 => h2.1 h1)]
      omega
    · rw [if_neg h1, List.filter_cons] at ih
      by_cases h2 : P (gm l i) = true
      · rw [if_pos h2, List.length_cons] at ih
        rw [if_pos ⟨h1, h2⟩]
        omega
      · rw [if_neg h2] at ih
        rw [if_neg (fun h3 => h2 h3.2)]
        omega
theorem set_count (os : List Ops) : lastN (allA os os.length) (inL os) (allA os os.length).length = (stps [] os).length := by
  have h := lastN_dd (allA os os.length) (inL os) _ (Nat.le_refl _)
  rw [List.drop_eq_nil_of_le (Nat.le_refl _)] at h
  simp only [ddM, List.filter_nil, List.length_nil, Nat.add_zero] at h
  rw [h]
  have hs := set_run os os.length
  rw [List.take_length] at hs
  refine List.Perm.length_eq ?_
  rw [List.perm_ext_iff_of_nodup ((ddM_nodup _).sublist List.filter_sublist) (lt_nodup (chkO_pw.1 (chk_zero.1 hs.ok).2))]
  intro m
  rw [List.mem_filter, ddM_mem, hs.mem]
  constructor
  · rintro ⟨h1, h2⟩
    exact ⟨allA_val os _ m h1, h2⟩
  · rintro ⟨h1, h2⟩
    refine ⟨allA_mem os h1 _ (Nat.le_refl _) (by rw [List.take_length]; exact h2), h2⟩
end Go.AM
