/- Writeback in plain words: what the runs are; writing them one after the other leaves nothing. -/
import Derived.Test.YtfmdbbpeeppiiaaWb20
set_option linter.all false

namespace Go.AM
open Go

structure ScanOK (P : Nat → Bool) (m : Int) (i : Nat) (S : List (Nat × Nat)) : Prop where
  pw : S.Pairwise fun x y => x.1 + x.2 ≤ y.1
  each : ∀ x ∈ S, i ≤ x.1 ∧ 1 ≤ x.2 ∧ x.1 + x.2 ≤ 16 ∧ (x.2 : Int) ≤ m ∧ (∀ j, j < x.2 → P (x.1 + j) = true) ∧ ((x.2 : Int) = m ∨ ¬ (x.1 + x.2 < 16 ∧ P (x.1 + x.2) = true))
  all : ∀ k, i ≤ k → k < 16 → P k = true → ∃ x ∈ S, x.1 ≤ k ∧ k < x.1 + x.2
theorem scan_ok {P : Nat → Bool} {m : Int} (hm : 1 ≤ m) : ∀ (k i : Nat), 16 - i ≤ k → ScanOK P m i (scan P m i) := by
  intro k
  induction k with
  | zero =>
    intro i h
    rw [scan_end (by omega)]
    exact ⟨List.Pairwise.nil, fun x hx => by simp at hx, fun k h1 h2 => by omega⟩
  | succ k ih =>
    intro i h
    by_cases h16 : 16 ≤ i
    · rw [scan_end h16]
      exact ⟨List.Pairwise.nil, fun x hx => by simp at hx, fun k h1 h2 => by omega⟩
    · obtain ⟨r1, r2, r3⟩ := rl_spec P m i
      by_cases h0 : rl P m i = 0
      · rw [scan_skip h16 h0]
        have hI := ih (i + 1) (by omega)
        refine ⟨hI.pw, fun x hx => ?_, fun k h1 h2 h3 => ?_⟩
        · obtain ⟨e1, e2⟩ := hI.each x hx
          exact ⟨by omega, e2⟩
        · rcases Nat.eq_or_lt_of_le h1 with rfl | h4
          · rw [h0] at r3
            exact absurd ⟨by omega, by simpa using h3⟩ (r3 (by omega))
          · exact hI.all k h4 h2 h3
      · rw [scan_run h16 h0]
        obtain ⟨n, hn⟩ : ∃ n, n = rl P m i := ⟨_, rfl⟩
        rw [← hn] at r1 r2 r3 h0 ⊢
        have hI := ih (i + n) (by omega)
        refine ⟨List.pairwise_cons.2 ⟨fun y hy => (hI.each y hy).1, hI.pw⟩, fun x hx => ?_, fun k h1 h2 h3 => ?_⟩
        · rcases List.mem_cons.1 hx with rfl | hx
          · have hnm := (r2 (n - 1) (by omega)).1
            refine ⟨Nat.le_refl _, by omega, by simp only; omega, by simp only; omega, fun j hj => (r2 j hj).2, ?_⟩
            simp only
            by_cases e : (n : Int) = m
            · exact .inl e
            · exact .inr fun ⟨q1, q2⟩ => r3 (by omega) ⟨by omega, q2⟩
          · obtain ⟨e1, e2⟩ := hI.each x hx
            exact ⟨by omega, e2⟩
        · by_cases hk : k < i + n
          · exact ⟨(i, n), by simp, h1, hk⟩
          · obtain ⟨x, hx, e⟩ := hI.all k (by omega) h2 h3
            exact ⟨x, by simp [hx], e⟩

def befR (r s : Tp) : Prop := r.1 < s.1 ∨ r.1 = s.1 ∧ r.2.1 + r.2.2 ≤ s.2.1
def runK (l : List Tp) (m : Int) (r : Tp) : Prop := wrnN r ∧ r.2.2 ≤ m ∧ allR l r ∧ (r.2.2 = m ∨ hasP l r.1 (r.2.1 + r.2.2) = false)
theorem mem_fil {f : Nat} {S : List (Nat × Nat)} {r : Tp} : r ∈ fil f S ↔ ∃ x ∈ S, r = ((f : Int), (x.1 : Int), (x.2 : Int)) := by
  unfold fil
  simp only [List.mem_map]
  constructor
  · rintro ⟨x, h1, rfl⟩; exact ⟨x, h1, rfl⟩
  · rintro ⟨x, h1, rfl⟩; exact ⟨x, h1, rfl⟩
theorem hasP_val {l : List Tp} (h : chkD l = 0) {f i : Int} (hp : hasP l f i = true) : pgN f i := by
  unfold hasP at hp
  simp only [decide_eq_true_eq] at hp
  obtain ⟨q, hq, e⟩ := List.mem_map.1 hp
  have := (mem_chkV.1 (chk_zero.1 h).1 q hq).1
  simp only [plc, Prod.mk.injEq] at e
  obtain ⟨rfl, rfl⟩ := e
  exact this
theorem runF_mem {l : List Tp} {m : Int} {r : Tp} {n : Nat} : r ∈ runF (hasN l) m n ↔ ∃ f, f < n ∧ ∃ x ∈ scan (hasN l f) m 0, r = ((f : Int), (x.1 : Int), (x.2 : Int)) := by
  unfold runF
  simp only [List.mem_flatMap, List.mem_range, mem_fil]
theorem runF_each {l : List Tp} (h : chkD l = 0) {m : Int} (hm : 1 ≤ m) : ∀ r ∈ runF (hasN l) m 4, runK l m r := by
  intro r hr
  obtain ⟨f, hf, x, hx, rfl⟩ := runF_mem.1 hr
  obtain ⟨_, e2, e3, e4, e5, e6⟩ := (scan_ok hm 16 0 (by omega)).each x hx
  refine ⟨⟨⟨by simp only; omega, by simp only; omega⟩, by simp only; omega, by simp only; omega⟩, e4, fun k hk => ?_, ?_⟩
  · have := e5 k (by simp only at hk; omega)
    unfold hasN at this
    simpa using this
  · simp only
    rcases e6 with e6 | e6
    · exact .inl e6
    · right
      by_cases h16 : x.1 + x.2 < 16
      · have := fun q => e6 ⟨h16, q⟩
        unfold hasN at this
        simpa using this
      · rw [Bool.eq_false_iff]
        intro hp
        have := hasP_val h hp
        unfold pgN at this
        omega
theorem runF_pw {l : List Tp} {m : Int} (hm : 1 ≤ m) : ∀ n, (runF (hasN l) m n).Pairwise befR
  | 0 => by simp [runF]
  | n + 1 => by
    rw [runF_succ, List.pairwise_append]
    refine ⟨runF_pw hm n, ?_, fun a ha b hb => ?_⟩
    · unfold fil
      rw [List.pairwise_map]
      refine (scan_ok (P := hasN l n) hm 16 0 (by omega)).pw.imp fun {a b} h => .inr ⟨rfl, ?_⟩
      simp only
      omega
    · obtain ⟨f, hf, x, _, rfl⟩ := runF_mem.1 ha
      obtain ⟨y, _, rfl⟩ := mem_fil.1 hb
      left
      simp only
      omega
theorem runF_all {l : List Tp} (h : chkD l = 0) {m : Int} (hm : 1 ≤ m) : ∀ p ∈ l, ∃ r ∈ runF (hasN l) m 4, inR r p = true := by
  intro p hp
  have hv := (mem_chkV.1 (chk_zero.1 h).1 p hp).1
  obtain ⟨⟨f1, f2⟩, i1, i2⟩ := hv
  have hq : hasN l p.1.toNat p.2.1.toNat = true := by
    unfold hasN hasP
    rw [show ((p.1.toNat : Nat) : Int) = p.1 by omega, show ((p.2.1.toNat : Nat) : Int) = p.2.1 by omega]
    simp only [decide_eq_true_eq]
    exact List.mem_map.2 ⟨p, hp, rfl⟩
  obtain ⟨x, hx, e1, e2⟩ := (scan_ok (P := hasN l p.1.toNat) hm 16 0 (by omega)).all p.2.1.toNat (by omega) (by omega) hq
  refine ⟨_, runF_mem.2 ⟨p.1.toNat, by omega, x, hx, rfl⟩, inR_iff.2 ⟨by simp only; omega, by simp only; omega, by simp only; omega⟩⟩

/-! Writing them one after the other -/
def disR (r s : Tp) : Prop := ∀ p, ¬ (inR r p = true ∧ inR s p = true)
theorem befR_dis {r s : Tp} (h : befR r s) : disR r s ∧ disR s r := by
  have key : ∀ p, ¬ (inR r p = true ∧ inR s p = true) := fun p ⟨h1, h2⟩ => by
    have k1 := inR_iff.1 h1
    have k2 := inR_iff.1 h2
    unfold befR at h
    omega
  exact ⟨key, fun p ⟨h1, h2⟩ => key p ⟨h2, h1⟩⟩
def outR (D : List Tp) (p : Tp) : Bool := D.all fun r => !inR r p
theorem outR_iff {D : List Tp} {p : Tp} : outR D p = true ↔ ∀ r ∈ D, inR r p = false := by
  unfold outR; simp
theorem outR_snoc (D : List Tp) (r p : Tp) : outR (D ++ [r]) p = (outR D p && !inR r p) := by
  unfold outR; simp
theorem filter_drop {l : List Tp} {D : List Tp} {r : Tp} : dropK (.inr r) (l.filter (outR D)) = l.filter (outR (D ++ [r])) := by
  unfold dropK fkB
  rw [List.filter_filter]
  refine List.filter_congr fun p _ => ?_
  rw [outR_snoc, Bool.and_comm]
theorem filter_chk {l : List Tp} (h : chkD l = 0) (q : Tp → Bool) : chkD (l.filter q) = 0 :=
  chk_sub h (fun p hp => (List.mem_filter.1 hp).1) (((List.filter_sublist (p := q) (l := l)).map plc).nodup (chk_zero.1 h).2)
theorem ends_step {l D : List Tp} {r : Tp} {m : Int} (h : chkD l = 0) (hr : runK l m r) (hd : ∀ s ∈ D, disR s r) :
    wrtR (l.filter (outR D)) r = (l.filter (outR (D ++ [r])), 0) ∧ (l.filter (outR (D ++ [r]))).length < (l.filter (outR D)).length := by
  obtain ⟨h1, _, h3, _⟩ := hr
  have ha : allR (l.filter (outR D)) r := fun k hk => by
    have := h3 k hk
    unfold hasP at this ⊢
    simp only [decide_eq_true_eq] at this ⊢
    obtain ⟨p, hp, e⟩ := List.mem_map.1 this
    refine List.mem_map.2 ⟨p, List.mem_filter.2 ⟨hp, outR_iff.2 fun s hs => ?_⟩, e⟩
    rw [Bool.eq_false_iff]
    intro hh
    simp only [plc, Prod.mk.injEq] at e
    exact hd s hs p ⟨hh, inR_iff.2 ⟨by omega, by omega, by omega⟩⟩
  rw [wrtR_z (filter_chk h _) h1 ha, filter_drop]
  refine ⟨rfl, ?_⟩
  have h0 := ha 0 (by have := h1.2.1; omega)
  unfold hasP at h0
  simp only [decide_eq_true_eq] at h0
  obtain ⟨p, hp, e⟩ := List.mem_map.1 h0
  simp only [plc, Prod.mk.injEq] at e
  have hb := filter_both (inR r) (l.filter (outR D))
  have hpos : 0 < ((l.filter (outR D)).filter (inR r)).length := List.length_pos_of_mem (List.mem_filter.2 ⟨hp, inR_iff.2 ⟨by omega, by omega, by have := h1.2.1; omega⟩⟩)
  rw [← filter_drop]
  have hd : (dropK (.inr r) (l.filter (outR D))).length = ((l.filter (outR D)).filter fun x => !inR r x).length := rfl
  omega
theorem ends_all {l D : List Tp} (h : ∀ p ∈ l, ∃ r ∈ D, inR r p = true) : l.filter (outR D) = [] := by
  rw [List.filter_eq_nil_iff]
  intro p hp
  obtain ⟨r, hr, e⟩ := h p hp
  intro hh
  rw [outR_iff.1 hh r hr] at e
  simp at e
theorem out_nil (l : List Tp) : l.filter (outR []) = l := by
  rw [List.filter_eq_self]
  intro p _
  rfl
/-- A list of runs that may be written in its order. -/
structure RunsOK (l : List Tp) (m : Int) (K : List Tp) : Prop where
  each : ∀ r ∈ K, runK l m r
  dis : K.Pairwise disR
  all : ∀ p ∈ l, ∃ r ∈ K, inR r p = true
theorem runs_ok {l : List Tp} (h : chkD l = 0) {m : Int} (hm : 1 ≤ m) : RunsOK l m (runF (hasN l) m 4) :=
  ⟨runF_each h hm, (runF_pw hm 4).imp fun h => (befR_dis h).1, runF_all h hm⟩
theorem runs_rev {l : List Tp} (h : chkD l = 0) {m : Int} (hm : 1 ≤ m) : RunsOK l m (runF (hasN l) m 4).reverse :=
  ⟨fun r hr => runF_each h hm r (List.mem_reverse.1 hr), List.pairwise_reverse.2 ((runF_pw hm 4).imp fun h => (befR_dis h).2), fun p hp => by
    obtain ⟨r, hr, e⟩ := runF_all h hm p hp
    exact ⟨r, List.mem_reverse.2 hr, e⟩⟩
theorem RunsOK.step {l : List Tp} {m : Int} {K : List Tp} (hK : RunsOK l m K) (h : chkD l = 0) {i : Nat} (hi : i < K.length) :
    wrtR (l.filter (outR (K.take i))) (gd K i) = (l.filter (outR (K.take (i + 1))), 0) ∧ (l.filter (outR (K.take (i + 1)))).length < (l.filter (outR (K.take i))).length := by
  rw [take_succ_gd hi]
  refine ends_step h (hK.each _ (gd_mem hi)) fun s hs => ?_
  obtain ⟨j, hj, rfl⟩ := List.getElem_of_mem hs
  have hj' : j < i := by simp at hj; omega
  rw [List.getElem_take, gd_eq hi]
  exact List.pairwise_iff_getElem.1 hK.dis j i (by omega) hi hj'
end Go.AM
