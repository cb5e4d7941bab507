/- Workingset: faults and different pages, in plain words. -/
import Derived.Test.YtpkbbmimfoakcaaWsB
set_option linter.all false

namespace Go.AM
open Go Go.Proofs

/-- How many different pages the first k references name. -/
def difn (l : List Int) : Nat → Nat
  | 0 => 0
  | k + 1 => difn l k + if gi l k ∈ l.take k then 0 else 1
theorem difn_le (l : List Int) : ∀ k, difn l k ≤ k
  | 0 => Nat.le_refl _
  | k + 1 => by
    have := difn_le l k
    simp only [difn]
    split <;> omega
theorem difn_mono (l : List Int) {j : Nat} : ∀ {k : Nat}, j ≤ k → difn l j ≤ difn l k
  | 0, h => by obtain rfl : j = 0 := by omega
               exact Nat.le_refl _
  | k + 1, h => by
    rcases Nat.eq_or_lt_of_le h with rfl | h
    · exact Nat.le_refl _
    · have := difn_mono l (k := k) (j := j) (by omega)
      simp only [difn]
      omega
theorem mem_take_succ {l : List Int} {k : Nat} (h : k < l.length) {y : Int} : y ∈ l.take (k + 1) ↔ y ∈ l.take k ∨ y = gi l k := by
  rw [take_succ_gi h, List.mem_append, List.mem_singleton]
theorem fl_app (l : List Int) (x : Int) : fl (l ++ [x]) = fl l + if x = -1 then 0 else 1 := by
  unfold fl
  rw [List.countP_append]
  by_cases e : x = -1 <;> simp [e]
theorem distL_ne {l : List Int} {p : Int} : distL l p ≠ -1 := by
  intro h
  by_cases hp : p ∈ l
  · have := (distL_rng hp).1; omega
  · have := distL_not.2 hp; omega

theorem fl_few (size : Int) (l : List Int) : ∀ k, k ≤ l.length → difn l k ≤ fl (rrun size l k).out ∧ ∀ y ∈ (rrun size l k).q, y ∈ l.take k
  | 0, _ => by simp [difn, rrun]
  | k + 1, hk => by
    obtain ⟨h1, h2⟩ := fl_few size l k (by omega)
    show difn l (k + 1) ≤ fl (rstep size (rrun size l k) (gi l k)).out ∧ ∀ y ∈ (rstep size (rrun size l k) (gi l k)).q, y ∈ l.take (k + 1)
    obtain ⟨s, hs⟩ : ∃ s, s = rrun size l k := ⟨_, rfl⟩
    rw [← hs] at h1 h2 ⊢
    have hm := fun y => mem_take_succ (l := l) (k := k) (y := y) (by omega)
    rw [rstep_out, fl_app]
    simp only [difn]
    constructor
    · by_cases hq : gi l k ∈ s.q
      · rw [if_pos hq, if_pos rfl, if_pos (h2 _ hq)]; exact h1
      · rw [if_neg hq, if_neg distL_ne]
        split <;> omega
    · intro y hy
      rw [hm]
      unfold rstep at hy
      split at hy
      · exact .inl (h2 y hy)
      · split at hy
        · simp only [List.mem_append, List.mem_singleton] at hy
          rcases hy with hy | rfl
          · exact .inl (h2 y (List.mem_of_mem_drop hy))
          · exact .inr rfl
        · simp only [List.mem_append, List.mem_singleton] at hy
          rcases hy with hy | rfl
          · exact .inl (h2 y hy)
          · exact .inr rfl
theorem fl_all {size : Int} (l : List Int) (hd : (difn l l.length : Int) ≤ size) : ∀ k, k ≤ l.length → fl (rrun size l k).out = difn l k ∧ (rrun size l k).q.length = difn l k ∧ (∀ y, y ∈ (rrun size l k).q ↔ y ∈ l.take k) ∧ (rrun size l k).gone = []
  | 0, _ => by simp [difn, rrun, fl]
  | k + 1, hk => by
    obtain ⟨h1, h2, h3, h4⟩ := fl_all l hd k (by omega)
    have hmo := difn_mono l (show k + 1 ≤ l.length from hk)
    show fl (rstep size (rrun size l k) (gi l k)).out = difn l (k + 1) ∧ (rstep size (rrun size l k) (gi l k)).q.length = difn l (k + 1) ∧ (∀ y, y ∈ (rstep size (rrun size l k) (gi l k)).q ↔ y ∈ l.take (k + 1)) ∧ (rstep size (rrun size l k) (gi l k)).gone = []
    obtain ⟨s, hs⟩ : ∃ s, s = rrun size l k := ⟨_, rfl⟩
    rw [← hs] at h1 h2 h3 h4 ⊢
    have hm := fun y => mem_take_succ (l := l) (k := k) (y := y) (by omega)
    simp only [difn] at hmo ⊢
    unfold rstep
    by_cases hq : gi l k ∈ s.q
    · rw [if_pos hq, if_pos ((h3 _).1 hq)]
      refine ⟨by rw [fl_app, if_pos rfl, h1], h2, fun y => ?_, h4⟩
      rw [hm, h3]
      constructor
      · exact .inl
      · rintro (h | rfl)
        · exact h
        · exact (h3 _).1 hq
    · have hq' : gi l k ∉ l.take k := fun h => hq ((h3 _).2 h)
      rw [if_neg hq'] at hmo
      rw [if_neg hq, if_neg hq', if_neg (by omega)]
      refine ⟨by rw [fl_app, if_neg distL_ne, h1], by simp [h2], fun y => ?_, h4⟩
      rw [hm, ← h3]
      simp
theorem fl_two {size b : Int} (l : List Int) (hd : (difn l l.length : Int) ≤ size) : ∀ k, k ≤ l.length → fl (lrun size b l k).out = difn l k ∧ (lrun size b l k).ina.length + (lrun size b l k).act.length = difn l k ∧ (∀ y, y ∈ (lrun size b l k).ina ++ (lrun size b l k).act ↔ y ∈ l.take k) ∧ (lrun size b l k).gone = [] ∧ ((lrun size b l k).ina ++ (lrun size b l k).act).Nodup
  | 0, _ => by simp [difn, lrun, fl]
  | k + 1, hk => by
    obtain ⟨h1, h2, h3, h4, h5⟩ := fl_two (b := b) l hd k (by omega)
    have hmo := difn_mono l (show k + 1 ≤ l.length from hk)
    show fl (lstep size b (lrun size b l k) (gi l k)).out = difn l (k + 1) ∧ (lstep size b (lrun size b l k) (gi l k)).ina.length + (lstep size b (lrun size b l k) (gi l k)).act.length = difn l (k + 1) ∧ (∀ y, y ∈ (lstep size b (lrun size b l k) (gi l k)).ina ++ (lstep size b (lrun size b l k) (gi l k)).act ↔ y ∈ l.take (k + 1)) ∧ (lstep size b (lrun size b l k) (gi l k)).gone = [] ∧ ((lstep size b (lrun size b l k) (gi l k)).ina ++ (lstep size b (lrun size b l k) (gi l k)).act).Nodup
    obtain ⟨s, hs⟩ : ∃ s, s = lrun size b l k := ⟨_, rfl⟩
    rw [← hs] at h1 h2 h3 h4 h5 ⊢
    have hm := fun y => mem_take_succ (l := l) (k := k) (y := y) (by omega)
    simp only [difn] at hmo ⊢
    obtain ⟨n1, n2, n3⟩ := List.nodup_append.1 h5
    unfold lstep
    by_cases hq : gi l k ∈ s.act
    · have hin : gi l k ∈ l.take k := (h3 _).1 (List.mem_append_right _ hq)
      rw [if_pos hq, if_pos hin]
      refine ⟨by rw [fl_app, if_pos rfl, h1], h2, fun y => ?_, h4, h5⟩
      rw [hm, h3]
      constructor
      · exact .inl
      · rintro (h | rfl)
        · exact h
        · exact hin
    · rw [if_neg hq]
      by_cases hi : gi l k ∈ s.ina
      · have hin : gi l k ∈ l.take k := (h3 _).1 (List.mem_append_left _ hi)
        have hl := wo_length n1 hi
        have hal := actIA_len b (wo s.ina (gi l k)) s.act (gi l k)
        have hpm := actIA_perm b (wo s.ina (gi l k)) s.act (gi l k)
        have hpm2 : (wo s.ina (gi l k) ++ s.act ++ [gi l k]).Nodup := by
          rw [List.nodup_append]
          refine ⟨?_, by simp, fun a ha c hc => ?_⟩
          · rw [List.nodup_append]
            exact ⟨wo_nodup n1, n2, fun a ha c hc => n3 a (wo_mem.1 ha).1 c hc⟩
          · simp only [List.mem_singleton] at hc
            subst hc
            rintro rfl
            rcases List.mem_append.1 ha with h | h
            · exact (wo_mem.1 h).2 rfl
            · exact hq h
        rw [if_pos hi, if_pos hin]
        refine ⟨by rw [fl_app, if_pos rfl, h1], by simp only; omega, fun y => ?_, h4, hpm.nodup_iff.2 hpm2⟩
        rw [hm]
        show y ∈ actI b (wo s.ina (gi l k)) s.act (gi l k) ++ actA b s.act (gi l k) ↔ _
        rw [hpm.mem_iff, ← h3]
        simp only [List.mem_append, wo_mem, List.mem_singleton]
        constructor
        · rintro ((h | h) | h)
          · exact .inl (.inl h.1)
          · exact .inl (.inr h)
          · exact .inr h
        · rintro ((h | h) | h)
          · by_cases e : y = gi l k
            · exact .inr e
            · exact .inl (.inl ⟨h, e⟩)
          · exact .inl (.inr h)
          · exact .inr h
      · have hq' : gi l k ∉ l.take k := fun h => by
          rcases List.mem_append.1 ((h3 _).2 h) with h | h
          · exact hi h
          · exact hq h
        rw [if_neg hq'] at hmo
        have hev : evL size { s with out := s.out ++ [distL s.gone (gi l k)] } = { s with out := s.out ++ [distL s.gone (gi l k)] } := by
          unfold evL
          rw [if_neg (by simp only; omega)]
        rw [if_neg hi, if_neg hq', hev, h4, distL_not.2 (by simp)]
        unfold putL'
        rw [if_neg (by omega)]
        refine ⟨by simp only; rw [fl_app, if_neg (by omega), h1], by simp; omega, fun y => ?_, rfl, ?_⟩
        · rw [hm, ← h3]
          simp only [List.mem_append, List.mem_singleton]
          constructor
          · rintro ((h | h) | h)
            · exact .inl (.inl h)
            · exact .inr h
            · exact .inl (.inr h)
          · rintro ((h | h) | h)
            · exact .inl (.inl h)
            · exact .inr h
            · exact .inl (.inr h)
        · have : (s.ina ++ [gi l k] ++ s.act).Perm (s.ina ++ s.act ++ [gi l k]) := by
            rw [List.append_assoc, List.append_assoc]
            exact List.Perm.append_left _ List.perm_append_comm
          refine this.nodup_iff.2 ?_
          rw [List.nodup_append]
          refine ⟨h5, by simp, fun a ha c hc => ?_⟩
          simp only [List.mem_singleton] at hc
          subst hc
          rintro rfl
          exact hq' ((h3 _).1 ha)
end Go.AM
