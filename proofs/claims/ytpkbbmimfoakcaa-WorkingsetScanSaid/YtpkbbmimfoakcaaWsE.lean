/- Workingset: the counters of a plain replay, in plain words. -/
import Derived.Test.YtpkbbmimfoakcaaWsA
set_option linter.all false

namespace Go.AM
open Go Go.Proofs

theorem dk_app (l : List Int) (x p : Int) : ∀ k, k ≤ l.length → dk (l ++ [x]) p k = if dk l p k = -2 then -2 else dk l p k + 1
  | 0, _ => by simp [dk]
  | k + 1, h => by
    have ih := dk_app l x p k (by omega)
    simp only [dk, gi_app (show k < l.length by omega)]
    split
    · rw [if_neg (by omega)]; simp; omega
    · exact ih
theorem dk_not {l : List Int} {p : Int} : ∀ {k : Nat}, k ≤ l.length → (dk l p k = -2 ↔ ∀ j, j < k → gi l j ≠ p)
  | 0, _ => by simp [dk]
  | k + 1, h => by
    have ih := dk_not (l := l) (p := p) (k := k) (by omega)
    simp only [dk]
    split
    · rename_i e
      constructor
      · intro h; omega
      · intro hh; exact absurd e (hh k (by omega))
    · rename_i e
      rw [ih]
      constructor
      · intro hh j hj
        rcases Nat.lt_succ_iff_lt_or_eq.1 hj with h1 | rfl
        · exact hh j h1
        · exact e
      · intro hh j hj; exact hh j (by omega)
theorem dk_rng {l : List Int} {p : Int} : ∀ {k : Nat}, k ≤ l.length → dk l p k = -2 ∨ (0 ≤ dk l p k ∧ dk l p k < l.length)
  | 0, _ => .inl rfl
  | k + 1, h => by
    simp only [dk]
    split
    · right; omega
    · exact dk_rng (by omega)
theorem distL_not {l : List Int} {p : Int} : distL l p = -2 ↔ p ∉ l := by
  unfold distL
  rw [dk_not (Nat.le_refl _)]
  constructor
  · intro h hp
    obtain ⟨n, h1, h2⟩ := gi_of_mem hp
    exact h n h1 h2
  · intro h j hj e
    exact h (e ▸ gi_mem hj)
theorem distL_rng {l : List Int} {p : Int} (h : p ∈ l) : 0 ≤ distL l p ∧ distL l p < l.length := by
  rcases dk_rng (l := l) (p := p) (Nat.le_refl _) with h1 | h1
  · exact absurd h (distL_not.1 h1)
  · exact h1
theorem distL_app (l : List Int) (x p : Int) : distL (l ++ [x]) p = if x = p then 0 else if p ∈ l then distL l p + 1 else -2 := by
  have e : distL (l ++ [x]) p = dk (l ++ [x]) p (l.length + 1) := by unfold distL; rw [show (l ++ [x]).length = l.length + 1 by simp]
  rw [e]
  simp only [dk, gi_last]
  split
  · simp
  · rw [dk_app l x p _ (Nat.le_refl _)]
    have hn := distL_not (l := l) (p := p)
    unfold distL at hn
    by_cases h : p ∈ l
    · rw [if_pos h, if_neg (fun h2 => hn.1 h2 h)]; rfl
    · rw [if_neg h, if_pos (hn.2 h)]

/-- What the law's array holds for a page. -/
def atv (s : RS) (p : Int) : Int := if p ∈ s.q then -1 else if p ∈ s.gone then s.gone.length + 1 - distL s.gone p else 0
def atL (s : RS) : List Int := (List.range 16).map fun (k : Nat) => atv s (k : Int)
theorem atL_len (s : RS) : (atL s).length = 16 := by simp [atL]
theorem atL_gi (s : RS) {k : Nat} (h : k < 16) : gi (atL s) k = atv s k := by
  unfold gi atL
  simp [List.getD_eq_getElem?_getD, h]

theorem set_eq {l m : List Int} {k : Nat} {v : Int} (hl : l.length = m.length) (h : ∀ j, j < m.length → gi m j = if j = k then v else gi l j) : l.set k v = m := by
  apply List.ext_getElem
  · simp [hl]
  · intro j h1 h2
    rw [List.getElem_set]
    have := h j h2
    rw [gi_eq h2] at this
    rw [this]
    by_cases e : k = j
    · subst e; simp
    · rw [if_neg e, if_neg (fun h => e h.symm), gi_eq (by omega)]

theorem at_hit {size : Int} {s : RS} {p : Int} (hp : p ∈ s.q) : atL (rstep size s p) = atL s := by
  unfold rstep
  rw [if_pos hp]
  rfl
theorem at_add {size : Int} {s : RS} {p : Nat} (hp : (p : Int) ∉ s.q) (hf : ¬ (s.q.length : Int) = size) (h16 : p < 16) : (atL s).set p (-1) = atL (rstep size s p) := by
  refine set_eq (by simp [atL_len]) fun j hj => ?_
  rw [atL_len] at hj
  rw [atL_gi _ hj, atL_gi _ hj]
  unfold rstep
  rw [if_neg hp, if_neg hf]
  unfold atv
  by_cases e : j = p
  · subst e; simp
  · have : ¬ (j : Int) = (p : Int) := fun h => e (Int.ofNat_inj.1 h)
    simp [e, this]
theorem at_evict {size : Int} {s : RS} {k : Nat} (hi : RInv size k s) (hs : 1 ≤ size) {p x : Nat} (hp : (p : Int) ∉ s.q) (hf : (s.q.length : Int) = size) (h16 : p < 16) (hx : gi s.q 0 = (x : Int)) (hx16 : x < 16) :
    ((atL s).set x (1 + ((s.gone.length : Int) + 1))).set p (-1) = atL (rstep size s p) := by
  obtain ⟨q, gone, out, held⟩ := s
  cases q with
  | nil => simp at hf; omega
  | cons y r =>
  simp only [gi_cons0] at hx
  subst hx
  have hnd := List.nodup_cons.1 hi.nd
  simp only at hf
  have hxp : ¬ x = p := fun e => hp (by simp [e])
  refine set_eq (by simp [atL_len]) fun j hj => ?_
  rw [atL_len] at hj
  rw [atL_gi _ hj]
  have hg2 : gi ((atL ⟨(x : Int) :: r, gone, out, held⟩).set x (1 + ((gone.length : Int) + 1))) j = if j = x then 1 + ((gone.length : Int) + 1) else gi (atL ⟨(x : Int) :: r, gone, out, held⟩) j := by
    unfold gi
    simp only [List.getD_eq_getElem?_getD, List.getElem?_set]
    by_cases e : x = j
    · subst e; simp [atL_len, hx16]
    · rw [if_neg e, if_neg (fun h => e h.symm)]
  rw [hg2, atL_gi _ hj]
  unfold rstep
  rw [if_neg hp, if_pos hf]
  unfold atv
  simp only [gi_cons0, List.drop_one, List.tail_cons, List.mem_append, List.mem_cons, List.not_mem_nil, or_false, List.length_append, List.length_cons, List.length_nil]
  have cast : ∀ a : Nat, ((j : Int) = (a : Int)) = (j = a) := fun a => propext Int.ofNat_inj
  simp only [cast]
  by_cases e1 : j = p
  · subst e1; simp
  · by_cases e2 : j = x
    · subst e2
      have h1 : (j : Int) ∉ r := hnd.1
      rw [distL_app]
      simp [e1, h1]
      omega
    · rw [distL_app]
      have h2 : ¬ (x : Int) = (j : Int) := fun h => e2 (Int.ofNat_inj.1 h).symm
      simp only [e1, e2, or_false, false_or, if_false, h2]
      by_cases h3 : (j : Int) ∈ r
      · simp [h3]
      · by_cases h4 : (j : Int) ∈ gone
        · simp [h3, h4]; omega
        · simp [h3, h4]

theorem rrun_out_pre (size : Int) (l : List Int) (i : Nat) : ∀ k, i < k → (hi : ∀ j, (rrun size l j).out.length = j) → gi (rrun size l k).out i = gi (rrun size l (i + 1)).out i
  | 0, h, _ => by omega
  | k + 1, h, hi => by
    by_cases e : i = k
    · subst e; rfl
    · rw [← rrun_out_pre size l i k (by omega) hi]
      have hl := hi k
      show gi (rstep size (rrun size l k) (gi l k)).out i = _
      unfold rstep
      split
      · exact gi_app (by omega)
      · split
        · exact gi_app (by omega)
        · exact gi_app (by omega)
theorem rstep_out (size : Int) (s : RS) (p : Int) : (rstep size s p).out = s.out ++ [if p ∈ s.q then -1 else distL s.gone p] := by
  unfold rstep
  split
  · rfl
  · split <;> rfl
theorem rrun_out (size : Int) (hs : 1 ≤ size) (l : List Int) {i k : Nat} (h : i < k) : gi (rrun size l k).out i = if gi l i ∈ (rrun size l i).q then -1 else distL (rrun size l i).gone (gi l i) := by
  rw [rrun_out_pre size l i k h fun j => (rrun_inv hs l j).out]
  show gi (rstep size (rrun size l i) (gi l i)).out i = _
  rw [rstep_out]
  have := (rrun_inv hs l i).out
  conv => lhs; rw [← this]
  rw [this]
  have h2 := gi_last (l := (rrun size l i).out) (x := if gi l i ∈ (rrun size l i).q then -1 else distL (rrun size l i).gone (gi l i))
  rw [this] at h2
  exact h2
theorem rrun_mem (size : Int) (l : List Int) : ∀ k, k ≤ l.length → ∀ y ∈ (rrun size l k).q, y ∈ l
  | 0, _, y, h => by simp [rrun] at h
  | k + 1, hk, y, h => by
    have ih := rrun_mem size l k (by omega)
    have hm := gi_mem (show k < l.length by omega)
    change y ∈ (rstep size (rrun size l k) (gi l k)).q at h
    unfold rstep at h
    split at h
    · exact ih y h
    · split at h
      · simp only [List.mem_append, List.mem_singleton] at h
        rcases h with h | rfl
        · exact ih y (List.mem_of_mem_drop h)
        · exact hm
      · simp only [List.mem_append, List.mem_singleton] at h
        rcases h with h | rfl
        · exact ih y h
        · exact hm
end Go.AM
