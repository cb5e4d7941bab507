/- The list between two steps of an insertion sort. -/
import Derived.Test.YtdhhdnbdceoenaaAmS1
import Derived.Test.YtdhhdnbdceoenaaAmT
set_option linter.all false

namespace Go.AM
open Go

def dat (S : List Int) (x : Int) (R : List Int) (j : Nat) : List Int := S.take j ++ x :: (S.drop j ++ R)
theorem dat_len {S : List Int} {x : Int} {R : List Int} {j : Nat} (hj : j ≤ S.length) : (dat S x R j).length = S.length + 1 + R.length := by
  unfold dat; simp; omega
theorem at_end (A : List Int) (x : Int) (B : List Int) : (A ++ x :: B)[A.length]? = some x := by simp
theorem at_end1 (A : List Int) (a x : Int) (B : List Int) : (A ++ a :: x :: B)[A.length + 1]? = some x := by
  rw [List.getElem?_append_right (by omega)]
  simp
theorem set_end (A : List Int) (x y : Int) (B : List Int) : (A ++ x :: B).set A.length y = A ++ y :: B := by
  rw [List.set_append_right _ _ (by omega)]
  simp
theorem set_end1 (A : List Int) (a x y : Int) (B : List Int) : (A ++ a :: x :: B).set (A.length + 1) y = A ++ a :: y :: B := by
  rw [List.set_append_right _ _ (by omega)]
  simp
theorem dat_succ {S : List Int} {x : Int} {R : List Int} {m : Nat} (hm : m < S.length) : dat S x R (m + 1) = S.take m ++ gi S m :: x :: (S.drop (m + 1) ++ R) := by
  unfold dat
  rw [List.take_succ_eq_append_getElem hm, gi_eq hm, List.append_assoc, List.singleton_append]
theorem dat_at {S : List Int} {x : Int} {R : List Int} {m : Nat} (hm : m < S.length) : dat S x R m = S.take m ++ x :: gi S m :: (S.drop (m + 1) ++ R) := by
  unfold dat
  rw [List.drop_eq_getElem_cons hm, gi_eq hm, List.cons_append]
theorem take_length' {S : List Int} {m : Nat} (hm : m ≤ S.length) : (S.take m).length = m := by simp; omega
theorem dat_get {S : List Int} {x : Int} {R : List Int} {j : Nat} (hj : j ≤ S.length) : (dat S x R j)[j]? = some x := by
  have := at_end (S.take j) x (S.drop j ++ R)
  rw [take_length' hj] at this
  exact this
theorem dat_get1 {S : List Int} {x : Int} {R : List Int} {m : Nat} (hm : m < S.length) : (dat S x R (m + 1))[m]? = some (gi S m) := by
  rw [dat_succ hm]
  have := at_end (S.take m) (gi S m) (x :: (S.drop (m + 1) ++ R))
  rw [take_length' (by omega)] at this
  exact this
theorem dat_set {S : List Int} {x : Int} {R : List Int} {m : Nat} (hm : m < S.length) : ((dat S x R (m + 1)).set (m + 1) (gi S m)).set m x = dat S x R m := by
  rw [dat_succ hm, dat_at hm]
  have h1 := set_end1 (S.take m) (gi S m) x (gi S m) (S.drop (m + 1) ++ R)
  rw [take_length' (by omega)] at h1
  rw [h1]
  have h2 := set_end (S.take m) (gi S m) x (gi S m :: (S.drop (m + 1) ++ R))
  rw [take_length' (by omega)] at h2
  exact h2
theorem dat_full {S : List Int} {x : Int} {R : List Int} : dat S x R S.length = S ++ x :: R := by unfold dat; simp
/-- What is the list before the i-th round. -/
def rnd (key : Int → Int) (l : List Int) (i : Nat) : List Int := sortK key (l.take i) ++ l.drop i
theorem rnd_one (key : Int → Int) (l : List Int) : rnd key l 1 = l := by
  unfold rnd
  cases l with
  | nil => rfl
  | cons a r => simp [sortK, insK]
theorem rnd_end {key : Int → Int} {l : List Int} {i : Nat} (h : l.length ≤ i) : rnd key l i = sortK key l := by
  unfold rnd
  rw [List.take_of_length_le h, List.drop_eq_nil_of_le h, List.append_nil]
theorem rnd_len (key : Int → Int) (l : List Int) (i : Nat) : (rnd key l i).length = l.length := by
  unfold rnd
  simp [sortK_len]; omega
theorem rnd_dat {key : Int → Int} {l : List Int} {i : Nat} (h : i < l.length) : rnd key l i = dat (sortK key (l.take i)) (gi l i) (l.drop (i + 1)) i := by
  have hl : (sortK key (l.take i)).length = i := by rw [sortK_len]; simp; omega
  have := dat_full (S := sortK key (l.take i)) (x := gi l i) (R := l.drop (i + 1))
  rw [hl] at this
  rw [this]
  unfold rnd
  rw [List.drop_eq_getElem_cons h, gi_eq h]
theorem rnd_next {key : Int → Int} {l : List Int} {i j : Nat} (h : i < l.length) (hj : j ≤ i) (hd : ∀ y ∈ (sortK key (l.take i)).drop j, key (gi l i) < key y) (ht : j = 0 ∨ ¬ key (gi l i) < key (gi (sortK key (l.take i)) (j - 1))) :
    dat (sortK key (l.take i)) (gi l i) (l.drop (i + 1)) j = rnd key l (i + 1) := by
  have hl : (sortK key (l.take i)).length = i := by rw [sortK_len]; simp; omega
  have hs := sortK_sorted key (l.take i)
  have h1 : ∀ y ∈ (sortK key (l.take i)).take j, key y ≤ key (gi l i) := fun y hy => by
    obtain ⟨n, hn, rfl⟩ := List.mem_iff_getElem.1 hy
    have hn2 : n < j := by simp at hn; omega
    rcases ht with rfl | ht
    · omega
    · rw [List.getElem_take]
      have hj1 : j - 1 < (sortK key (l.take i)).length := by omega
      rw [gi_eq hj1] at ht
      by_cases e : n = j - 1
      · subst e; omega
      · have := List.pairwise_iff_getElem.1 hs n (j - 1) (by omega) hj1 (by omega)
        omega
  unfold rnd
  rw [List.take_succ_eq_append_getElem h, sortK_snoc, ← gi_eq h, insK_at h1 hd]
  unfold dat
  simp
theorem dat_mem {key : Int → Int} {l : List Int} {i m : Nat} (h : i < l.length) (hm : m < i) : gi (sortK key (l.take i)) m ∈ l := by
  have hl : (sortK key (l.take i)).length = i := by rw [sortK_len]; simp; omega
  have := gi_mem (l := sortK key (l.take i)) (n := m) (by omega)
  exact List.mem_of_mem_take (mem_sortK.1 this)
end Go.AM
