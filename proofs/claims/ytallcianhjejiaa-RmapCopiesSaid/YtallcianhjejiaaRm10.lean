/- Rmap: a list put in order is what insertions give. -/
import Derived.Test.YtallcianhjejiaaRm9
set_option linter.all false

namespace Go.AM
open Go Go.Proofs

def sortM (l : List Mp) : List Mp := l.mergeSort fun x y => !decide (ltM y x)
def leM (x y : Mp) : Prop := ¬ ltM y x
theorem leM_trans {x y z : Mp} (h : leM x y) (k : leM y z) : leM x z := by unfold leM ltM at *; omega
theorem leM_tot (x y : Mp) : leM x y ∨ leM y x := by unfold leM ltM; omega
theorem leM_anti {x y : Mp} (h : leM x y) (k : leM y x) : x = y := by
  rcases ltM_tri x y with h1 | h1 | h1
  · exact absurd h1 k
  · exact h1
  · exact absurd h1 h
theorem sortM_perm (l : List Mp) : (sortM l).Perm l := List.mergeSort_perm _ _
@[simp] theorem sortM_len (l : List Mp) : (sortM l).length = l.length := List.length_mergeSort _
theorem sortM_sorted (l : List Mp) : (sortM l).Pairwise leM := by
  have := List.pairwise_mergeSort (le := fun x y : Mp => !decide (ltM y x)) (fun a b c h1 h2 => by
    simp only [Bool.not_eq_true', decide_eq_false_iff_not] at *
    exact leM_trans h1 h2) (fun a b => by
    have := leM_tot a b
    unfold leM at this
    simpa using this) l
  refine this.imp fun {a b} h => ?_
  unfold leM
  simpa using h
theorem sort_uniq {a b : List Mp} (hp : a.Perm b) (ha : a.Pairwise leM) (hb : b.Pairwise leM) : a = b :=
  List.Perm.eq_of_pairwise (le := leM) (fun _ _ _ _ h1 h2 => leM_anti h1 h2) ha hb hp

theorem insR_perm (m : Mp) : ∀ l : List Mp, (insR l m).Perm (m :: l)
  | [] => List.Perm.refl _
  | x :: r => by
    simp only [insR]
    split
    · exact List.Perm.refl _
    · exact ((insR_perm m r).cons x).trans (List.Perm.swap m x r)
theorem insR_mem {m y : Mp} {l : List Mp} : y ∈ insR l m ↔ y = m ∨ y ∈ l := by
  rw [(insR_perm m l).mem_iff, List.mem_cons]
theorem insR_sorted (m : Mp) : ∀ {l : List Mp}, l.Pairwise leM → (insR l m).Pairwise leM
  | [], _ => by simp [insR]
  | x :: r, h => by
    obtain ⟨h1, h2⟩ := List.pairwise_cons.1 h
    simp only [insR]
    split
    · rename_i hl
      have hmx : leM m x := fun hh => ltM_irr _ (ltM_trans hl hh)
      refine List.pairwise_cons.2 ⟨fun y hy => ?_, h⟩
      rcases List.mem_cons.1 hy with rfl | hy
      · exact hmx
      · exact leM_trans hmx (h1 y hy)
    · rename_i hl
      refine List.pairwise_cons.2 ⟨fun y hy => ?_, insR_sorted m h2⟩
      rcases insR_mem.1 hy with rfl | hy
      · exact hl
      · exact h1 y hy

/-- The mappings that Copy adds. -/
def cpC (f t : Int) (l : List Mp) : List Mp := (l.filter fun m => decide (m.1 = f)).map fun m => (t, m.2)
theorem cpC_snoc (f t : Int) (l : List Mp) (m : Mp) : cpC f t (l ++ [m]) = if m.1 = f then cpC f t l ++ [(t, m.2)] else cpC f t l := by
  unfold cpC
  rw [List.filter_append, List.map_append]
  by_cases h : m.1 = f <;> simp [h]
theorem cpC_len (f t : Int) (l : List Mp) : (cpC f t l).length ≤ l.length := by
  unfold cpC
  rw [List.length_map]
  exact List.length_filter_le _ _
theorem cpF_perm (f t : Int) : ∀ (l o : List Mp), (l.foldl (cpS f t) o).Perm (o ++ l ++ cpC f t l)
  | [], o => by simp [cpC]
  | x :: r, o => by
    rw [List.foldl_cons]
    refine (cpF_perm f t r _).trans ?_
    unfold cpS cpC
    by_cases h : x.1 = f
    · rw [if_pos h]
      simp only [List.filter_cons, h, decide_true, if_true, List.map_cons]
      have h1 : (insR (insR o x) (t, x.2)).Perm ((t, x.2) :: x :: o) := (insR_perm _ _).trans ((insR_perm x o).cons _)
      have h2 := (h1.append_right (r ++ (r.filter fun m => decide (m.1 = f)).map fun m => (t, m.2)))
      rw [List.append_assoc]
      refine h2.trans ?_
      rw [List.append_assoc, List.perm_iff_count]
      intro a
      simp only [List.count_append, List.count_cons]
      omega
    · rw [if_neg h]
      simp only [List.filter_cons, h, decide_false, Bool.false_eq_true, if_false]
      have h2 := ((insR_perm x o).append_right (r ++ (r.filter fun m => decide (m.1 = f)).map fun m => (t, m.2)))
      rw [List.append_assoc]
      refine h2.trans ?_
      rw [List.append_assoc, List.perm_iff_count]
      intro a
      simp only [List.count_append, List.count_cons]
      omega
theorem cpF_sorted (f t : Int) : ∀ (l o : List Mp), o.Pairwise leM → (l.foldl (cpS f t) o).Pairwise leM
  | [], _, h => h
  | x :: r, o, h => by
    rw [List.foldl_cons]
    refine cpF_sorted f t r _ ?_
    unfold cpS
    split
    · exact insR_sorted _ (insR_sorted _ h)
    · exact insR_sorted _ h
theorem copy_eq (f t : Int) (l : List Mp) : sortM (l ++ cpC f t l) = cpG f t l :=
  sort_uniq ((sortM_perm _).trans (by
    have := (cpF_perm f t l []).symm
    simpa [cpG] using this)) (sortM_sorted _) (cpF_sorted f t l [] List.Pairwise.nil)
end Go.AM
