/- Lists under a strict total order, in plain words. -/
import Derived.Test.YtfmdbbpeeppiiaaAmT
set_option linter.all false

namespace Go.AM
open Go

structure STO {α : Type} (lt : α → α → Prop) : Prop where
  irr : ∀ a, ¬ lt a a
  trans : ∀ {a b c}, lt a b → lt b c → lt a c
  tri : ∀ a b, lt a b ∨ a = b ∨ lt b a
section
variable {α : Type} {lt : α → α → Prop} [DecidableRel lt]
def leG (lt : α → α → Prop) (x y : α) : Prop := ¬ lt y x
theorem STO.le_trans (h : STO lt) {x y z : α} (p : leG lt x y) (q : leG lt y z) : leG lt x z := by
  unfold leG at *
  intro hh
  rcases h.tri y z with h1 | h1 | h1
  · exact p (h.trans h1 hh)
  · subst h1; exact p hh
  · exact q h1
theorem STO.le_tot (h : STO lt) (x y : α) : leG lt x y ∨ leG lt y x := by
  unfold leG
  rcases h.tri x y with h1 | h1 | h1
  · exact .inl fun h2 => h.irr _ (h.trans h1 h2)
  · subst h1; exact .inl (h.irr _)
  · exact .inr fun h2 => h.irr _ (h.trans h1 h2)
theorem STO.le_anti (h : STO lt) {x y : α} (p : leG lt x y) (q : leG lt y x) : x = y := by
  unfold leG at *
  rcases h.tri x y with h1 | h1 | h1
  · exact absurd h1 q
  · exact h1
  · exact absurd h1 p
def sortG (lt : α → α → Prop) [DecidableRel lt] (l : List α) : List α := l.mergeSort fun x y => !decide (lt y x)
theorem sortG_perm (l : List α) : (sortG lt l).Perm l := List.mergeSort_perm _ _
@[simp] theorem sortG_len (l : List α) : (sortG lt l).length = l.length := List.length_mergeSort _
theorem STO.sort_sorted (h : STO lt) (l : List α) : (sortG lt l).Pairwise (leG lt) := by
  have := List.pairwise_mergeSort (le := fun x y : α => !decide (lt y x)) (fun a b c h1 h2 => by
    simp only [Bool.not_eq_true', decide_eq_false_iff_not] at *
    exact h.le_trans h1 h2) (fun a b => by
    have := h.le_tot a b
    unfold leG at this
    simpa using this) l
  refine this.imp fun {a b} hh => ?_
  unfold leG
  simpa using hh
theorem STO.uniq (h : STO lt) {a b : List α} (hp : a.Perm b) (ha : a.Pairwise (leG lt)) (hb : b.Pairwise (leG lt)) : a = b :=
  List.Perm.eq_of_pairwise (le := leG lt) (fun _ _ _ _ h1 h2 => h.le_anti h1 h2) ha hb hp
theorem STO.le_lt (h : STO lt) {l : List α} (hl : l.Pairwise (leG lt)) (hn : l.Nodup) : l.Pairwise lt := by
  refine (hl.and hn).imp fun {a b} hab => ?_
  rcases h.tri a b with h1 | h1 | h1
  · exact h1
  · exact absurd h1 hab.2
  · exact absurd h1 hab.1
theorem STO.lt_le (h : STO lt) {l : List α} (hl : l.Pairwise lt) : l.Pairwise (leG lt) := hl.imp fun {a b} hab hba => h.irr _ (h.trans hab hba)
theorem STO.lt_nodup (h : STO lt) {l : List α} (hl : l.Pairwise lt) : l.Nodup := hl.imp fun {a b} hab e => by subst e; exact h.irr _ hab

/-- Insertion behind all that are not greater. -/
def insG (lt : α → α → Prop) [DecidableRel lt] : List α → α → List α
  | [], m => [m]
  | x :: r, m => if lt m x then m :: x :: r else x :: insG lt r m
theorem insG_perm (m : α) : ∀ l : List α, (insG lt l m).Perm (m :: l)
  | [] => List.Perm.refl _
  | x :: r => by
    simp only [insG]
    split
    · exact List.Perm.refl _
    · exact ((insG_perm m r).cons x).trans (List.Perm.swap m x r)
theorem insG_mem {m y : α} {l : List α} : y ∈ insG lt l m ↔ y = m ∨ y ∈ l := by
  rw [(insG_perm m l).mem_iff, List.mem_cons]
theorem STO.ins_sorted (h : STO lt) (m : α) : ∀ {l : List α}, l.Pairwise (leG lt) → (insG lt l m).Pairwise (leG lt)
  | [], _ => by simp [insG]
  | x :: r, hp => by
    obtain ⟨h1, h2⟩ := List.pairwise_cons.1 hp
    simp only [insG]
    split
    · rename_i hl
      have hmx : leG lt m x := fun hh => h.irr _ (h.trans hl hh)
      refine List.pairwise_cons.2 ⟨fun y hy => ?_, hp⟩
      rcases List.mem_cons.1 hy with rfl | hy
      · exact hmx
      · exact h.le_trans hmx (h1 y hy)
    · rename_i hl
      refine List.pairwise_cons.2 ⟨fun y hy => ?_, h.ins_sorted m h2⟩
      rcases insG_mem.1 hy with rfl | hy
      · exact hl
      · exact h1 y hy
theorem STO.sort_snoc (h : STO lt) (l : List α) (m : α) : sortG lt (l ++ [m]) = insG lt (sortG lt l) m :=
  h.uniq ((sortG_perm _).trans ((List.perm_append_singleton m l).trans (((sortG_perm l).symm.cons m).trans (insG_perm m _).symm))) (h.sort_sorted _) (h.ins_sorted m (h.sort_sorted l))
end
end Go.AM
