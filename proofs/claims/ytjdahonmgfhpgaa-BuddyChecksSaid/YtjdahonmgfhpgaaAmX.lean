/- A function known at a few arguments, as a table: long evaluations are cut into pieces. -/
import Derived.Test.YtjdahonmgfhpgaaAmW
set_option linter.all false
namespace Go.AM
open Go

def beqV : Value → Value → Bool
  | .int k a, .int k' b => decide (k = k') && decide (a = b)
  | .bool a, .bool b => a == b
  | .slice none n c, .slice none n' c' => Nat.beq n n' && Nat.beq c c'
  | _, _ => false

theorem beqV_eq {x y : Value} (h : beqV x y = true) : x = y := by
  unfold beqV at h
  split at h
  · simp only [Bool.and_eq_true, decide_eq_true_eq] at h; rw [h.1, h.2]
  · rw [eq_of_beq h]
  · simp only [Bool.and_eq_true] at h; rw [Nat.eq_of_beq_eq_true h.1, Nat.eq_of_beq_eq_true h.2]
  · simp at h

mutual
def AV.beq : AV → AV → Bool
  | .any, b => match b with | .any => true | _ => false
  | .v x, b => match b with | .v y => beqV x y | _ => false
  | .agg cs, b => match b with | .agg ds => beqL cs ds | _ => false
  | .tup cs, b => match b with | .tup ds => beqL cs ds | _ => false
  | .rd s xs, b => match b with | .rd t ys => Nat.beq s t && beqLL xs ys | _ => false
  | .ow s xs, b => match b with | .ow t ys => Nat.beq s t && beqLL xs ys | _ => false
  | _, _ => false
def beqL : List AV → List AV → Bool
  | [], b => match b with | [] => true | _ => false
  | x :: r, b => match b with | y :: s => x.beq y && beqL r s | _ => false
def beqLL : List (List AV) → List (List AV) → Bool
  | [], b => match b with | [] => true | _ => false
  | x :: r, b => match b with | y :: s => beqL x y && beqLL r s | _ => false
end

mutual
theorem AV.beq_eq : ∀ {a b : AV}, a.beq b = true → a = b
  | .any, b, h => by cases b <;> simp [AV.beq] at h; rfl
  | .v x, b, h => by
    cases b <;> simp only [AV.beq, Bool.false_eq_true] at h
    rw [beqV_eq h]
  | .agg cs, b, h => by
    cases b <;> simp only [AV.beq, Bool.false_eq_true] at h
    rw [beqL_eq h]
  | .tup cs, b, h => by
    cases b <;> simp only [AV.beq, Bool.false_eq_true] at h
    rw [beqL_eq h]
  | .rd s xs, b, h => by
    cases b <;> simp only [AV.beq, Bool.false_eq_true, Bool.and_eq_true] at h
    rw [Nat.eq_of_beq_eq_true h.1, beqLL_eq h.2]
  | .ow s xs, b, h => by
    cases b <;> simp only [AV.beq, Bool.false_eq_true, Bool.and_eq_true] at h
    rw [Nat.eq_of_beq_eq_true h.1, beqLL_eq h.2]
  | .rp _, _, h => by simp [AV.beq] at h
  | .rf _, _, h => by simp [AV.beq] at h
  | .bp .., _, h => by simp [AV.beq] at h
  | .sl .., _, h => by simp [AV.beq] at h
  | .ep .., _, h => by simp [AV.beq] at h
  | .bs .., _, h => by simp [AV.beq] at h
  | .fn .., _, h => by simp [AV.beq] at h
theorem beqL_eq : ∀ {a b : List AV}, beqL a b = true → a = b
  | [], b, h => by cases b <;> simp [beqL] at h; rfl
  | x :: r, b, h => by
    cases b <;> simp only [beqL, Bool.false_eq_true, Bool.and_eq_true] at h
    rw [AV.beq_eq h.1, beqL_eq h.2]
theorem beqLL_eq : ∀ {a b : List (List AV)}, beqLL a b = true → a = b
  | [], b, h => by cases b <;> simp [beqLL] at h; rfl
  | x :: r, b, h => by
    cases b <;> simp only [beqLL, Bool.false_eq_true, Bool.and_eq_true] at h
    rw [beqL_eq h.1, beqLL_eq h.2]
end

def memo (tab : List (List AV × AV)) (avs : List AV) : Option AV := match tab with
  | [] => none
  | (as, r) :: t => match beqL as avs with
    | true => some r
    | false => memo t avs

theorem memo_sound {P : Program} {f : FuncId} {F : List AV → Option AV} (h : PSound P f F) : ∀ {tab : List (List AV × AV)}, (∀ p ∈ tab, F p.1 = some p.2) → PSound P f (memo tab)
  | tab, ht => h.weaken fun avs r hr => by
    induction tab with
    | nil => simp [memo] at hr
    | cons p t ih =>
      obtain ⟨as, q⟩ := p
      simp only [memo] at hr
      split at hr
      · rename_i hb
        simp only [Option.some.injEq] at hr
        subst hr
        rw [← beqL_eq hb]
        exact ht (as, q) (by simp)
      · exact ih (fun p hp => ht p (by simp [hp])) hr

theorem memo_flat {tab : List (List AV × AV)} (h : tab.all (fun p => p.2.flatB) = true) : ∀ {avs : List AV} {r : AV}, memo tab avs = some r → r.flat := by
  induction tab with
  | nil => intro avs r hr; simp [memo] at hr
  | cons p t ih =>
    intro avs r hr
    simp only [List.all_cons, Bool.and_eq_true] at h
    obtain ⟨as, q⟩ := p
    simp only [memo] at hr
    split at hr
    · simp only [Option.some.injEq] at hr
      subst hr
      exact flat_of h.1
    · exact ih h.2 hr
end Go.AM
