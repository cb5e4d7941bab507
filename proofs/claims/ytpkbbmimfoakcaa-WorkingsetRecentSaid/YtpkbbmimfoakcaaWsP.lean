/- Workingset: the plain cache, in plain words. -/
import Derived.Test.YtpkbbmimfoakcaaWs3
set_option linter.all false

namespace Go.AM
open Go Go.Proofs

theorem mdel_sub {es : List (List Int × AV)} {q : List Int} : ((mdel es q).map (·.1)).Sublist (es.map (·.1)) := by
  induction es with
  | nil => simp [mdel]
  | cons e es ih =>
    obtain ⟨k, b⟩ := e
    simp only [mdel]
    split
    · simp
    · simpa using ih
theorem mget_not {es : List (List Int × AV)} {q : List Int} (h : q ∉ es.map (·.1)) : mget es q = none := by
  induction es with
  | nil => rfl
  | cons e es ih =>
    obtain ⟨k, b⟩ := e
    simp only [List.map_cons, List.mem_cons, not_or] at h
    simp only [mget, if_neg h.1, ih h.2]
theorem mget_mdel {es : List (List Int × AV)} {q r : List Int} (hn : (es.map (·.1)).Nodup) : mget (mdel es q) r = if r = q then none else mget es r := by
  induction es with
  | nil => simp [mdel, mget]
  | cons e es ih =>
    obtain ⟨k, b⟩ := e
    simp only [List.map_cons, List.nodup_cons] at hn
    simp only [mdel]
    split
    · rename_i h; subst h
      simp only [mget]
      split
      · rename_i h; subst h; exact mget_not hn.1
      · rfl
    · rename_i h
      simp only [mget, ih hn.2]
      by_cases h1 : r = k
      · subst h1
        rw [if_pos rfl, if_neg fun e => h e.symm]
        simp
      · rw [if_neg h1, if_neg h1]
theorem mset_keys {es : List (List Int × AV)} {q : List Int} {a : AV} : ∀ r ∈ (mset es q a).map (·.1), r = q ∨ r ∈ es.map (·.1) := by
  induction es with
  | nil => simp [mset]
  | cons e es ih =>
    obtain ⟨k, b⟩ := e
    simp only [mset]
    split
    · intro r hr
      simp only [List.map_cons, List.mem_cons] at hr ⊢
      rcases hr with hr | hr
      · exact .inl hr
      · exact .inr (.inr hr)
    · intro r hr
      simp only [List.map_cons, List.mem_cons] at hr ⊢
      rcases hr with hr | hr
      · exact .inr (.inl hr)
      · rcases ih r hr with h | h
        · exact .inl h
        · exact .inr (.inr h)
theorem mset_nodup {es : List (List Int × AV)} {q : List Int} {a : AV} (hn : (es.map (·.1)).Nodup) : ((mset es q a).map (·.1)).Nodup := by
  induction es with
  | nil => simp [mset]
  | cons e es ih =>
    obtain ⟨k, b⟩ := e
    simp only [List.map_cons, List.nodup_cons] at hn
    simp only [mset]
    split
    · rename_i h; subst h
      simpa using hn
    · rename_i h
      simp only [List.map_cons, List.nodup_cons]
      refine ⟨fun hm => ?_, ih hn.2⟩
      rcases mset_keys k hm with h1 | h1
      · exact h h1.symm
      · exact hn.1 h1

/-- The plain cache: the queue, what was evicted, the results, and the map of what is held. -/
structure RS where
  q : List Int
  gone : List Int
  out : List Int
  held : List (List Int × AV)
def rstep (size : Int) (s : RS) (p : Int) : RS :=
  if p ∈ s.q then { s with out := s.out ++ [-1] }
  else if (s.q.length : Int) = size then ⟨s.q.drop 1 ++ [p], s.gone ++ [gi s.q 0], s.out ++ [distL s.gone p], mset (mdel s.held [gi s.q 0]) [p] (B true)⟩
  else ⟨s.q ++ [p], s.gone, s.out ++ [distL s.gone p], mset s.held [p] (B true)⟩
def rrun (size : Int) (l : List Int) : Nat → RS
  | 0 => ⟨[], [], [], []⟩
  | k + 1 => rstep size (rrun size l k) (gi l k)

def HeldOK (es : List (List Int × AV)) (q : List Int) : Prop := (es.map (·.1)).Nodup ∧ ∀ p : Int, mget es [p] = if p ∈ q then some (B true) else none
structure RInv (size : Int) (k : Nat) (s : RS) : Prop where
  out : s.out.length = k
  gone : s.gone.length ≤ k
  qk : s.q.length ≤ k
  qs : (s.q.length : Int) ≤ size
  nd : s.q.Nodup
  held : HeldOK s.held s.q

theorem gi_cons0 {x : Int} {r : List Int} : gi (x :: r) 0 = x := rfl
theorem rstep_inv {size : Int} (hs : 1 ≤ size) {k : Nat} {s : RS} (h : RInv size k s) (p : Int) : RInv size (k + 1) (rstep size s p) := by
  obtain ⟨h1, h2, h3, h4, h5, h6, h7⟩ := h
  unfold rstep
  split
  · exact ⟨by simp [h1], by simpa using Nat.le_succ_of_le h2, by simpa using Nat.le_succ_of_le h3, h4, h5, h6, h7⟩
  · rename_i hp
    split
    · rename_i hf
      cases hq : s.q with
      | nil => rw [hq] at hf; simp at hf; omega
      | cons x r =>
        simp only [hq] at hf h3 h4 h5 h7 hp ⊢
        simp only [gi_cons0, List.drop_one, List.tail_cons]
        have hnd := List.nodup_cons.1 h5
        simp only [List.mem_cons, not_or] at hp
        refine ⟨by simp [h1], by simp; omega, by simp at h3 ⊢; omega, by simp at h4 ⊢; omega, ?_, mset_nodup (List.Nodup.sublist mdel_sub h6), fun y => ?_⟩
        · rw [List.nodup_append]
          refine ⟨hnd.2, by simp, fun a ha b hb => ?_⟩
          simp only [List.mem_singleton] at hb
          subst hb
          exact fun e => hp.2 (e ▸ ha)
        · rw [mget_mset, mget_mdel h6, h7 y]
          by_cases e : y = p
          · subst e; simp
          · simp only [List.cons.injEq, e, and_true, if_false, List.mem_append, List.mem_cons, List.not_mem_nil, or_false]
            by_cases e2 : y = x
            · subst e2; simp [hnd.1]
            · simp [e2]
    · rename_i hf
      refine ⟨by simp [h1], by simp; omega, by simp; omega, by simp; omega, ?_, mset_nodup h6, fun y => ?_⟩
      · rw [List.nodup_append]
        refine ⟨h5, by simp, fun a ha b hb => ?_⟩
        simp only [List.mem_singleton] at hb
        subst hb
        exact fun e => hp (e ▸ ha)
      · rw [mget_mset, h7 y]
        by_cases e : y = p
        · subst e; simp
        · simp [e]
theorem rrun_inv {size : Int} (hs : 1 ≤ size) (l : List Int) : ∀ k, RInv size k (rrun size l k)
  | 0 => ⟨rfl, by simp [rrun], by simp [rrun], by simp [rrun]; omega, by simp [rrun], by simp [rrun, HeldOK, mget]⟩
  | k + 1 => rstep_inv hs (rrun_inv hs l k) _

/-- What Refaults gives. -/
def refR (l : List Int) (size : Int) : List Int × Int := if errS l.length size = 0 then ((rrun size l l.length).out, 0) else ([], errS l.length size)
theorem errS_zero {n s : Int} : errS n s = 0 ↔ n ≤ 10000 ∧ 1 ≤ s ∧ s ≤ 10000 := by
  unfold errS
  split
  · simp; omega
  · split
    · simp; omega
    · simp; omega
end Go.AM
