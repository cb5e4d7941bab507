/- put, in plain words: a block is joined with its partners, and put in its place; what the zone is then. -/
import Derived.Test.YtjdahonmgfhpgaaBd12
set_option linter.all false

namespace Go.AM
open Go

def delI (l : List Int) (x : Int) : List Int := l.take (below l x) ++ l.drop (below l x + 1)
def insI (l : List Int) (x : Int) : List Int := l.take (below l x) ++ x :: l.drop (below l x)

theorem below_cons_lt {a x : Int} {r : List Int} (h : a < x) : below (a :: r) x = below r x + 1 := by
  unfold below; rw [List.countP_cons_of_pos (by simpa using h)]
theorem below_le (l : List Int) (x : Int) : below l x ≤ l.length := List.countP_le_length
theorem below_zero {l : List Int} {x : Int} (h : ∀ y ∈ l, x ≤ y) : below l x = 0 := by
  unfold below
  rw [List.countP_eq_zero]
  intro y hy
  have := h y hy
  simp; omega

theorem below_parts : ∀ {l : List Int} {x : Int}, Sorted l → (∀ y ∈ l.take (below l x), y < x) ∧ ∀ y ∈ l.drop (below l x), x ≤ y
  | [], x, _ => by simp
  | a :: r, x, hs => by
    have h1 := List.pairwise_cons.1 hs
    by_cases h : a < x
    · have ih := below_parts (l := r) (x := x) h1.2
      rw [below_cons_lt h]
      simp only [List.take_succ_cons, List.drop_succ_cons, List.mem_cons]
      exact ⟨fun y hy => hy.elim (fun e => by rw [e]; exact h) (ih.1 y), ih.2⟩
    · have hz : below (a :: r) x = 0 := below_zero fun y hy => by
        rcases List.mem_cons.1 hy with rfl | hy
        · omega
        · have := h1.1 y hy; omega
      rw [hz]
      simp only [List.take_zero, List.drop_zero]
      refine ⟨by simp, fun y hy => ?_⟩
      rcases List.mem_cons.1 hy with rfl | hy
      · omega
      · have := h1.1 y hy; omega

theorem mem_parts {l : List Int} {n : Nat} {y : Int} : y ∈ l ↔ y ∈ l.take n ∨ y ∈ l.drop n := by
  conv => lhs; rw [← List.take_append_drop n l]
  rw [List.mem_append]

theorem sorted_take {l : List Int} (h : Sorted l) (n : Nat) : Sorted (l.take n) := List.Pairwise.sublist (List.take_sublist n l) h
theorem sorted_drop {l : List Int} (h : Sorted l) (n : Nat) : Sorted (l.drop n) := List.Pairwise.sublist (List.drop_sublist n l) h

theorem insI_ok {l : List Int} {x : Int} (hs : Sorted l) (hx : x ∉ l) : Sorted (insI l x) ∧ ∀ y, y ∈ insI l x ↔ y ∈ l ∨ y = x := by
  obtain ⟨h1, h2⟩ := below_parts (x := x) hs
  have h3 : ∀ y ∈ l.drop (below l x), x < y := fun y hy => by
    have := h2 y hy
    have : y ≠ x := fun e => hx (by rw [← e]; exact mem_parts.2 (.inr hy))
    omega
  unfold insI
  refine ⟨?_, fun y => ?_⟩
  · unfold Sorted
    rw [List.pairwise_append]
    refine ⟨sorted_take hs _, List.pairwise_cons.2 ⟨h3, sorted_drop hs _⟩, fun a ha b hb => ?_⟩
    rcases List.mem_cons.1 hb with rfl | hb
    · exact h1 a ha
    · have := h1 a ha; have := h3 b hb; omega
  · rw [List.mem_append, List.mem_cons, mem_parts (l := l) (n := below l x)]
    constructor
    · rintro (h | h | h)
      · exact .inl (.inl h)
      · exact .inr h
      · exact .inl (.inr h)
    · rintro ((h | h) | h)
      · exact .inl h
      · exact .inr (.inr h)
      · exact .inr (.inl h)

theorem below_at {l : List Int} {x : Int} (hs : Sorted l) (hx : x ∈ l) : l.drop (below l x) = x :: l.drop (below l x + 1) := by
  obtain ⟨h1, h2⟩ := below_parts (x := x) hs
  have hd : x ∈ l.drop (below l x) := by
    rcases mem_parts.1 hx with h | h
    · have := h1 x h; omega
    · exact h
  have hlt : below l x < l.length := by
    have := List.length_pos_of_mem hd
    simp at this; omega
  have hs2 := sorted_drop hs (below l x)
  rw [drop_gi hlt] at hd hs2 h2 ⊢
  have h3 := List.pairwise_cons.1 hs2
  rcases List.mem_cons.1 hd with e | h
  · rw [← e]
  · have := h3.1 x h
    have := h2 (gi l (below l x)) (by simp)
    omega

theorem below_lt {l : List Int} {x : Int} (hs : Sorted l) (hx : x ∈ l) : below l x < l.length := by
  have := congrArg List.length (below_at hs hx)
  simp at this; omega

theorem delI_ok {l : List Int} {x : Int} (hs : Sorted l) (hx : x ∈ l) : Sorted (delI l x) ∧ ∀ y, y ∈ delI l x ↔ y ∈ l ∧ y ≠ x := by
  obtain ⟨h1, h2⟩ := below_parts (x := x) hs
  have hat := below_at hs hx
  have hs2 := sorted_drop hs (below l x)
  rw [hat] at hs2 h2
  have h3 := (List.pairwise_cons.1 hs2).1
  unfold delI
  refine ⟨?_, fun y => ?_⟩
  · unfold Sorted
    rw [List.pairwise_append]
    refine ⟨sorted_take hs _, sorted_drop hs _, fun a ha b hb => ?_⟩
    have := h1 a ha; have := h3 b hb; omega
  · rw [List.mem_append, mem_parts (l := l) (n := below l x), hat, List.mem_cons]
    constructor
    · rintro (h | h)
      · have := h1 y h; exact ⟨.inl h, by omega⟩
      · have := h3 y h; exact ⟨.inr (.inr h), by omega⟩
    · rintro ⟨h | h | h, hne⟩
      · exact .inl h
      · exact absurd h hne
      · exact .inr h

open Classical in
/-- What put makes of a zone; n rounds are left. -/
noncomputable def putZ : Nat → Zn → Int → Nat → Zn
  | 0, z, f, k => z.set k (insI (z.fr k) f)
  | n + 1, z, f, k => if mate f k ∈ z.fr k ∧ insideZ z (par f k) (k + 1) then putZ n (z.set k (delI (z.fr k) (mate f k))) (par f k) (k + 1) else z.set k (insI (z.fr k) f)

def sameP (z y : Zn) : Prop := z.node = y.node ∧ z.kind = y.kind ∧ z.start = y.start ∧ z.count = y.count ∧ z.least = y.least
theorem sameP.set {z : Zn} {k : Nat} {l : List Int} : sameP (z.set k l) z := by simp [sameP]
theorem sameP.trans {a b c : Zn} (h : sameP a b) (k : sameP b c) : sameP a c := by unfold sameP at *; omega
theorem sameP.symm {a b : Zn} (h : sameP a b) : sameP b a := by unfold sameP at *; omega
theorem sameP.inside {a b : Zn} (h : sameP a b) {f : Int} {k : Nat} : insideZ a f k ↔ insideZ b f k := by unfold sameP insideZ at *; rw [h.2.2.1, h.2.2.2.1]
theorem sameP.ranges {a b : Zn} (h : sameP a b) : rangesZ a ↔ rangesZ b := by unfold sameP rangesZ at *; rw [h.1, h.2.1, h.2.2.1, h.2.2.2.1, h.2.2.2.2]

theorem mate_block {f x : Int} {k : Nat} (hk : k < 4) (hf : f % 2 ^ k = 0) : (par f k ≤ x ∧ x < par f k + 2 ^ (k + 1)) ↔ (f ≤ x ∧ x < f + 2 ^ k) ∨ (mate f k ≤ x ∧ x < mate f k + 2 ^ k) := by
  have h1 := mate_facts hk hf
  have h2 := par_facts hk hf
  have h3 := pow_succ2 (k := k)
  rw [h1.2]
  rcases h2.2.2.2 with e | e
  · rw [if_pos e]; omega
  · have hp := pow_pos' (k := k)
    rw [if_neg (by omega)]; omega

theorem put_valid : ∀ (n : Nat) {z : Zn} {f : Int} {k : Nat}, n + k = 4 → Valid z → insideZ z f k → (∀ x, f ≤ x → x < f + 2 ^ k → ¬ free z x) →
    Valid (putZ n z f k) ∧ sameP (putZ n z f k) z ∧ ∀ x, free (putZ n z f k) x ↔ free z x ∨ (f ≤ x ∧ x < f + 2 ^ k) := by
  have ins : ∀ {z : Zn} {f : Int} {k : Nat}, k ≤ 4 → Valid z → insideZ z f k → (∀ x, f ≤ x → x < f + 2 ^ k → ¬ free z x) → (k < 4 → insideZ z (par f k) (k + 1) → mate f k ∉ z.fr k) →
      Valid (z.set k (insI (z.fr k) f)) ∧ sameP (z.set k (insI (z.fr k) f)) z ∧ ∀ x, free (z.set k (insI (z.fr k) f)) x ↔ free z x ∨ (f ≤ x ∧ x < f + 2 ^ k) := fun {z f k} hk hv hi hd hp => by
    have hnf : f ∉ z.fr k := fun hm => by
      have hp := pow_pos' (k := k)
      exact hd f (by omega) (by omega) ⟨k, f, hk, hm, by omega, by omega⟩
    obtain ⟨a1, a2⟩ := insI_ok (hv.sorted k hk) hnf
    have := hv.insert hk hi hd (fun hk4 h => by
      have h2 := mate_facts hk4 hi.2.1
      rw [← h2.2]; exact hp hk4 h) a1 a2
    exact ⟨this.1, sameP.set, this.2⟩
  intro n
  induction n with
  | zero =>
    intro z f k hn hv hi hd
    exact ins (by omega) hv hi hd (by omega)
  | succ n ih =>
    intro z f k hn hv hi hd
    unfold putZ
    split
    · rename_i hc
      have hk4 : k < 4 := by omega
      obtain ⟨d1, d2⟩ := delI_ok (hv.sorted k (by omega)) hc.1
      obtain ⟨r1, r2⟩ := hv.remove (show k ≤ 4 by omega) hc.1 d1 d2
      have hmb := fun x => mate_block (x := x) hk4 hi.2.1
      have hfull : ∀ x, mate f k ≤ x → x < mate f k + 2 ^ k → free z x := fun x h1 h2 => ⟨k, _, by omega, hc.1, h1, h2⟩
      obtain ⟨q1, q2, q3⟩ := ih (z := z.set k (delI (z.fr k) (mate f k))) (f := par f k) (k := k + 1) (by omega) r1 (sameP.set.inside.2 hc.2) (fun x h1 h2 hfr => by
        have h3 := (r2 x).1 hfr
        rcases (hmb x).1 ⟨h1, h2⟩ with h | h
        · exact hd x h.1 h.2 h3.1
        · exact h3.2 h)
      refine ⟨q1, q2.trans sameP.set, fun x => ?_⟩
      rw [q3, r2, hmb]
      constructor
      · rintro (h | h | h)
        · exact .inl h.1
        · exact .inr h
        · exact .inl (hfull x h.1 h.2)
      · rintro (h | h)
        · by_cases hm : mate f k ≤ x ∧ x < mate f k + 2 ^ k
          · exact .inr (.inr hm)
          · exact .inl ⟨h, hm⟩
        · exact .inr (.inl h)
    · rename_i hc
      exact ins (by omega) hv hi hd fun _ h hm => hc ⟨hm, h⟩

theorem canon_same {z y : Zn} (h : sameP z y) (S : Int → Prop) : canon z S = canon y S := by
  have hi : ∀ f k, insideZ z f k ↔ insideZ y f k := fun f k => h.inside
  have ht : ∀ k f, top z S k f ↔ top y S k f := fun k f => by simp only [top, Full, hi]
  refine Zn.ext_fr h.1 h.2.1 h.2.2.1 h.2.2.2.1 h.2.2.2.2 fun k hk => ?_
  rw [canon_fr hk, canon_fr hk]
  exact sorted_ext canonL_sorted canonL_sorted fun x => by rw [mem_canonL, mem_canonL]; exact ht k x

/-- The zone behind put is the one that the greater set gives. -/
theorem put_canon {z : Zn} {f : Int} {k : Nat} (hk : k ≤ 4) (hv : Valid z) (hi : insideZ z f k) (hd : ∀ x, f ≤ x → x < f + 2 ^ k → ¬ free z x) :
    putZ (4 - k) z f k = canon z fun x => free z x ∨ (f ≤ x ∧ x < f + 2 ^ k) := by
  obtain ⟨h1, h2, h3⟩ := put_valid (4 - k) (by omega) hv hi hd
  rw [h1.canon, canon_same h2]
  exact canon_congr h3
end Go.AM
