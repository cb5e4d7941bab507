/- Workingset: the least recently used page, in plain words. -/
import Derived.Test.YtpkbbmimfoakcaaWsF
set_option linter.all false

namespace Go.AM
open Go Go.Proofs

/-- The different pages, in the order of their last uses. -/
def ddl : List Int → List Int
  | [] => []
  | x :: r => if x ∈ r then ddl r else x :: ddl r
theorem ddl_mem {y : Int} : ∀ {l : List Int}, y ∈ ddl l ↔ y ∈ l
  | [] => by simp [ddl]
  | x :: r => by
    have ih := ddl_mem (y := y) (l := r)
    simp only [ddl]
    split
    · rename_i h
      rw [ih, List.mem_cons]
      constructor
      · exact .inr
      · rintro (rfl | h2)
        · exact h
        · exact h2
    · rw [List.mem_cons, List.mem_cons, ih]
theorem ddl_nodup : ∀ l : List Int, (ddl l).Nodup
  | [] => by simp [ddl]
  | x :: r => by
    simp only [ddl]
    split
    · exact ddl_nodup r
    · rename_i h
      exact List.nodup_cons.2 ⟨fun hm => h (ddl_mem.1 hm), ddl_nodup r⟩
theorem ddl_len : ∀ l : List Int, (ddl l).length ≤ l.length
  | [] => by simp [ddl]
  | x :: r => by
    have := ddl_len r
    simp only [ddl]
    split <;> simp <;> omega
theorem ddl_app (b : List Int) : ∀ a : List Int, ∃ C, ddl (a ++ b) = C ++ ddl b
  | [] => ⟨[], rfl⟩
  | x :: r => by
    obtain ⟨C, hC⟩ := ddl_app b r
    simp only [List.cons_append, ddl]
    split
    · exact ⟨C, hC⟩
    · exact ⟨x :: C, by rw [hC]; rfl⟩
theorem wo_cons (x : Int) (r : List Int) (p : Int) : wo (x :: r) p = if x = p then wo r p else x :: wo r p := by
  unfold wo
  by_cases h : x = p <;> simp [h]
theorem wo_app (a b : List Int) (p : Int) : wo (a ++ b) p = wo a p ++ wo b p := by
  unfold wo; simp
theorem ddl_snoc (p : Int) : ∀ l : List Int, ddl (l ++ [p]) = wo (ddl l) p ++ [p]
  | [] => by simp [ddl, wo]
  | x :: r => by
    have ih := ddl_snoc p r
    simp only [List.cons_append, ddl, List.mem_append, List.mem_singleton]
    by_cases h : x ∈ r
    · rw [if_pos (.inl h), if_pos h, ih]
    · by_cases e : x = p
      · rw [if_pos (.inr e), if_neg h, wo_cons, if_pos e, ih]
      · rw [if_neg (by simp [h, e]), if_neg h, wo_cons, if_neg e, ih]; rfl
theorem cut_uniq {p : Int} {b d : List Int} (hb : p ∉ b) (hd : p ∉ d) : ∀ a c : List Int, a ++ p :: b = c ++ p :: d → b = d
  | [], [], h => by simpa using h
  | [], y :: c, h => by
    simp only [List.nil_append, List.cons_append, List.cons.injEq] at h
    exact absurd (by rw [h.2]; simp) hb
  | x :: a, [], h => by
    simp only [List.nil_append, List.cons_append, List.cons.injEq] at h
    exact absurd (by rw [← h.2]; simp) hd
  | x :: a, y :: c, h => by
    simp only [List.cons_append, List.cons.injEq] at h
    exact cut_uniq hb hd a c h.2

theorem lstep_out (size b : Int) (s : LS) (p : Int) : (lstep size b s p).out = s.out ++ [if p ∈ s.act ∨ p ∈ s.ina then -1 else distL s.gone p] := by
  unfold lstep
  by_cases h1 : p ∈ s.act
  · rw [if_pos h1, if_pos (.inl h1)]
  · by_cases h2 : p ∈ s.ina
    · rw [if_neg h1, if_pos h2, if_pos (.inr h2)]
    · rw [if_neg h1, if_neg h2, if_neg (by simp [h1, h2])]
      unfold putL'
      split <;> (simp only; unfold evL; split <;> rfl)
theorem lrun_len {size b : Int} (hs : 1 ≤ size) (l : List Int) (k : Nat) : (lrun size b l k).out.length = k := (lrun_inv hs l k).out
theorem lrun_out_pre {size b : Int} (hs : 1 ≤ size) (l : List Int) (i : Nat) : ∀ k, i < k → gi (lrun size b l k).out i = gi (lrun size b l (i + 1)).out i
  | 0, h => by omega
  | k + 1, h => by
    by_cases e : i = k
    · subst e; rfl
    · rw [← lrun_out_pre hs l i k (by omega)]
      have hl := lrun_len (b := b) hs l k
      show gi (lstep size b (lrun size b l k) (gi l k)).out i = _
      rw [lstep_out]
      exact gi_app (by omega)
theorem lrun_out {size b : Int} (hs : 1 ≤ size) (l : List Int) {i k : Nat} (h : i < k) : gi (lrun size b l k).out i = if gi l i ∈ (lrun size b l i).act ∨ gi l i ∈ (lrun size b l i).ina then -1 else distL (lrun size b l i).gone (gi l i) := by
  rw [lrun_out_pre hs l i k h]
  show gi (lstep size b (lrun size b l i) (gi l i)).out i = _
  rw [lstep_out]
  have := lrun_len (b := b) hs l i
  have h2 := gi_last (l := (lrun size b l i).out) (x := if gi l i ∈ (lrun size b l i).act ∨ gi l i ∈ (lrun size b l i).ina then -1 else distL (lrun size b l i).gone (gi l i))
  rw [this] at h2
  exact h2

/-- With the bound 0 there is one list alone, in the order of the last uses. -/
structure Lru (n : Int) (l : List Int) (k : Nat) (s : LS) : Prop where
  act : s.act = []
  tail : ∃ A, ddl (l.take k) = A ++ s.ina ∧ (A = [] ∨ (s.ina.length : Int) = n)
  cap : (s.ina.length : Int) ≤ n
  all : ∀ y, y ∈ l.take k ↔ y ∈ s.ina ∨ y ∈ s.gone

theorem lru_step {n : Int} (hn : 1 ≤ n) {l : List Int} {k : Nat} (hk : k < l.length) {s : LS} (h : Lru n l k s) : Lru n l (k + 1) (lstep n 0 s (gi l k)) := by
  obtain ⟨q, act, gone, out⟩ := s
  obtain ⟨h1, ⟨A, hA, hA2⟩, h3, h4⟩ := h
  simp only at h1 hA hA2 h3 h4
  subst h1
  have hd := ddl_nodup (l.take k)
  rw [hA] at hd
  obtain ⟨n1, n2, n3⟩ := List.nodup_append.1 hd
  have ht := take_succ_gi hk
  obtain ⟨p, hp⟩ : ∃ p, p = gi l k := ⟨_, rfl⟩
  rw [← hp] at ht ⊢
  have hs := ddl_snoc p (l.take k)
  rw [← ht, hA, wo_app] at hs
  unfold lstep
  rw [if_neg (show ¬ p ∈ ([] : List Int) by simp)]
  by_cases hq : p ∈ q
  · rw [if_pos hq]
    have hpA : p ∉ A := fun h => n3 p h p hq rfl
    rw [wo_not hpA] at hs
    have hl := wo_length n2 hq
    refine ⟨?_, ⟨A, ?_, ?_⟩, ?_, fun y => ?_⟩
    · simp [actA]
    · simp [actI, gi, hs]
    · rcases hA2 with h | h
      · exact .inl h
      · right; simp [actI, gi]; omega
    · simp [actI, gi]; omega
    · rw [ht]
      simp only [actI, List.mem_append, List.mem_singleton, h4 y]
      simp [gi, wo_mem]
      constructor
      · rintro ((h | h) | rfl)
        · by_cases e : y = p
          · exact .inl (.inr e)
          · exact .inl (.inl ⟨h, e⟩)
        · exact .inr h
        · exact .inl (.inr rfl)
      · rintro ((h | rfl) | h)
        · exact .inl (.inl h.1)
        · exact .inl (.inl hq)
        · exact .inl (.inr h)
  · rw [if_neg hq]
    rw [wo_not hq] at hs
    have put : ∀ (d : Int) (t : LS), t.act = [] → putL' 0 d p t = { t with ina := t.ina ++ [p] } := by
      intro d t ht
      obtain ⟨ti, ta, tg, to⟩ := t
      simp only at ht
      subst ht
      unfold putL'
      split
      · simp [actI, actA, gi]
      · rfl
    by_cases hf : (q.length : Int) = n
    · cases q with
      | nil => simp at hf; omega
      | cons x r =>
        have hev : evL n ⟨x :: r, [], gone, out ++ [distL gone p]⟩ = ⟨r, [], gone ++ [x], out ++ [distL gone p]⟩ := by
          unfold evL
          simp only [List.length_nil, Int.ofNat_zero, Int.add_zero]
          rw [if_pos (by simpa using hf)]
          simp [gi]
        rw [hev, put _ _ rfl]
        refine ⟨rfl, ⟨wo A p ++ [x], by rw [hs]; simp, .inr (by simpa using hf)⟩, by simp at hf ⊢; omega, fun y => ?_⟩
        rw [ht]
        simp only [List.mem_append, h4 y, List.mem_cons, List.not_mem_nil, or_false]
        constructor
        · rintro (((rfl | h) | h) | h)
          · exact .inr (.inr rfl)
          · exact .inl (.inl h)
          · exact .inr (.inl h)
          · exact .inl (.inr h)
        · rintro ((h | h) | (h | rfl))
          · exact .inl (.inl (.inr h))
          · exact .inr h
          · exact .inl (.inr h)
          · exact .inl (.inl (.inl rfl))
    · have hev : evL n ⟨q, [], gone, out ++ [distL gone p]⟩ = ⟨q, [], gone, out ++ [distL gone p]⟩ := by
        unfold evL
        rw [if_neg (by simpa using hf)]
      rw [hev, put _ _ rfl]
      have hA0 : A = [] := by
        rcases hA2 with h | h
        · exact h
        · exact absurd h hf
      subst hA0
      refine ⟨rfl, ⟨[], by rw [hs]; simp [wo], .inl rfl⟩, by simp; omega, fun y => ?_⟩
      rw [ht]
      simp only [List.mem_append, List.mem_singleton, h4 y]
      constructor
      · rintro ((h | h) | h)
        · exact .inl (.inl h)
        · exact .inr h
        · exact .inl (.inr h)
      · rintro ((h | h) | h)
        · exact .inl (.inl h)
        · exact .inr h
        · exact .inl (.inr h)
theorem lru_run {n : Int} (hn : 1 ≤ n) (l : List Int) : ∀ k, k ≤ l.length → Lru n l k (lrun n 0 l k)
  | 0, _ => ⟨rfl, ⟨[], by simp [lrun, ddl], .inl rfl⟩, by simp [lrun]; omega, fun y => by simp [lrun]⟩
  | k + 1, h => lru_step hn (by omega) (lru_run hn l k (by omega))

theorem rec_none {n : Int} (hn : 1 ≤ n) {l : List Int} {i : Nat} (hi : i < l.length) (h : gi l i ∉ l.take i) : gi (lrun n 0 l l.length).out i = -2 := by
  have hL := lru_run hn l i (by omega)
  have h2 : ¬ (gi l i ∈ (lrun n 0 l i).ina ∨ gi l i ∈ (lrun n 0 l i).gone) := fun e => h ((hL.all _).2 e)
  rw [lrun_out hn l hi, hL.act, if_neg (by simp; exact fun e => h2 (.inl e))]
  exact distL_not.2 fun e => h2 (.inr e)
theorem rec_hit {n : Int} (hn : 1 ≤ n) {l : List Int} {i : Nat} (hi : i < l.length) {X W : List Int} (h : l.take i = X ++ gi l i :: W) (hW : gi l i ∉ W) :
    (gi (lrun n 0 l l.length).out i = -1 ↔ ((ddl W).length : Int) < n) ∧ gi (lrun n 0 l l.length).out i ≠ -2 := by
  have hL := lru_run hn l i (by omega)
  obtain ⟨p, hp⟩ : ∃ p, p = gi l i := ⟨_, rfl⟩
  rw [lrun_out hn l hi, hL.act]
  rw [← hp] at h hW ⊢
  obtain ⟨s, hs⟩ : ∃ s, s = lrun n 0 l i := ⟨_, rfl⟩
  rw [← hs] at hL ⊢
  obtain ⟨A, hA, hA2⟩ := hL.tail
  obtain ⟨C, hC⟩ := ddl_app (p :: W) X
  rw [← h, hA] at hC
  have hdW : ddl (p :: W) = p :: ddl W := by simp [ddl, hW]
  rw [hdW] at hC
  have hpW : p ∉ ddl W := fun h => hW (ddl_mem.1 h)
  have hin : p ∈ l.take i := by rw [h]; simp
  have hnd := ddl_nodup (l.take i)
  rw [hA] at hnd
  have n3 := (List.nodup_append.1 hnd).2.2
  have n2 := (List.nodup_append.1 hnd).2.1
  by_cases hq : p ∈ s.ina
  · rw [if_pos (.inr hq)]
    refine ⟨⟨fun _ => ?_, fun _ => rfl⟩, by omega⟩
    obtain ⟨q1, q2, e⟩ := List.append_of_mem hq
    rw [e] at n2 hC
    have hq2 : p ∉ q2 := (List.nodup_cons.1 (List.nodup_append.1 n2).2.1).1
    rw [← List.append_assoc] at hC
    have := cut_uniq hq2 hpW _ _ hC
    have hc := hL.cap
    rw [e] at hc
    rw [← this]
    simp at hc
    omega
  · rw [if_neg (by simp [hq])]
    have hpg : p ∈ s.gone := by
      rcases (hL.all p).1 hin with h | h
      · exact absurd h hq
      · exact h
    have := distL_rng hpg
    refine ⟨⟨fun e => by omega, fun hlt => ?_⟩, by omega⟩
    exfalso
    have hpA : p ∈ A := by
      have : p ∈ A ++ s.ina := by rw [hC]; simp
      rcases List.mem_append.1 this with h | h
      · exact h
      · exact absurd h hq
    obtain ⟨a1, a2, e⟩ := List.append_of_mem hpA
    have hnA : A ≠ [] := by rw [e]; simp
    have hln : (s.ina.length : Int) = n := by
      rcases hA2 with h | h
      · exact absurd h hnA
      · exact h
    rw [e, List.append_assoc, List.cons_append] at hC
    have n1 := (List.nodup_append.1 hnd).1
    rw [e] at n1
    have ha2 : p ∉ a2 := (List.nodup_cons.1 (List.nodup_append.1 n1).2.1).1
    have := cut_uniq (b := a2 ++ s.ina) (by simp [ha2, hq]) hpW _ _ hC
    rw [← this] at hlt
    simp at hlt
    omega
end Go.AM
