/- Rmap: Add, Remove, Drop. -/
import Derived.Test.YtallcianhjejiaaRm8
set_option linter.all false

namespace Go.AM
open Go Go.Proofs

/-! In plain words: where a mapping lies in a list in order. -/
theorem chkO_cons {x : Mp} {r : List Mp} (h : chkO (x :: r)) : chkO r := fun i hi => by
  have := h (i + 1) (by simpa using hi)
  simpa [gm] using this
theorem chkO_head {x : Mp} {r : List Mp} (h : chkO (x :: r)) : ∀ y ∈ r, ltM x y := fun y hy => by
  obtain ⟨j, hj, rfl⟩ := List.getElem_of_mem hy
  have := chkO_lt h (i := 0) (j := j + 1) (by omega) (by simpa using hj)
  rw [gm_eq (by simp), gm_eq (by simpa using hj)] at this
  simpa using this
theorem lowM_cons (x : Mp) (r : List Mp) (m : Mp) : lowM (x :: r) m = lowM r m + if ltM x m then 1 else 0 := by
  unfold lowM
  rw [List.countP_cons]
  simp
theorem lowM_le (l : List Mp) (m : Mp) : lowM l m ≤ l.length := List.countP_le_length
theorem ins_low : ∀ {l : List Mp} (m : Mp), chkO l → m ∉ l → l.take (lowM l m) ++ m :: l.drop (lowM l m) = insR l m
  | [], m, _, _ => rfl
  | x :: r, m, h, hm => by
    have hm' : m ≠ x ∧ m ∉ r := by simpa using hm
    rw [lowM_cons]
    simp only [insR]
    rcases ltM_tri m x with h1 | h1 | h1
    · rw [if_pos h1]
      have h2 : ¬ ltM x m := fun h2 => ltM_irr _ (ltM_trans h1 h2)
      rw [if_neg h2]
      have h3 : lowM r m = 0 := by
        unfold lowM
        rw [List.countP_eq_zero]
        intro y hy
        have := ltM_trans h1 (chkO_head h y hy)
        simp only [decide_eq_true_eq]
        exact fun h4 => ltM_irr _ (ltM_trans this h4)
      rw [h3]; rfl
    · exact absurd h1 hm'.1
    · have h2 : ¬ ltM m x := fun h2 => ltM_irr _ (ltM_trans h1 h2)
      rw [if_neg h2, if_pos h1, ← ins_low m (chkO_cons h) hm'.2]
      rfl
theorem del_low : ∀ {l : List Mp} (m : Mp), chkO l → m ∈ l → l.take (lowM l m) ++ l.drop (lowM l m + 1) = delM l m ∧ lowM l m < l.length
  | [], m, _, h => by simp at h
  | x :: r, m, h, hm => by
    rw [lowM_cons]
    by_cases e : x = m
    · subst e
      rw [if_neg (ltM_irr _)]
      have h3 : lowM r x = 0 := by
        unfold lowM
        rw [List.countP_eq_zero]
        intro y hy
        have := chkO_head h y hy
        simp only [decide_eq_true_eq]
        exact fun h4 => ltM_irr _ (ltM_trans this h4)
      rw [h3]
      refine ⟨?_, by simp⟩
      show r = _
      unfold delM
      rw [List.filter_cons]
      simp only [decide_true, Bool.not_true, Bool.false_eq_true, if_false]
      rw [eq_comm, List.filter_eq_self]
      intro y hy
      have h5 : ¬ y = x := fun e => by
        have := chkO_head h y hy
        rw [e] at this; exact ltM_irr _ this
      simp [h5]
    · have hm' : m ∈ r := by
        rcases List.mem_cons.1 hm with h1 | h1
        · exact absurd h1.symm e
        · exact h1
      have h1 := chkO_head h m hm'
      rw [if_pos h1]
      obtain ⟨ih, hl⟩ := del_low m (chkO_cons h) hm'
      refine ⟨?_, by simp; exact hl⟩
      unfold delM at ih ⊢
      rw [List.filter_cons]
      simp only [e, decide_false, Bool.not_false, if_true]
      rw [← ih]; rfl

def two2 (_ : Nat) : Nat := 2
noncomputable def F29 : List AV → Option AV := specF (ι := {x : List Mp × Mp // x.1.length ≤ 1000000 ∧ chkO x.1}) (fun x => [.rd 2 (prows x.1.1), Mv x.1.2, .fn 27 []]) fun x => retOf [I (lowM x.1.1 x.1.2), B (decide (x.1.2 ∈ x.1.1))]
theorem F29_at (l : List Mp) (a b : Int) (h : l.length ≤ 1000000 ∧ chkO l) : F29 [.rd 2 (prows l), .agg [I a, I b], .fn 27 []] = some (.tup [I (lowM l (a, b)), B (decide ((a, b) ∈ l))]) :=
  specF_eq (ι := {x : List Mp × Mp // x.1.length ≤ 1000000 ∧ chkO x.1}) (A := fun x => [.rd 2 (prows x.1.1), Mv x.1.2, .fn 27 []]) (R := fun x => retOf [I (lowM x.1.1 x.1.2), B (decide (x.1.2 ∈ x.1.1))]) ⟨(l, (a, b)), h⟩ (by
    rintro ⟨⟨k, c⟩, h⟩ e
    simp [prows_inj, Mv_inj] at e
    obtain ⟨rfl, rfl⟩ := e; rfl)
noncomputable def F31 : List AV → Option AV := specF (ι := {x : List Mp // x.length ≤ 1000000}) (fun x => [.rd 2 (prows x.1)]) fun x => retOf [.ow 2 (prows x.1)]
theorem F31_at (l : List Mp) (h : l.length ≤ 1000000) : F31 [.rd 2 (prows l)] = some (.ow 2 (prows l)) :=
  specF_eq (ι := {x : List Mp // x.length ≤ 1000000}) (A := fun x => [.rd 2 (prows x.1)]) (R := fun x => retOf [.ow 2 (prows x.1)]) ⟨l, h⟩ (by
    rintro ⟨k, h⟩ e
    simp [prows_inj] at e
    subst e; rfl)
noncomputable def F30 : AV → List AV → Option (AV × AV) := specM (ι := {x : List Mp × Nat × Mp // x.2.1 ≤ x.1.length ∧ x.1.length ≤ 1000000}) (fun x => .ow 2 (prows x.1.1)) (fun x => [I x.1.2.1, .rd 2 (prows [x.1.2.2])]) (fun x => retOf [.ow 2 (prows (x.1.1.take x.1.2.1 ++ x.1.2.2 :: x.1.1.drop x.1.2.1))]) fun _ => .any
theorem F30_at (l : List Mp) (i : Nat) (a b : Int) (h : i ≤ l.length ∧ l.length ≤ 1000000) : F30 (.ow 2 (prows l)) [I i, .rd 2 [[I a, I b]]] = some (.ow 2 (prows (l.take i ++ (a, b) :: l.drop i)), .any) :=
  specM_eq (A0 := fun x : {x : List Mp × Nat × Mp // x.2.1 ≤ x.1.length ∧ x.1.length ≤ 1000000} => AV.ow 2 (prows x.1.1)) (A := fun x => [I x.1.2.1, .rd 2 (prows [x.1.2.2])]) (R := fun x => retOf [.ow 2 (prows (x.1.1.take x.1.2.1 ++ x.1.2.2 :: x.1.1.drop x.1.2.1))]) (O := fun _ => .any) ⟨(l, i, (a, b)), h⟩ (by
    rintro ⟨⟨l', i', x'⟩, h1, h2⟩ e1 e2
    simp only [AV.ow.injEq, prows_inj, true_and] at e1
    simp only [List.cons.injEq, AV.v.injEq, Value.int.injEq, true_and, AV.rd.injEq, prows_inj, and_true, Int.ofNat_inj] at e2
    obtain ⟨rfl, rfl⟩ := e2
    subst e1
    exact ⟨rfl, rfl⟩)
noncomputable def F37 : AV → List AV → Option (AV × AV) := specM (ι := {x : List Mp × Nat × Nat // x.2.1 ≤ x.2.2 ∧ x.2.2 ≤ x.1.length ∧ x.1.length ≤ 1000000}) (fun x => .ow 2 (prows x.1.1)) (fun x => [I x.1.2.1, I x.1.2.2]) (fun x => retOf [.ow 2 (prows (x.1.1.take x.1.2.1 ++ x.1.1.drop x.1.2.2))]) fun _ => .any
theorem F37_at (l : List Mp) (i j : Nat) (h : i ≤ j ∧ j ≤ l.length ∧ l.length ≤ 1000000) : F37 (.ow 2 (prows l)) [I i, I j] = some (.ow 2 (prows (l.take i ++ l.drop j)), .any) :=
  specM_eq (A0 := fun x : {x : List Mp × Nat × Nat // x.2.1 ≤ x.2.2 ∧ x.2.2 ≤ x.1.length ∧ x.1.length ≤ 1000000} => AV.ow 2 (prows x.1.1)) (A := fun x => [I x.1.2.1, I x.1.2.2]) (R := fun x => retOf [.ow 2 (prows (x.1.1.take x.1.2.1 ++ x.1.1.drop x.1.2.2))]) (O := fun _ => .any) ⟨(l, i, j), h⟩ (by
    rintro ⟨⟨l', i', j'⟩, h1, h2⟩ e1 e2
    simp only [AV.ow.injEq, prows_inj, true_and] at e1
    simp only [List.cons.injEq, AV.v.injEq, Value.int.injEq, true_and, and_true, Int.ofNat_inj] at e2
    obtain ⟨rfl, rfl⟩ := e2
    subst e1
    exact ⟨rfl, rfl⟩)
noncomputable def F32 : AV → List AV → Option (AV × AV) := specM (ι := {x : List Mp × Int // x.1.length ≤ 1000000}) (fun x => .ow 2 (prows x.1.1)) (fun x => [fnA (some x.1.2)]) (fun x => retOf [.ow 2 (prows (dropM x.1.1 x.1.2))]) fun _ => .any
theorem F32_at (l : List Mp) (s : Int) (h : l.length ≤ 1000000) : F32 (.ow 2 (prows l)) [.fn 33 [.rp [I s]]] = some (.ow 2 (prows (dropM l s)), .any) :=
  specM_eq (A0 := fun x : {x : List Mp × Int // x.1.length ≤ 1000000} => AV.ow 2 (prows x.1.1)) (A := fun x => [fnA (some x.1.2)]) (R := fun x => retOf [.ow 2 (prows (dropM x.1.1 x.1.2))]) (O := fun _ => .any) ⟨(l, s), h⟩ (by
    rintro ⟨⟨l', s'⟩, h1⟩ e1 e2
    simp only [AV.ow.injEq, prows_inj, true_and] at e1
    simp only [List.cons.injEq, and_true, fnA_inj, Option.some.injEq] at e2
    subst e1 e2
    exact ⟨rfl, rfl⟩)

structure RmX (X : AX) : Prop where
  ok : XOK Try.prog X
  w : X.W wT
  eq : X.eqs 24 = true
  h26 : ∀ a b M n, X.call 26 [.agg [I a, I b]] M n = some (B (decide (valM (a, b))), [])
  h10 : X.call 10 = callP F9
  h29 : X.call 29 = callP F29
  h31 : X.call 31 = callP F31
  h30 : X.call 30 = callM false two2 F30
  h37 : X.call 37 = callM false two2 F37
  h32 : X.call 32 = callM false two2 F32

theorem s13 (X : AX) (L : RmX X) :
    PSound Try.prog 13 (specF (ι := {x : List Mp × Mp // x.1.length ≤ 1000000}) (fun x => [.rd 2 (prows x.1.1), Mv x.1.2]) fun x => retOf [.ow 2 (prows (addR x.1.1 x.1.2).1), I (addR x.1.1 x.1.2).2]) := by
  have hX := L.ok
  have hw := L.w
  refine psound_spec hX mixed Try.func13 rfl fun ⟨⟨l, a, b⟩, hl⟩ w0 G => ⟨by show 2 ≤ 30; decide, rfl, ?_⟩
  show AW ⟨Try.prog, X, 30, w0, .pure G⟩ _ _ _
  have hc : Cx.OK ⟨Try.prog, X, 30, w0, .pure G⟩ := ⟨hX, mixed⟩
  simp only at hl ⊢
  unfold Mv addR
  simp only
  have hF := F9_at l hl
  rcases Decidable.em (chk l = 0) with h0 | h0
  · rw [if_pos h0]
    rw [h0] at hF
    have hO := (chk_zero.1 h0).2
    have hG := F29_at l a b ⟨hl, hO⟩
    rcases Decidable.em (valM (a, b)) with hv | hv
    · rw [if_pos hv]
      rcases Decidable.em ((a, b) ∈ l) with hm | hm
      · rw [if_pos hm]
        simp only [hm, decide_true] at hG
        repeat' (first | (apply aw_seq_k; intro K hK) | (refine aw_run hc (by first | exact aw_nod | (intro _; rw [ordB_w hw]; kernel_rfl) | (intro _; rw [ordB_w0 hw0]; kernel_rfl) | (intro _; kernel_rfl)) ?_; simp [List.zipIdx, L.h10, hF, L.h26, L.h29, hG, hv, -getM, getM_hit, getM_miss, getM_none]; (repeat (simp (disch := first | omega | assumption | fail) only [if_pos, if_neg, wrap64]; try simp [List.zipIdx, L.h10, hF, L.h26, L.h29, hG, hv, -getM, getM_hit, getM_miss, getM_none])); try (repeat' (refine guardQ_split (fun h => ?_) (fun h => ?_) <;> simp at h <;> (simp [List.zipIdx, L.h10, hF, L.h26, L.h29, hG, hv, -getM, getM_hit, getM_miss, getM_none]; (repeat (simp (disch := first | omega | assumption | fail) only [if_pos, if_neg, wrap64]; try simp [List.zipIdx, L.h10, hF, L.h26, L.h29, hG, hv, -getM, getM_hit, getM_miss, getM_none])))))) | (refine aw_cond (b := _) (by exact rfl) (fun h => ?_) (fun h => ?_) <;> (try simp at h)) | (refine aw_block ?_) | (refine aw_skip ?_; simp only [thenQ, blockQ, if_true]) | (refine aw_exit ?_; simp [thenQ, blockQ]) | (refine aw_ret ?_; simp only [thenQ, blockQ]) | (refine aw_round ?_) | (refine hK _ ?_; clear hK) | (clear hK; refine hK _ ?_; clear hK) | (clear hK; clear hK; refine hK _ ?_; clear hK) | (clear hK; clear hK; clear hK; refine hK _ ?_; clear hK))
        refine ⟨by simp, ?_⟩
        simp [leaves_iff, Try.f13, prows_nil]
        try (first | omega | (refine decide_eq_decide.2 ?_; omega) | (refine decide_eq_false ?_; omega) | (refine decide_eq_true ?_; omega))
      · rw [if_neg hm]
        simp only [hm, decide_false] at hG
        have hI := ins_low (a, b) hO hm
        have hle := lowM_le l (a, b)
        obtain ⟨i, hi⟩ : ∃ i, i = lowM l (a, b) := ⟨_, rfl⟩
        rw [← hi] at hG hI hle
        have hC := F31_at l hl
        have hN := F30_at l i a b ⟨hle, hl⟩
        rw [hI] at hN
        repeat' (first | (apply aw_seq_k; intro K hK) | (refine aw_run hc (by first | exact aw_nod | (intro _; rw [ordB_w hw]; kernel_rfl) | (intro _; rw [ordB_w0 hw0]; kernel_rfl) | (intro _; kernel_rfl)) ?_; simp [List.zipIdx, L.h10, hF, L.h26, L.h29, L.h31, L.h30, hC, hN, hG, hv, tkM, two2, -getM, getM_hit, getM_miss, getM_none]; (repeat (simp (disch := first | omega | assumption | fail) only [if_pos, if_neg, wrap64]; try simp [List.zipIdx, L.h10, hF, L.h26, L.h29, L.h31, L.h30, hC, hN, hG, hv, tkM, two2, -getM, getM_hit, getM_miss, getM_none])); try (repeat' (refine guardQ_split (fun h => ?_) (fun h => ?_) <;> simp at h <;> (simp [List.zipIdx, L.h10, hF, L.h26, L.h29, L.h31, L.h30, hC, hN, hG, hv, tkM, two2, -getM, getM_hit, getM_miss, getM_none]; (repeat (simp (disch := first | omega | assumption | fail) only [if_pos, if_neg, wrap64]; try simp [List.zipIdx, L.h10, hF, L.h26, L.h29, L.h31, L.h30, hC, hN, hG, hv, tkM, two2, -getM, getM_hit, getM_miss, getM_none])))))) | (refine aw_cond (b := _) (by exact rfl) (fun h => ?_) (fun h => ?_) <;> (try simp at h)) | (refine aw_block ?_) | (refine aw_skip ?_; simp only [thenQ, blockQ, if_true]) | (refine aw_exit ?_; simp [thenQ, blockQ]) | (refine aw_ret ?_; simp only [thenQ, blockQ]) | (refine aw_round ?_) | (refine hK _ ?_; clear hK) | (clear hK; refine hK _ ?_; clear hK) | (clear hK; clear hK; refine hK _ ?_; clear hK) | (clear hK; clear hK; clear hK; refine hK _ ?_; clear hK))
        refine ⟨by simp, ?_⟩
        simp [leaves_iff, Try.f13]
        try (first | omega | (refine decide_eq_decide.2 ?_; omega) | (refine decide_eq_false ?_; omega) | (refine decide_eq_true ?_; omega))
    · rw [if_neg hv]
      repeat' (first | (apply aw_seq_k; intro K hK) | (refine aw_run hc (by first | exact aw_nod | (intro _; rw [ordB_w hw]; kernel_rfl) | (intro _; rw [ordB_w0 hw0]; kernel_rfl) | (intro _; kernel_rfl)) ?_; simp [List.zipIdx, L.h10, hF, L.h26, hv, -getM, getM_hit, getM_miss, getM_none]; (repeat (simp (disch := first | omega | assumption | fail) only [if_pos, if_neg, wrap64]; try simp [List.zipIdx, L.h10, hF, L.h26, hv, -getM, getM_hit, getM_miss, getM_none])); try (repeat' (refine guardQ_split (fun h => ?_) (fun h => ?_) <;> simp at h <;> (simp [List.zipIdx, L.h10, hF, L.h26, hv, -getM, getM_hit, getM_miss, getM_none]; (repeat (simp (disch := first | omega | assumption | fail) only [if_pos, if_neg, wrap64]; try simp [List.zipIdx, L.h10, hF, L.h26, hv, -getM, getM_hit, getM_miss, getM_none])))))) | (refine aw_cond (b := _) (by exact rfl) (fun h => ?_) (fun h => ?_) <;> (try simp at h)) | (refine aw_block ?_) | (refine aw_skip ?_; simp only [thenQ, blockQ, if_true]) | (refine aw_exit ?_; simp [thenQ, blockQ]) | (refine aw_ret ?_; simp only [thenQ, blockQ]) | (refine aw_round ?_) | (refine hK _ ?_; clear hK) | (clear hK; refine hK _ ?_; clear hK) | (clear hK; clear hK; refine hK _ ?_; clear hK) | (clear hK; clear hK; clear hK; refine hK _ ?_; clear hK))
      refine ⟨by simp, ?_⟩
      simp [leaves_iff, Try.f13, prows_nil]
      try (first | omega | (refine decide_eq_decide.2 ?_; omega) | (refine decide_eq_false ?_; omega) | (refine decide_eq_true ?_; omega))
  · rw [if_neg h0]
    obtain ⟨c, hcc⟩ : ∃ c, c = chk l := ⟨_, rfl⟩
    rw [← hcc] at hF h0 ⊢
    repeat' (first | (apply aw_seq_k; intro K hK) | (refine aw_run hc (by first | exact aw_nod | (intro _; rw [ordB_w hw]; kernel_rfl) | (intro _; rw [ordB_w0 hw0]; kernel_rfl) | (intro _; kernel_rfl)) ?_; simp [List.zipIdx, L.h10, hF, h0, -getM, getM_hit, getM_miss, getM_none]; (repeat (simp (disch := first | omega | assumption | fail) only [if_pos, if_neg, wrap64]; try simp [List.zipIdx, L.h10, hF, h0, -getM, getM_hit, getM_miss, getM_none])); try (repeat' (refine guardQ_split (fun h => ?_) (fun h => ?_) <;> simp at h <;> (simp [List.zipIdx, L.h10, hF, h0, -getM, getM_hit, getM_miss, getM_none]; (repeat (simp (disch := first | omega | assumption | fail) only [if_pos, if_neg, wrap64]; try simp [List.zipIdx, L.h10, hF, h0, -getM, getM_hit, getM_miss, getM_none])))))) | (refine aw_cond (b := _) (by exact rfl) (fun h => ?_) (fun h => ?_) <;> (try simp at h)) | (refine aw_block ?_) | (refine aw_skip ?_; simp only [thenQ, blockQ, if_true]) | (refine aw_exit ?_; simp [thenQ, blockQ]) | (refine aw_ret ?_; simp only [thenQ, blockQ]) | (refine aw_round ?_) | (refine hK _ ?_; clear hK) | (clear hK; refine hK _ ?_; clear hK) | (clear hK; clear hK; refine hK _ ?_; clear hK) | (clear hK; clear hK; clear hK; refine hK _ ?_; clear hK))
    refine ⟨by simp, ?_⟩
    simp [leaves_iff, Try.f13, prows_nil]
    try (first | omega | (refine decide_eq_decide.2 ?_; omega) | (refine decide_eq_false ?_; omega) | (refine decide_eq_true ?_; omega))

theorem s20 (X : AX) (L : RmX X) :
    PSound Try.prog 20 (specF (ι := {x : List Mp × Mp // x.1.length ≤ 1000000}) (fun x => [.rd 2 (prows x.1.1), Mv x.1.2]) fun x => retOf [.ow 2 (prows (remR x.1.1 x.1.2).1), I (remR x.1.1 x.1.2).2]) := by
  have hX := L.ok
  have hw := L.w
  refine psound_spec hX mixed Try.func20 rfl fun ⟨⟨l, a, b⟩, hl⟩ w0 G => ⟨by show 2 ≤ 28; decide, rfl, ?_⟩
  show AW ⟨Try.prog, X, 28, w0, .pure G⟩ _ _ _
  have hc : Cx.OK ⟨Try.prog, X, 28, w0, .pure G⟩ := ⟨hX, mixed⟩
  simp only at hl ⊢
  unfold Mv remR
  simp only
  have hF := F9_at l hl
  rcases Decidable.em (chk l = 0) with h0 | h0
  · rw [if_pos h0]
    rw [h0] at hF
    have hO := (chk_zero.1 h0).2
    have hG := F29_at l a b ⟨hl, hO⟩
    rcases Decidable.em ((a, b) ∈ l) with hm | hm
    · rw [if_pos hm]
      simp only [hm, decide_true] at hG
      obtain ⟨hI, hle⟩ := del_low (a, b) hO hm
      obtain ⟨i, hi⟩ : ∃ i, i = lowM l (a, b) := ⟨_, rfl⟩
      rw [← hi] at hG hI hle
      have hC := F31_at l hl
      have hN := F37_at l i (i + 1) ⟨by omega, by omega, hl⟩
      rw [hI] at hN
      have hiI : (i : Int) ≤ 1000000 := by omega
      have hN' : F37 (.ow 2 (prows l)) [I i, I ((i : Int) + 1)] = some (.ow 2 (prows (delM l (a, b))), .any) := hN
      repeat' (first | (apply aw_seq_k; intro K hK) | (refine aw_run hc (by first | exact aw_nod | (intro _; rw [ordB_w hw]; kernel_rfl) | (intro _; rw [ordB_w0 hw0]; kernel_rfl) | (intro _; kernel_rfl)) ?_; simp [List.zipIdx, L.h10, hF, L.h29, L.h31, L.h37, hC, hN', hG, tkM, two2, -getM, getM_hit, getM_miss, getM_none]; (repeat (simp (disch := first | omega | assumption | fail) only [if_pos, if_neg, wrap64]; try simp [List.zipIdx, L.h10, hF, L.h29, L.h31, L.h37, hC, hN', hG, tkM, two2, -getM, getM_hit, getM_miss, getM_none])); try (repeat' (refine guardQ_split (fun h => ?_) (fun h => ?_) <;> simp at h <;> (simp [List.zipIdx, L.h10, hF, L.h29, L.h31, L.h37, hC, hN', hG, tkM, two2, -getM, getM_hit, getM_miss, getM_none]; (repeat (simp (disch := first | omega | assumption | fail) only [if_pos, if_neg, wrap64]; try simp [List.zipIdx, L.h10, hF, L.h29, L.h31, L.h37, hC, hN', hG, tkM, two2, -getM, getM_hit, getM_miss, getM_none])))))) | (refine aw_cond (b := _) (by exact rfl) (fun h => ?_) (fun h => ?_) <;> (try simp at h)) | (refine aw_block ?_) | (refine aw_skip ?_; simp only [thenQ, blockQ, if_true]) | (refine aw_exit ?_; simp [thenQ, blockQ]) | (refine aw_ret ?_; simp only [thenQ, blockQ]) | (refine aw_round ?_) | (refine hK _ ?_; clear hK) | (clear hK; refine hK _ ?_; clear hK) | (clear hK; clear hK; refine hK _ ?_; clear hK) | (clear hK; clear hK; clear hK; refine hK _ ?_; clear hK))
      refine ⟨by simp, ?_⟩
      simp [leaves_iff, Try.f20]
      try (first | omega | (refine decide_eq_decide.2 ?_; omega) | (refine decide_eq_false ?_; omega) | (refine decide_eq_true ?_; omega))
    · rw [if_neg hm]
      simp only [hm, decide_false] at hG
      repeat' (first | (apply aw_seq_k; intro K hK) | (refine aw_run hc (by first | exact aw_nod | (intro _; rw [ordB_w hw]; kernel_rfl) | (intro _; rw [ordB_w0 hw0]; kernel_rfl) | (intro _; kernel_rfl)) ?_; simp [List.zipIdx, L.h10, hF, L.h29, hG, -getM, getM_hit, getM_miss, getM_none]; (repeat (simp (disch := first | omega | assumption | fail) only [if_pos, if_neg, wrap64]; try simp [List.zipIdx, L.h10, hF, L.h29, hG, -getM, getM_hit, getM_miss, getM_none])); try (repeat' (refine guardQ_split (fun h => ?_) (fun h => ?_) <;> simp at h <;> (simp [List.zipIdx, L.h10, hF, L.h29, hG, -getM, getM_hit, getM_miss, getM_none]; (repeat (simp (disch := first | omega | assumption | fail) only [if_pos, if_neg, wrap64]; try simp [List.zipIdx, L.h10, hF, L.h29, hG, -getM, getM_hit, getM_miss, getM_none])))))) | (refine aw_cond (b := _) (by exact rfl) (fun h => ?_) (fun h => ?_) <;> (try simp at h)) | (refine aw_block ?_) | (refine aw_skip ?_; simp only [thenQ, blockQ, if_true]) | (refine aw_exit ?_; simp [thenQ, blockQ]) | (refine aw_ret ?_; simp only [thenQ, blockQ]) | (refine aw_round ?_) | (refine hK _ ?_; clear hK) | (clear hK; refine hK _ ?_; clear hK) | (clear hK; clear hK; refine hK _ ?_; clear hK) | (clear hK; clear hK; clear hK; refine hK _ ?_; clear hK))
      refine ⟨by simp, ?_⟩
      simp [leaves_iff, Try.f20, prows_nil]
      try (first | omega | (refine decide_eq_decide.2 ?_; omega) | (refine decide_eq_false ?_; omega) | (refine decide_eq_true ?_; omega))
  · rw [if_neg h0]
    obtain ⟨c, hcc⟩ : ∃ c, c = chk l := ⟨_, rfl⟩
    rw [← hcc] at hF h0 ⊢
    repeat' (first | (apply aw_seq_k; intro K hK) | (refine aw_run hc (by first | exact aw_nod | (intro _; rw [ordB_w hw]; kernel_rfl) | (intro _; rw [ordB_w0 hw0]; kernel_rfl) | (intro _; kernel_rfl)) ?_; simp [List.zipIdx, L.h10, hF, h0, -getM, getM_hit, getM_miss, getM_none]; (repeat (simp (disch := first | omega | assumption | fail) only [if_pos, if_neg, wrap64]; try simp [List.zipIdx, L.h10, hF, h0, -getM, getM_hit, getM_miss, getM_none])); try (repeat' (refine guardQ_split (fun h => ?_) (fun h => ?_) <;> simp at h <;> (simp [List.zipIdx, L.h10, hF, h0, -getM, getM_hit, getM_miss, getM_none]; (repeat (simp (disch := first | omega | assumption | fail) only [if_pos, if_neg, wrap64]; try simp [List.zipIdx, L.h10, hF, h0, -getM, getM_hit, getM_miss, getM_none])))))) | (refine aw_cond (b := _) (by exact rfl) (fun h => ?_) (fun h => ?_) <;> (try simp at h)) | (refine aw_block ?_) | (refine aw_skip ?_; simp only [thenQ, blockQ, if_true]) | (refine aw_exit ?_; simp [thenQ, blockQ]) | (refine aw_ret ?_; simp only [thenQ, blockQ]) | (refine aw_round ?_) | (refine hK _ ?_; clear hK) | (clear hK; refine hK _ ?_; clear hK) | (clear hK; clear hK; refine hK _ ?_; clear hK) | (clear hK; clear hK; clear hK; refine hK _ ?_; clear hK))
    refine ⟨by simp, ?_⟩
    simp [leaves_iff, Try.f20, prows_nil]
    try (first | omega | (refine decide_eq_decide.2 ?_; omega) | (refine decide_eq_false ?_; omega) | (refine decide_eq_true ?_; omega))

theorem s14 (X : AX) (L : RmX X) :
    PSound Try.prog 14 (specF (ι := {x : List Mp × Int // x.1.length ≤ 1000000}) (fun x => [.rd 2 (prows x.1.1), I x.1.2]) fun x => retOf [.ow 2 (prows (dropR x.1.1 x.1.2))]) := by
  have hX := L.ok
  have hw := L.w
  refine psound_spec hX mixed Try.func14 rfl fun ⟨⟨l, s⟩, hl⟩ w0 G => ⟨by show 2 ≤ 12; decide, rfl, ?_⟩
  show AW ⟨Try.prog, X, 12, w0, .pure G⟩ _ _ _
  have hc : Cx.OK ⟨Try.prog, X, 12, w0, .pure G⟩ := ⟨hX, mixed⟩
  simp only at hl ⊢
  unfold dropR
  have hF := F9_at l hl
  rcases Decidable.em (chk l = 0) with h0 | h0
  · rw [if_pos h0]
    rw [h0] at hF
    have hC := F31_at l hl
    have hN := F32_at l s hl
    repeat' (first | (apply aw_seq_k; intro K hK) | (refine aw_run hc (by first | exact aw_nod | (intro _; rw [ordB_w hw]; kernel_rfl) | (intro _; rw [ordB_w0 hw0]; kernel_rfl) | (intro _; kernel_rfl)) ?_; simp [List.zipIdx, L.h10, hF, L.h31, L.h32, hC, hN, tkM, two2, -getM, getM_hit, getM_miss, getM_none]; (repeat (simp (disch := first | omega | assumption | fail) only [if_pos, if_neg, wrap64]; try simp [List.zipIdx, L.h10, hF, L.h31, L.h32, hC, hN, tkM, two2, -getM, getM_hit, getM_miss, getM_none])); try (repeat' (refine guardQ_split (fun h => ?_) (fun h => ?_) <;> simp at h <;> (simp [List.zipIdx, L.h10, hF, L.h31, L.h32, hC, hN, tkM, two2, -getM, getM_hit, getM_miss, getM_none]; (repeat (simp (disch := first | omega | assumption | fail) only [if_pos, if_neg, wrap64]; try simp [List.zipIdx, L.h10, hF, L.h31, L.h32, hC, hN, tkM, two2, -getM, getM_hit, getM_miss, getM_none])))))) | (refine aw_cond (b := _) (by exact rfl) (fun h => ?_) (fun h => ?_) <;> (try simp at h)) | (refine aw_block ?_) | (refine aw_skip ?_; simp only [thenQ, blockQ, if_true]) | (refine aw_exit ?_; simp [thenQ, blockQ]) | (refine aw_ret ?_; simp only [thenQ, blockQ]) | (refine aw_round ?_) | (refine hK _ ?_; clear hK) | (clear hK; refine hK _ ?_; clear hK) | (clear hK; clear hK; refine hK _ ?_; clear hK) | (clear hK; clear hK; clear hK; refine hK _ ?_; clear hK))
    refine ⟨by simp, ?_⟩
    simp [leaves_iff, Try.f14]
    try (first | omega | (refine decide_eq_decide.2 ?_; omega) | (refine decide_eq_false ?_; omega) | (refine decide_eq_true ?_; omega))
  · rw [if_neg h0]
    obtain ⟨c, hcc⟩ : ∃ c, c = chk l := ⟨_, rfl⟩
    rw [← hcc] at hF h0
    repeat' (first | (apply aw_seq_k; intro K hK) | (refine aw_run hc (by first | exact aw_nod | (intro _; rw [ordB_w hw]; kernel_rfl) | (intro _; rw [ordB_w0 hw0]; kernel_rfl) | (intro _; kernel_rfl)) ?_; simp [List.zipIdx, L.h10, hF, h0, -getM, getM_hit, getM_miss, getM_none]; (repeat (simp (disch := first | omega | assumption | fail) only [if_pos, if_neg, wrap64]; try simp [List.zipIdx, L.h10, hF, h0, -getM, getM_hit, getM_miss, getM_none])); try (repeat' (refine guardQ_split (fun h => ?_) (fun h => ?_) <;> simp at h <;> (simp [List.zipIdx, L.h10, hF, h0, -getM, getM_hit, getM_miss, getM_none]; (repeat (simp (disch := first | omega | assumption | fail) only [if_pos, if_neg, wrap64]; try simp [List.zipIdx, L.h10, hF, h0, -getM, getM_hit, getM_miss, getM_none])))))) | (refine aw_cond (b := _) (by exact rfl) (fun h => ?_) (fun h => ?_) <;> (try simp at h)) | (refine aw_block ?_) | (refine aw_skip ?_; simp only [thenQ, blockQ, if_true]) | (refine aw_exit ?_; simp [thenQ, blockQ]) | (refine aw_ret ?_; simp only [thenQ, blockQ]) | (refine aw_round ?_) | (refine hK _ ?_; clear hK) | (clear hK; refine hK _ ?_; clear hK) | (clear hK; clear hK; refine hK _ ?_; clear hK) | (clear hK; clear hK; clear hK; refine hK _ ?_; clear hK))
    refine ⟨by simp, ?_⟩
    simp [leaves_iff, Try.f14, prows_nil]
    try (first | omega | (refine decide_eq_decide.2 ?_; omega) | (refine decide_eq_false ?_; omega) | (refine decide_eq_true ?_; omega))
end Go.AM
