/- Rmap: what the laws know of the functions; the fixed example; the laws Checks and Copies. -/
import Derived.Test.YtallcianhjejiaaRm11
set_option linter.all false

namespace Go.AM
open Go Go.Proofs

noncomputable def F13 : List AV → Option AV := specF (ι := {x : List Mp × Mp // x.1.length ≤ 1000000}) (fun x => [.rd 2 (prows x.1.1), Mv x.1.2]) fun x => retOf [.ow 2 (prows (addR x.1.1 x.1.2).1), I (addR x.1.1 x.1.2).2]
theorem F13_at (l : List Mp) (a b : Int) (h : l.length ≤ 1000000) : F13 [.rd 2 (prows l), .agg [I a, I b]] = some (.tup [.ow 2 (prows (addR l (a, b)).1), I (addR l (a, b)).2]) :=
  specF_eq (ι := {x : List Mp × Mp // x.1.length ≤ 1000000}) (A := fun x => [.rd 2 (prows x.1.1), Mv x.1.2]) (R := fun x => retOf [.ow 2 (prows (addR x.1.1 x.1.2).1), I (addR x.1.1 x.1.2).2]) ⟨(l, (a, b)), h⟩ (by
    rintro ⟨⟨k, c⟩, h⟩ e
    simp [prows_inj, Mv_inj] at e
    obtain ⟨rfl, rfl⟩ := e; rfl)
noncomputable def F20 : List AV → Option AV := specF (ι := {x : List Mp × Mp // x.1.length ≤ 1000000}) (fun x => [.rd 2 (prows x.1.1), Mv x.1.2]) fun x => retOf [.ow 2 (prows (remR x.1.1 x.1.2).1), I (remR x.1.1 x.1.2).2]
theorem F20_at (l : List Mp) (a b : Int) (h : l.length ≤ 1000000) : F20 [.rd 2 (prows l), .agg [I a, I b]] = some (.tup [.ow 2 (prows (remR l (a, b)).1), I (remR l (a, b)).2]) :=
  specF_eq (ι := {x : List Mp × Mp // x.1.length ≤ 1000000}) (A := fun x => [.rd 2 (prows x.1.1), Mv x.1.2]) (R := fun x => retOf [.ow 2 (prows (remR x.1.1 x.1.2).1), I (remR x.1.1 x.1.2).2]) ⟨(l, (a, b)), h⟩ (by
    rintro ⟨⟨k, c⟩, h⟩ e
    simp [prows_inj, Mv_inj] at e
    obtain ⟨rfl, rfl⟩ := e; rfl)
noncomputable def F14 : List AV → Option AV := specF (ι := {x : List Mp × Int // x.1.length ≤ 1000000}) (fun x => [.rd 2 (prows x.1.1), I x.1.2]) fun x => retOf [.ow 2 (prows (dropR x.1.1 x.1.2))]
theorem F14_at (l : List Mp) (s : Int) (h : l.length ≤ 1000000) : F14 [.rd 2 (prows l), I s] = some (.ow 2 (prows (dropR l s))) :=
  specF_eq (ι := {x : List Mp × Int // x.1.length ≤ 1000000}) (A := fun x => [.rd 2 (prows x.1.1), I x.1.2]) (R := fun x => retOf [.ow 2 (prows (dropR x.1.1 x.1.2))]) ⟨(l, s), h⟩ (by
    rintro ⟨⟨k, c⟩, h⟩ e
    simp [prows_inj] at e
    obtain ⟨rfl, rfl⟩ := e; rfl)
noncomputable def F15 : List AV → Option AV := specF (ι := {x : List Mp × Int × Int // x.1.length ≤ 400000}) (fun x => [.rd 2 (prows x.1.1), I x.1.2.1, I x.1.2.2]) fun x => retOf [.ow 2 (prows (cpyR x.1.1 x.1.2.1 x.1.2.2).1), I (cpyR x.1.1 x.1.2.1 x.1.2.2).2]
theorem F15_at (l : List Mp) (f t : Int) (h : l.length ≤ 400000) : F15 [.rd 2 (prows l), I f, I t] = some (.tup [.ow 2 (prows (cpyR l f t).1), I (cpyR l f t).2]) :=
  specF_eq (ι := {x : List Mp × Int × Int // x.1.length ≤ 400000}) (A := fun x => [.rd 2 (prows x.1.1), I x.1.2.1, I x.1.2.2]) (R := fun x => retOf [.ow 2 (prows (cpyR x.1.1 x.1.2.1 x.1.2.2).1), I (cpyR x.1.1 x.1.2.1 x.1.2.2).2]) ⟨(l, f, t), h⟩ (by
    rintro ⟨⟨k, c, d⟩, h⟩ e
    simp [prows_inj] at e
    obtain ⟨rfl, rfl, rfl⟩ := e; rfl)
noncomputable def F17 : List AV → Option AV := specF (ι := {x : List Mp × List Mp // x.1.length ≤ 1000000 ∧ x.2.length ≤ 1000000}) (fun x => [.rd 2 (prows x.1.1), .rd 2 (prows x.1.2)]) fun x => retOf [B (decide (x.1.1 = x.1.2))]
theorem F17_at (l k : List Mp) (h : l.length ≤ 1000000 ∧ k.length ≤ 1000000) : F17 [.rd 2 (prows l), .rd 2 (prows k)] = some (B (decide (l = k))) :=
  specF_eq (ι := {x : List Mp × List Mp // x.1.length ≤ 1000000 ∧ x.2.length ≤ 1000000}) (A := fun x => [.rd 2 (prows x.1.1), .rd 2 (prows x.1.2)]) (R := fun x => retOf [B (decide (x.1.1 = x.1.2))]) ⟨(l, k), h⟩ (by
    rintro ⟨⟨k, c⟩, h⟩ e
    simp [prows_inj] at e
    obtain ⟨rfl, rfl⟩ := e; rfl)

structure LawX (X : AX) : Prop where
  ok : XOK Try.prog X
  w : X.W wT
  eq : X.eqs 24 = true
  h9 : X.call 9 = callP F9
  h10 : X.call 10 = callP F9
  h11 : X.call 11 = callP F12
  h12 : X.call 12 = callP F12
  h13 : X.call 13 = callP F13
  h14 : X.call 14 = callP F14
  h15 : X.call 15 = callP F15
  h16 : X.call 16 = callP F15
  h17 : X.call 17 = callP F17
  h18 : X.call 18 = callP F14
  h19 : X.call 19 = callP F13
  h20 : X.call 20 = callP F20
  h21 : X.call 21 = callP F20

/-! The fixed example. -/
def l0 : List Mp := [(0, 9), (2, 3)]
def l1 : List Mp := [(0, 9), (1, 7), (2, 3)]
theorem chk_l0 : chk l0 = 0 := chk_z (by unfold chkV; decide +kernel) (by
  intro i hi
  have h : i = 0 := by simp [l0] at hi; omega
  subst h; decide +kernel)
theorem chk_l1 : chk l1 = 0 := chk_z (by unfold chkV; decide +kernel) (by
  intro i hi
  have h : i = 0 ∨ i = 1 := by simp [l1] at hi; omega
  rcases h with rfl | rfl <;> decide +kernel)
theorem ex1 : addR l0 (1, 7) = (l1, 0) := by
  unfold addR
  rw [if_pos chk_l0, if_pos (by decide +kernel), if_neg (by decide +kernel)]
  decide +kernel
theorem ex2 : addR l1 (1, 7) = ([], 7) := by
  unfold addR
  rw [if_pos chk_l1, if_pos (by decide +kernel), if_pos (by decide +kernel)]
theorem ex3 : cpyR l1 0 5 = ([(0, 9), (1, 7), (2, 3), (5, 9)], 0) := by
  rw [cpyR_z chk_l1 (by decide +kernel) (by
    rintro ⟨i, hi, h1, h2⟩
    have h : i = 0 ∨ i = 1 ∨ i = 2 := by simp [l1] at hi; omega
    rcases h with rfl | rfl | rfl <;> revert h1 h2 <;> decide +kernel)]
  decide +kernel
theorem ex4 : cpyR l1 0 0 = ([], 7) := cpyR_x chk_l1 (by decide +kernel) ⟨0, by decide +kernel, by decide +kernel, by decide +kernel⟩
theorem ex5 : dropR l1 1 = l0 := by
  unfold dropR
  rw [if_pos chk_l1]
  decide +kernel

set_option maxRecDepth 100000 in
set_option maxHeartbeats 1000000 in
theorem s8 (X : AX) (L : LawX X) : PSound Try.prog 8 (specF (ι := Unit) (fun _ => []) fun _ => retOf [B true]) := by
  have hX := L.ok
  have hw := L.w
  have he := L.eq
  have f1 := F13_at l0 1 7 (by decide)
  rw [ex1] at f1
  have f2 := F13_at l1 1 7 (by decide)
  rw [ex2] at f2
  have f3 := F15_at l1 0 5 (by decide)
  rw [ex3] at f3
  have f4 := F15_at l1 0 0 (by decide)
  rw [ex4] at f4
  have f5 := F14_at l1 1 (by decide)
  rw [ex5] at f5
  have f6 := F12_at l1 0 9 (by decide)
  rw [show decide (chk l1 = 0 ∧ ((0 : Int), (9 : Int)) ∈ l1) = true by rw [chk_l1]; decide +kernel] at f6
  have f7 := F12_at l0 1 7 (by decide)
  rw [show decide (chk l0 = 0 ∧ ((1 : Int), (7 : Int)) ∈ l0) = false by rw [chk_l0]; decide +kernel] at f7
  have f8 := F9_at l1 (by decide)
  rw [chk_l1] at f8
  simp only [l0, l1, prows, List.map_cons, List.map_nil] at f1 f2 f3 f4 f5 f6 f7 f8
  refine psound_spec hX mixed Try.func8 rfl fun u w0 G => ⟨by show 0 ≤ 106; decide, rfl, ?_⟩
  show AW ⟨Try.prog, X, 106, w0, .pure G⟩ _ _ _
  have hc : Cx.OK ⟨Try.prog, X, 106, w0, .pure G⟩ := ⟨hX, mixed⟩
  repeat' (first | (apply aw_seq_k; intro K hK) | (refine aw_run hc (by first | exact aw_nod | (intro _; rw [ordB_w hw]; kernel_rfl) | (intro _; rw [ordB_w0 hw0]; kernel_rfl) | (intro _; kernel_rfl)) ?_; simp [List.zipIdx, L.h10, L.h11, L.h13, L.h14, L.h15, f1, f2, f3, f4, f5, f6, f7, f8, he, eqL, -getM, getM_hit, getM_miss, getM_none]; (repeat (simp (disch := first | omega | assumption | fail) only [if_pos, if_neg, wrap64]; try simp [List.zipIdx, L.h10, L.h11, L.h13, L.h14, L.h15, f1, f2, f3, f4, f5, f6, f7, f8, he, eqL, -getM, getM_hit, getM_miss, getM_none])); try (repeat' (refine guardQ_split (fun h => ?_) (fun h => ?_) <;> simp at h <;> (simp [List.zipIdx, L.h10, L.h11, L.h13, L.h14, L.h15, f1, f2, f3, f4, f5, f6, f7, f8, he, eqL, -getM, getM_hit, getM_miss, getM_none]; (repeat (simp (disch := first | omega | assumption | fail) only [if_pos, if_neg, wrap64]; try simp [List.zipIdx, L.h10, L.h11, L.h13, L.h14, L.h15, f1, f2, f3, f4, f5, f6, f7, f8, he, eqL, -getM, getM_hit, getM_miss, getM_none])))))) | (refine aw_cond (b := _) (by exact rfl) (fun h => ?_) (fun h => ?_) <;> (try simp at h)) | (refine aw_block ?_) | (refine aw_skip ?_; simp only [thenQ, blockQ, if_true]) | (refine aw_exit ?_; simp [thenQ, blockQ]) | (refine aw_ret ?_; simp only [thenQ, blockQ]) | (refine aw_round ?_) | (refine hK _ ?_; clear hK) | (clear hK; refine hK _ ?_; clear hK) | (clear hK; clear hK; refine hK _ ?_; clear hK) | (clear hK; clear hK; clear hK; refine hK _ ?_; clear hK))
  refine ⟨by simp, ?_⟩
  simp [leaves_iff, Try.f8]
  try (first | omega | (refine decide_eq_decide.2 ?_; omega) | (refine decide_eq_false ?_; omega) | (refine decide_eq_true ?_; omega))

theorem s3 (X : AX) (L : LawX X) (h8 : ∀ M n, X.call 8 [] M n = some (B true, [])) : PSound Try.prog 3 (specF (ι := List Mp × Mp) (fun x => [.rd 2 (prows x.1), Mv x.2]) fun _ => retOf [B true]) := by
  have hX := L.ok
  have hw := L.w
  refine psound_spec hX mixed Try.func3 rfl fun ⟨l, a, b⟩ w0 G => ⟨by show 2 ≤ 53; decide, rfl, ?_⟩
  show AW ⟨Try.prog, X, 53, w0, .pure G⟩ _ _ _
  have hc : Cx.OK ⟨Try.prog, X, 53, w0, .pure G⟩ := ⟨hX, mixed⟩
  unfold Mv
  simp only
  rcases Decidable.em (60 < (l.length : Int)) with h | h
  · repeat' (first | (apply aw_seq_k; intro K hK) | (refine aw_run hc (by first | exact aw_nod | (intro _; rw [ordB_w hw]; kernel_rfl) | (intro _; rw [ordB_w0 hw0]; kernel_rfl) | (intro _; kernel_rfl)) ?_; simp [List.zipIdx, h8, h, -getM, getM_hit, getM_miss, getM_none]; (repeat (simp (disch := first | omega | assumption | fail) only [if_pos, if_neg, wrap64]; try simp [List.zipIdx, h8, h, -getM, getM_hit, getM_miss, getM_none])); try (repeat' (refine guardQ_split (fun h => ?_) (fun h => ?_) <;> simp at h <;> (simp [List.zipIdx, h8, h, -getM, getM_hit, getM_miss, getM_none]; (repeat (simp (disch := first | omega | assumption | fail) only [if_pos, if_neg, wrap64]; try simp [List.zipIdx, h8, h, -getM, getM_hit, getM_miss, getM_none])))))) | (refine aw_cond (b := _) (by exact rfl) (fun h => ?_) (fun h => ?_) <;> (try simp at h)) | (refine aw_block ?_) | (refine aw_skip ?_; simp only [thenQ, blockQ, if_true]) | (refine aw_exit ?_; simp [thenQ, blockQ]) | (refine aw_ret ?_; simp only [thenQ, blockQ]) | (refine aw_round ?_) | (refine hK _ ?_; clear hK) | (clear hK; refine hK _ ?_; clear hK) | (clear hK; clear hK; refine hK _ ?_; clear hK) | (clear hK; clear hK; clear hK; refine hK _ ?_; clear hK))
    refine ⟨by simp, ?_⟩
    simp [leaves_iff, Try.f3]
    try (first | omega | (refine decide_eq_decide.2 ?_; omega) | (refine decide_eq_false ?_; omega) | (refine decide_eq_true ?_; omega))
  · have hl : l.length ≤ 1000000 := by omega
    have hF := F9_at l hl
    have hG := F12_at l a b hl
    have hA := F13_at l 0 0 hl
    have hD := F14_at l 0 hl
    unfold addR at hA
    unfold dropR at hD
    obtain ⟨c, hcc⟩ : ∃ c, c = chk l := ⟨_, rfl⟩
    rw [← hcc] at hF hG hA hD
    obtain ⟨d, hd⟩ : ∃ d, d = decide (c = 0 ∧ (a, b) ∈ l) := ⟨_, rfl⟩
    rw [← hd] at hG
    rcases Decidable.em (c = 0) with h0 | h0
    · repeat' (first | (apply aw_seq_k; intro K hK) | (refine aw_run hc (by first | exact aw_nod | (intro _; rw [ordB_w hw]; kernel_rfl) | (intro _; rw [ordB_w0 hw0]; kernel_rfl) | (intro _; kernel_rfl)) ?_; simp [List.zipIdx, h8, h, L.h9, L.h10, L.h11, L.h12, hF, hG, h0, -getM, getM_hit, getM_miss, getM_none]; (repeat (simp (disch := first | omega | assumption | fail) only [if_pos, if_neg, wrap64]; try simp [List.zipIdx, h8, h, L.h9, L.h10, L.h11, L.h12, hF, hG, h0, -getM, getM_hit, getM_miss, getM_none])); try (repeat' (refine guardQ_split (fun h => ?_) (fun h => ?_) <;> simp at h <;> (simp [List.zipIdx, h8, h, L.h9, L.h10, L.h11, L.h12, hF, hG, h0, -getM, getM_hit, getM_miss, getM_none]; (repeat (simp (disch := first | omega | assumption | fail) only [if_pos, if_neg, wrap64]; try simp [List.zipIdx, h8, h, L.h9, L.h10, L.h11, L.h12, hF, hG, h0, -getM, getM_hit, getM_miss, getM_none])))))) | (refine aw_cond (b := _) (by exact rfl) (fun h => ?_) (fun h => ?_) <;> (try simp at h)) | (refine aw_block ?_) | (refine aw_skip ?_; simp only [thenQ, blockQ, if_true]) | (refine aw_exit ?_; simp [thenQ, blockQ]) | (refine aw_ret ?_; simp only [thenQ, blockQ]) | (refine aw_round ?_) | (refine hK _ ?_; clear hK) | (clear hK; refine hK _ ?_; clear hK) | (clear hK; clear hK; refine hK _ ?_; clear hK) | (clear hK; clear hK; clear hK; refine hK _ ?_; clear hK))
      refine ⟨by simp, ?_⟩
      simp [leaves_iff, Try.f3]
      try (first | omega | (refine decide_eq_decide.2 ?_; omega) | (refine decide_eq_false ?_; omega) | (refine decide_eq_true ?_; omega))
    · rw [if_neg h0] at hA hD
      simp only [prows_nil] at hA hD
      repeat' (first | (apply aw_seq_k; intro K hK) | (refine aw_run hc (by first | exact aw_nod | (intro _; rw [ordB_w hw]; kernel_rfl) | (intro _; rw [ordB_w0 hw0]; kernel_rfl) | (intro _; kernel_rfl)) ?_; simp [List.zipIdx, h8, h, L.h9, L.h10, L.h11, L.h12, L.h13, L.h14, hF, hG, hA, hD, h0, -getM, getM_hit, getM_miss, getM_none]; (repeat (simp (disch := first | omega | assumption | fail) only [if_pos, if_neg, wrap64]; try simp [List.zipIdx, h8, h, L.h9, L.h10, L.h11, L.h12, L.h13, L.h14, hF, hG, hA, hD, h0, -getM, getM_hit, getM_miss, getM_none])); try (repeat' (refine guardQ_split (fun h => ?_) (fun h => ?_) <;> simp at h <;> (simp [List.zipIdx, h8, h, L.h9, L.h10, L.h11, L.h12, L.h13, L.h14, hF, hG, hA, hD, h0, -getM, getM_hit, getM_miss, getM_none]; (repeat (simp (disch := first | omega | assumption | fail) only [if_pos, if_neg, wrap64]; try simp [List.zipIdx, h8, h, L.h9, L.h10, L.h11, L.h12, L.h13, L.h14, hF, hG, hA, hD, h0, -getM, getM_hit, getM_miss, getM_none])))))) | (refine aw_cond (b := _) (by exact rfl) (fun h => ?_) (fun h => ?_) <;> (try simp at h)) | (refine aw_block ?_) | (refine aw_skip ?_; simp only [thenQ, blockQ, if_true]) | (refine aw_exit ?_; simp [thenQ, blockQ]) | (refine aw_ret ?_; simp only [thenQ, blockQ]) | (refine aw_round ?_) | (refine hK _ ?_; clear hK) | (clear hK; refine hK _ ?_; clear hK) | (clear hK; clear hK; refine hK _ ?_; clear hK) | (clear hK; clear hK; clear hK; refine hK _ ?_; clear hK))
      refine ⟨by simp, ?_⟩
      simp [leaves_iff, Try.f3]
      try (first | omega | (refine decide_eq_decide.2 ?_; omega) | (refine decide_eq_false ?_; omega) | (refine decide_eq_true ?_; omega))

theorem cpyR_len (l : List Mp) (f t : Int) : (cpyR l f t).1.length ≤ 2 * l.length := by
  have := cpG_len f t l l.length
  rw [List.take_length] at this
  unfold cpyR
  split
  · split
    · split
      · simp
      · exact this
    · simp
  · simp
theorem dropR_len (l : List Mp) (s : Int) : (dropR l s).length ≤ l.length := by
  unfold dropR
  split
  · exact dropM_len _ _
  · simp
theorem addR_len (l : List Mp) (m : Mp) : (addR l m).1.length ≤ l.length + 1 := by
  unfold addR
  split
  · split
    · split
      · simp
      · simp [insR_length]
    · simp
  · simp
theorem remR_len (l : List Mp) (m : Mp) : (remR l m).1.length ≤ l.length := by
  unfold remR
  split
  · split
    · exact delM_len _ _
    · simp
  · simp

theorem s4 (X : AX) (L : LawX X) (h8 : ∀ M n, X.call 8 [] M n = some (B true, [])) : PSound Try.prog 4 (specF (ι := List Mp × Int × Int) (fun x => [.rd 2 (prows x.1), I x.2.1, I x.2.2]) fun _ => retOf [B true]) := by
  have hX := L.ok
  have hw := L.w
  refine psound_spec hX mixed Try.func4 rfl fun ⟨l, f, t⟩ w0 G => ⟨by show 3 ≤ 50; decide, rfl, ?_⟩
  show AW ⟨Try.prog, X, 50, w0, .pure G⟩ _ _ _
  have hc : Cx.OK ⟨Try.prog, X, 50, w0, .pure G⟩ := ⟨hX, mixed⟩
  simp only
  rcases Decidable.em (40 < (l.length : Int)) with h | h
  · repeat' (first | (apply aw_seq_k; intro K hK) | (refine aw_run hc (by first | exact aw_nod | (intro _; rw [ordB_w hw]; kernel_rfl) | (intro _; rw [ordB_w0 hw0]; kernel_rfl) | (intro _; kernel_rfl)) ?_; simp [List.zipIdx, h8, h, -getM, getM_hit, getM_miss, getM_none]; (repeat (simp (disch := first | omega | assumption | fail) only [if_pos, if_neg, wrap64]; try simp [List.zipIdx, h8, h, -getM, getM_hit, getM_miss, getM_none])); try (repeat' (refine guardQ_split (fun h => ?_) (fun h => ?_) <;> simp at h <;> (simp [List.zipIdx, h8, h, -getM, getM_hit, getM_miss, getM_none]; (repeat (simp (disch := first | omega | assumption | fail) only [if_pos, if_neg, wrap64]; try simp [List.zipIdx, h8, h, -getM, getM_hit, getM_miss, getM_none])))))) | (refine aw_cond (b := _) (by exact rfl) (fun h => ?_) (fun h => ?_) <;> (try simp at h)) | (refine aw_block ?_) | (refine aw_skip ?_; simp only [thenQ, blockQ, if_true]) | (refine aw_exit ?_; simp [thenQ, blockQ]) | (refine aw_ret ?_; simp only [thenQ, blockQ]) | (refine aw_round ?_) | (refine hK _ ?_; clear hK) | (clear hK; refine hK _ ?_; clear hK) | (clear hK; clear hK; refine hK _ ?_; clear hK) | (clear hK; clear hK; clear hK; refine hK _ ?_; clear hK))
    refine ⟨by simp, ?_⟩
    simp [leaves_iff, Try.f4]
    try (first | omega | (refine decide_eq_decide.2 ?_; omega) | (refine decide_eq_false ?_; omega) | (refine decide_eq_true ?_; omega))
  · have hl : l.length ≤ 40 := by omega
    have hF := F15_at l f t (by omega)
    have hG := F14_at l f (by omega)
    have hl1 := cpyR_len l f t
    have hl2 := dropR_len l f
    obtain ⟨⟨g, e⟩, hge⟩ : ∃ g, g = cpyR l f t := ⟨_, rfl⟩
    obtain ⟨d, hd⟩ : ∃ d, d = dropR l f := ⟨_, rfl⟩
    rw [← hge] at hF hl1
    rw [← hd] at hG hl2
    simp only at hF hl1
    have hS := F17_at g g (by omega)
    have hS2 := F17_at d d (by omega)
    simp only [decide_true] at hS hS2
    repeat' (first | (apply aw_seq_k; intro K hK) | (refine aw_run hc (by first | exact aw_nod | (intro _; rw [ordB_w hw]; kernel_rfl) | (intro _; rw [ordB_w0 hw0]; kernel_rfl) | (intro _; kernel_rfl)) ?_; simp [List.zipIdx, h8, h, L.h14, L.h15, L.h16, L.h17, L.h18, hF, hG, hS, hS2, tkM, -getM, getM_hit, getM_miss, getM_none]; (repeat (simp (disch := first | omega | assumption | fail) only [if_pos, if_neg, wrap64]; try simp [List.zipIdx, h8, h, L.h14, L.h15, L.h16, L.h17, L.h18, hF, hG, hS, hS2, tkM, -getM, getM_hit, getM_miss, getM_none])); try (repeat' (refine guardQ_split (fun h => ?_) (fun h => ?_) <;> simp at h <;> (simp [List.zipIdx, h8, h, L.h14, L.h15, L.h16, L.h17, L.h18, hF, hG, hS, hS2, tkM, -getM, getM_hit, getM_miss, getM_none]; (repeat (simp (disch := first | omega | assumption | fail) only [if_pos, if_neg, wrap64]; try simp [List.zipIdx, h8, h, L.h14, L.h15, L.h16, L.h17, L.h18, hF, hG, hS, hS2, tkM, -getM, getM_hit, getM_miss, getM_none])))))) | (refine aw_cond (b := _) (by exact rfl) (fun h => ?_) (fun h => ?_) <;> (try simp at h)) | (refine aw_block ?_) | (refine aw_skip ?_; simp only [thenQ, blockQ, if_true]) | (refine aw_exit ?_; simp [thenQ, blockQ]) | (refine aw_ret ?_; simp only [thenQ, blockQ]) | (refine aw_round ?_) | (refine hK _ ?_; clear hK) | (clear hK; refine hK _ ?_; clear hK) | (clear hK; clear hK; refine hK _ ?_; clear hK) | (clear hK; clear hK; clear hK; refine hK _ ?_; clear hK))
    refine ⟨by simp, ?_⟩
    simp [leaves_iff, Try.f4]
    try (first | omega | (refine decide_eq_decide.2 ?_; omega) | (refine decide_eq_false ?_; omega) | (refine decide_eq_true ?_; omega))
end Go.AM
