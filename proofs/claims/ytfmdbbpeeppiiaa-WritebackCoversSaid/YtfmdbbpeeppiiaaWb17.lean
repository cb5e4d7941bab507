/- Writeback: the four laws of the reference. -/
import Derived.Test.YtfmdbbpeeppiiaaWb16
set_option linter.all false

namespace Go.AM
open Go Go.Proofs

def L63 (l : List Tp) : Prop := l.length ≤ 9223372036854775807
theorem s3 (X : AX) (L : LawX X) (h11 : ∀ M n, X.call 11 [] M n = some (B true, [])) : PSound Try.prog 3 (specF (ι := {l : List Tp // l.length ≤ 9223372036854775807}) (fun x => [.rd 3 (drows x.1)]) fun _ => retOf [B true]) := by
  have hX := L.ok
  have hw := L.w
  refine psound_spec hX mixed Try.func3 rfl fun ⟨l, hl⟩ w0 G => ⟨by show 1 ≤ 46; decide, rfl, ?_⟩
  show AW ⟨Try.prog, X, 46, w0, .pure G⟩ _ _ _
  have hc : Cx.OK ⟨Try.prog, X, 46, w0, .pure G⟩ := ⟨hX, mixed⟩
  have hl : l.length ≤ 9223372036854775807 := hl
  have h10' := L.h10 l
  rcases Decidable.em (l.length ≤ 100) with h | h
  · rw [decide_eq_true h] at h10'
    have f1 := F13_at l hl
    have f2 := chkF_at l hl
    have f3 := nxtF_at l hl
    have f4 := eqlF_at (ordR l).1 (ordR l).1 (by have := ordR_len l; omega)
    rw [decide_eq_true rfl] at f4
    generalize chkD l = c at f2
    generalize nxtR l = x at f3
    generalize hO : ordR l = O at f1 f4
    obtain ⟨O, e⟩ := O
    simp only at f1 f4
    repeat' (first | (apply aw_seq_k; intro K hK) | (refine aw_run hc (by first | exact aw_nod | (intro _; rw [ordB_w hw]; kernel_rfl) | (intro _; rw [ordB_w0 hw0]; kernel_rfl) | (intro _; kernel_rfl)) ?_; simp [List.zipIdx, h11, h10', L.h12, L.h13, L.h14, L.h15, L.h16, L.h17, L.h18, f1, f2, f3, f4, tkD, -getM, getM_hit, getM_miss, getM_none]; (repeat (simp (disch := first | omega | assumption | fail) only [if_pos, if_neg, wrap64]; try simp [List.zipIdx, h11, h10', L.h12, L.h13, L.h14, L.h15, L.h16, L.h17, L.h18, f1, f2, f3, f4, tkD, -getM, getM_hit, getM_miss, getM_none])); try (repeat' (refine guardQ_split (fun h => ?_) (fun h => ?_) <;> simp at h <;> (simp [List.zipIdx, h11, h10', L.h12, L.h13, L.h14, L.h15, L.h16, L.h17, L.h18, f1, f2, f3, f4, tkD, -getM, getM_hit, getM_miss, getM_none]; (repeat (simp (disch := first | omega | assumption | fail) only [if_pos, if_neg, wrap64]; try simp [List.zipIdx, h11, h10', L.h12, L.h13, L.h14, L.h15, L.h16, L.h17, L.h18, f1, f2, f3, f4, tkD, -getM, getM_hit, getM_miss, getM_none])))))) | (refine aw_cond (b := _) (by exact rfl) (fun h => ?_) (fun h => ?_) <;> (try simp at h)) | (refine aw_block ?_) | (refine aw_skip ?_; simp only [thenQ, blockQ, if_true]) | (refine aw_exit ?_; simp [thenQ, blockQ]) | (refine aw_ret ?_; simp only [thenQ, blockQ]) | (refine aw_round ?_) | (refine hK _ ?_; clear hK) | (clear hK; refine hK _ ?_; clear hK) | (clear hK; clear hK; refine hK _ ?_; clear hK) | (clear hK; clear hK; clear hK; refine hK _ ?_; clear hK))
    refine ⟨by simp, ?_⟩
    simp [leaves_iff, Try.f3]
    try (first | omega | (refine decide_eq_decide.2 ?_; omega) | (refine decide_eq_false ?_; omega) | (refine decide_eq_true ?_; omega))
  · rw [decide_eq_false h] at h10'
    repeat' (first | (apply aw_seq_k; intro K hK) | (refine aw_run hc (by first | exact aw_nod | (intro _; rw [ordB_w hw]; kernel_rfl) | (intro _; rw [ordB_w0 hw0]; kernel_rfl) | (intro _; kernel_rfl)) ?_; simp [List.zipIdx, h11, h10', -getM, getM_hit, getM_miss, getM_none]; (repeat (simp (disch := first | omega | assumption | fail) only [if_pos, if_neg, wrap64]; try simp [List.zipIdx, h11, h10', -getM, getM_hit, getM_miss, getM_none])); try (repeat' (refine guardQ_split (fun h => ?_) (fun h => ?_) <;> simp at h <;> (simp [List.zipIdx, h11, h10', -getM, getM_hit, getM_miss, getM_none]; (repeat (simp (disch := first | omega | assumption | fail) only [if_pos, if_neg, wrap64]; try simp [List.zipIdx, h11, h10', -getM, getM_hit, getM_miss, getM_none])))))) | (refine aw_cond (b := _) (by exact rfl) (fun h => ?_) (fun h => ?_) <;> (try simp at h)) | (refine aw_block ?_) | (refine aw_skip ?_; simp only [thenQ, blockQ, if_true]) | (refine aw_exit ?_; simp [thenQ, blockQ]) | (refine aw_ret ?_; simp only [thenQ, blockQ]) | (refine aw_round ?_) | (refine hK _ ?_; clear hK) | (clear hK; refine hK _ ?_; clear hK) | (clear hK; clear hK; refine hK _ ?_; clear hK) | (clear hK; clear hK; clear hK; refine hK _ ?_; clear hK))
    refine ⟨by simp, ?_⟩
    simp [leaves_iff, Try.f3]
    try (first | omega | (refine decide_eq_decide.2 ?_; omega) | (refine decide_eq_false ?_; omega) | (refine decide_eq_true ?_; omega))
theorem s4 (X : AX) (L : LawX X) (h11 : ∀ M n, X.call 11 [] M n = some (B true, [])) : PSound Try.prog 4 (specF (ι := {x : List Tp × Int × Int // x.1.length ≤ 9223372036854775807}) (fun x => [.rd 3 (drows x.1.1), I x.1.2.1, I x.1.2.2]) fun _ => retOf [B true]) := by
  have hX := L.ok
  have hw := L.w
  refine psound_spec hX mixed Try.func4 rfl fun ⟨⟨l, n, g⟩, hl⟩ w0 G => ⟨by show 3 ≤ 40; decide, rfl, ?_⟩
  show AW ⟨Try.prog, X, 40, w0, .pure G⟩ _ _ _
  have hc : Cx.OK ⟨Try.prog, X, 40, w0, .pure G⟩ := ⟨hX, mixed⟩
  have hl : l.length ≤ 9223372036854775807 := hl
  have h10' := L.h10 l
  rcases Decidable.em (l.length ≤ 100) with h | h
  · rw [decide_eq_true h] at h10'
    have f1 := expF_at l n g hl
    have f4 := eqlF_at (expR l n g).1 (expR l n g).1 (by have := expR_len l n g; omega)
    rw [decide_eq_true rfl] at f4
    generalize hO : expR l n g = O at f1 f4
    obtain ⟨O, e⟩ := O
    simp only at f1 f4
    repeat' (first | (apply aw_seq_k; intro K hK) | (refine aw_run hc (by first | exact aw_nod | (intro _; rw [ordB_w hw]; kernel_rfl) | (intro _; rw [ordB_w0 hw0]; kernel_rfl) | (intro _; kernel_rfl)) ?_; simp [List.zipIdx, h11, h10', L.h19, L.h20, L.h18, f1, f4, tkD, -getM, getM_hit, getM_miss, getM_none]; (repeat (simp (disch := first | omega | assumption | fail) only [if_pos, if_neg, wrap64]; try simp [List.zipIdx, h11, h10', L.h19, L.h20, L.h18, f1, f4, tkD, -getM, getM_hit, getM_miss, getM_none])); try (repeat' (refine guardQ_split (fun h => ?_) (fun h => ?_) <;> simp at h <;> (simp [List.zipIdx, h11, h10', L.h19, L.h20, L.h18, f1, f4, tkD, -getM, getM_hit, getM_miss, getM_none]; (repeat (simp (disch := first | omega | assumption | fail) only [if_pos, if_neg, wrap64]; try simp [List.zipIdx, h11, h10', L.h19, L.h20, L.h18, f1, f4, tkD, -getM, getM_hit, getM_miss, getM_none])))))) | (refine aw_cond (b := _) (by exact rfl) (fun h => ?_) (fun h => ?_) <;> (try simp at h)) | (refine aw_block ?_) | (refine aw_skip ?_; simp only [thenQ, blockQ, if_true]) | (refine aw_exit ?_; simp [thenQ, blockQ]) | (refine aw_ret ?_; simp only [thenQ, blockQ]) | (refine aw_round ?_) | (refine hK _ ?_; clear hK) | (clear hK; refine hK _ ?_; clear hK) | (clear hK; clear hK; refine hK _ ?_; clear hK) | (clear hK; clear hK; clear hK; refine hK _ ?_; clear hK))
    refine ⟨by simp, ?_⟩
    simp [leaves_iff, Try.f4]
    try (first | omega | (refine decide_eq_decide.2 ?_; omega) | (refine decide_eq_false ?_; omega) | (refine decide_eq_true ?_; omega))
  · rw [decide_eq_false h] at h10'
    repeat' (first | (apply aw_seq_k; intro K hK) | (refine aw_run hc (by first | exact aw_nod | (intro _; rw [ordB_w hw]; kernel_rfl) | (intro _; rw [ordB_w0 hw0]; kernel_rfl) | (intro _; kernel_rfl)) ?_; simp [List.zipIdx, h11, h10', -getM, getM_hit, getM_miss, getM_none]; (repeat (simp (disch := first | omega | assumption | fail) only [if_pos, if_neg, wrap64]; try simp [List.zipIdx, h11, h10', -getM, getM_hit, getM_miss, getM_none])); try (repeat' (refine guardQ_split (fun h => ?_) (fun h => ?_) <;> simp at h <;> (simp [List.zipIdx, h11, h10', -getM, getM_hit, getM_miss, getM_none]; (repeat (simp (disch := first | omega | assumption | fail) only [if_pos, if_neg, wrap64]; try simp [List.zipIdx, h11, h10', -getM, getM_hit, getM_miss, getM_none])))))) | (refine aw_cond (b := _) (by exact rfl) (fun h => ?_) (fun h => ?_) <;> (try simp at h)) | (refine aw_block ?_) | (refine aw_skip ?_; simp only [thenQ, blockQ, if_true]) | (refine aw_exit ?_; simp [thenQ, blockQ]) | (refine aw_ret ?_; simp only [thenQ, blockQ]) | (refine aw_round ?_) | (refine hK _ ?_; clear hK) | (clear hK; refine hK _ ?_; clear hK) | (clear hK; clear hK; refine hK _ ?_; clear hK) | (clear hK; clear hK; clear hK; refine hK _ ?_; clear hK))
    refine ⟨by simp, ?_⟩
    simp [leaves_iff, Try.f4]
    try (first | omega | (refine decide_eq_decide.2 ?_; omega) | (refine decide_eq_false ?_; omega) | (refine decide_eq_true ?_; omega))
theorem s5 (X : AX) (L : LawX X) (h11 : ∀ M n, X.call 11 [] M n = some (B true, [])) : PSound Try.prog 5 (specF (ι := {x : List Tp × Int // x.1.length ≤ 9223372036854775807}) (fun x => [.rd 3 (drows x.1.1), I x.1.2]) fun _ => retOf [B true]) := by
  have hX := L.ok
  have hw := L.w
  refine psound_spec hX mixed Try.func5 rfl fun ⟨⟨l, m⟩, hl⟩ w0 G => ⟨by show 2 ≤ 36; decide, rfl, ?_⟩
  show AW ⟨Try.prog, X, 36, w0, .pure G⟩ _ _ _
  have hc : Cx.OK ⟨Try.prog, X, 36, w0, .pure G⟩ := ⟨hX, mixed⟩
  have hl : l.length ≤ 9223372036854775807 := hl
  have h10' := L.h10 l
  rcases Decidable.em (l.length ≤ 100) with h | h
  · rw [decide_eq_true h] at h10'
    have f1 := F21_at l m hl
    have f2 := F21_at l m hl
    have f4 := eqlF_at (runR l m).1 (runR l m).1 (by have := runR_len l m; omega)
    rw [decide_eq_true rfl] at f4
    generalize hO : runR l m = O at f1 f2 f4
    obtain ⟨O, e⟩ := O
    simp only at f1 f2 f4
    repeat' (first | (apply aw_seq_k; intro K hK) | (refine aw_run hc (by first | exact aw_nod | (intro _; rw [ordB_w hw]; kernel_rfl) | (intro _; rw [ordB_w0 hw0]; kernel_rfl) | (intro _; kernel_rfl)) ?_; simp [List.zipIdx, h11, h10', L.h21, L.h22, L.h23, f1, f2, f4, tkD, -getM, getM_hit, getM_miss, getM_none]; (repeat (simp (disch := first | omega | assumption | fail) only [if_pos, if_neg, wrap64]; try simp [List.zipIdx, h11, h10', L.h21, L.h22, L.h23, f1, f2, f4, tkD, -getM, getM_hit, getM_miss, getM_none])); try (repeat' (refine guardQ_split (fun h => ?_) (fun h => ?_) <;> simp at h <;> (simp [List.zipIdx, h11, h10', L.h21, L.h22, L.h23, f1, f2, f4, tkD, -getM, getM_hit, getM_miss, getM_none]; (repeat (simp (disch := first | omega | assumption | fail) only [if_pos, if_neg, wrap64]; try simp [List.zipIdx, h11, h10', L.h21, L.h22, L.h23, f1, f2, f4, tkD, -getM, getM_hit, getM_miss, getM_none])))))) | (refine aw_cond (b := _) (by exact rfl) (fun h => ?_) (fun h => ?_) <;> (try simp at h)) | (refine aw_block ?_) | (refine aw_skip ?_; simp only [thenQ, blockQ, if_true]) | (refine aw_exit ?_; simp [thenQ, blockQ]) | (refine aw_ret ?_; simp only [thenQ, blockQ]) | (refine aw_round ?_) | (refine hK _ ?_; clear hK) | (clear hK; refine hK _ ?_; clear hK) | (clear hK; clear hK; refine hK _ ?_; clear hK) | (clear hK; clear hK; clear hK; refine hK _ ?_; clear hK))
    refine ⟨by simp, ?_⟩
    simp [leaves_iff, Try.f5]
    try (first | omega | (refine decide_eq_decide.2 ?_; omega) | (refine decide_eq_false ?_; omega) | (refine decide_eq_true ?_; omega))
  · rw [decide_eq_false h] at h10'
    repeat' (first | (apply aw_seq_k; intro K hK) | (refine aw_run hc (by first | exact aw_nod | (intro _; rw [ordB_w hw]; kernel_rfl) | (intro _; rw [ordB_w0 hw0]; kernel_rfl) | (intro _; kernel_rfl)) ?_; simp [List.zipIdx, h11, h10', -getM, getM_hit, getM_miss, getM_none]; (repeat (simp (disch := first | omega | assumption | fail) only [if_pos, if_neg, wrap64]; try simp [List.zipIdx, h11, h10', -getM, getM_hit, getM_miss, getM_none])); try (repeat' (refine guardQ_split (fun h => ?_) (fun h => ?_) <;> simp at h <;> (simp [List.zipIdx, h11, h10', -getM, getM_hit, getM_miss, getM_none]; (repeat (simp (disch := first | omega | assumption | fail) only [if_pos, if_neg, wrap64]; try simp [List.zipIdx, h11, h10', -getM, getM_hit, getM_miss, getM_none])))))) | (refine aw_cond (b := _) (by exact rfl) (fun h => ?_) (fun h => ?_) <;> (try simp at h)) | (refine aw_block ?_) | (refine aw_skip ?_; simp only [thenQ, blockQ, if_true]) | (refine aw_exit ?_; simp [thenQ, blockQ]) | (refine aw_ret ?_; simp only [thenQ, blockQ]) | (refine aw_round ?_) | (refine hK _ ?_; clear hK) | (clear hK; refine hK _ ?_; clear hK) | (clear hK; clear hK; refine hK _ ?_; clear hK) | (clear hK; clear hK; clear hK; refine hK _ ?_; clear hK))
    refine ⟨by simp, ?_⟩
    simp [leaves_iff, Try.f5]
    try (first | omega | (refine decide_eq_decide.2 ?_; omega) | (refine decide_eq_false ?_; omega) | (refine decide_eq_true ?_; omega))
theorem s6 (X : AX) (L : LawX X) (h11 : ∀ M n, X.call 11 [] M n = some (B true, [])) : PSound Try.prog 6 (specF (ι := {x : List Tp × Tp // x.1.length ≤ 9223372036854775807}) (fun x => [.rd 3 (drows x.1.1), Tv x.1.2]) fun _ => retOf [B true]) := by
  have hX := L.ok
  have hw := L.w
  refine psound_spec hX mixed Try.func6 rfl fun ⟨⟨l, a, b, c⟩, hl⟩ w0 G => ⟨by show 2 ≤ 36; decide, rfl, ?_⟩
  show AW ⟨Try.prog, X, 36, w0, .pure G⟩ _ _ _
  have hc : Cx.OK ⟨Try.prog, X, 36, w0, .pure G⟩ := ⟨hX, mixed⟩
  have hl : l.length ≤ 9223372036854775807 := hl
  unfold Tv
  simp only
  have h10' := L.h10 l
  rcases Decidable.em (l.length ≤ 100) with h | h
  · rw [decide_eq_true h] at h10'
    have f1 := wrtF_at l a b c hl
    have f4 := eqlF_at (wrtR l (a, b, c)).1 (wrtR l (a, b, c)).1 (by have := wrtR_len l (a, b, c); omega)
    rw [decide_eq_true rfl] at f4
    generalize hO : wrtR l (a, b, c) = O at f1 f4
    obtain ⟨O, e⟩ := O
    simp only at f1 f4
    repeat' (first | (apply aw_seq_k; intro K hK) | (refine aw_run hc (by first | exact aw_nod | (intro _; rw [ordB_w hw]; kernel_rfl) | (intro _; rw [ordB_w0 hw0]; kernel_rfl) | (intro _; kernel_rfl)) ?_; simp [List.zipIdx, h11, h10', L.h24, L.h25, L.h18, f1, f4, tkD, -getM, getM_hit, getM_miss, getM_none]; (repeat (simp (disch := first | omega | assumption | fail) only [if_pos, if_neg, wrap64]; try simp [List.zipIdx, h11, h10', L.h24, L.h25, L.h18, f1, f4, tkD, -getM, getM_hit, getM_miss, getM_none])); try (repeat' (refine guardQ_split (fun h => ?_) (fun h => ?_) <;> simp at h <;> (simp [List.zipIdx, h11, h10', L.h24, L.h25, L.h18, f1, f4, tkD, -getM, getM_hit, getM_miss, getM_none]; (repeat (simp (disch := first | omega | assumption | fail) only [if_pos, if_neg, wrap64]; try simp [List.zipIdx, h11, h10', L.h24, L.h25, L.h18, f1, f4, tkD, -getM, getM_hit, getM_miss, getM_none])))))) | (refine aw_cond (b := _) (by exact rfl) (fun h => ?_) (fun h => ?_) <;> (try simp at h)) | (refine aw_block ?_) | (refine aw_skip ?_; simp only [thenQ, blockQ, if_true]) | (refine aw_exit ?_; simp [thenQ, blockQ]) | (refine aw_ret ?_; simp only [thenQ, blockQ]) | (refine aw_round ?_) | (refine hK _ ?_; clear hK) | (clear hK; refine hK _ ?_; clear hK) | (clear hK; clear hK; refine hK _ ?_; clear hK) | (clear hK; clear hK; clear hK; refine hK _ ?_; clear hK))
    refine ⟨by simp, ?_⟩
    simp [leaves_iff, Try.f6]
    try (first | omega | (refine decide_eq_decide.2 ?_; omega) | (refine decide_eq_false ?_; omega) | (refine decide_eq_true ?_; omega))
  · rw [decide_eq_false h] at h10'
    repeat' (first | (apply aw_seq_k; intro K hK) | (refine aw_run hc (by first | exact aw_nod | (intro _; rw [ordB_w hw]; kernel_rfl) | (intro _; rw [ordB_w0 hw0]; kernel_rfl) | (intro _; kernel_rfl)) ?_; simp [List.zipIdx, h11, h10', -getM, getM_hit, getM_miss, getM_none]; (repeat (simp (disch := first | omega | assumption | fail) only [if_pos, if_neg, wrap64]; try simp [List.zipIdx, h11, h10', -getM, getM_hit, getM_miss, getM_none])); try (repeat' (refine guardQ_split (fun h => ?_) (fun h => ?_) <;> simp at h <;> (simp [List.zipIdx, h11, h10', -getM, getM_hit, getM_miss, getM_none]; (repeat (simp (disch := first | omega | assumption | fail) only [if_pos, if_neg, wrap64]; try simp [List.zipIdx, h11, h10', -getM, getM_hit, getM_miss, getM_none])))))) | (refine aw_cond (b := _) (by exact rfl) (fun h => ?_) (fun h => ?_) <;> (try simp at h)) | (refine aw_block ?_) | (refine aw_skip ?_; simp only [thenQ, blockQ, if_true]) | (refine aw_exit ?_; simp [thenQ, blockQ]) | (refine aw_ret ?_; simp only [thenQ, blockQ]) | (refine aw_round ?_) | (refine hK _ ?_; clear hK) | (clear hK; refine hK _ ?_; clear hK) | (clear hK; clear hK; refine hK _ ?_; clear hK) | (clear hK; clear hK; clear hK; refine hK _ ?_; clear hK))
    refine ⟨by simp, ?_⟩
    simp [leaves_iff, Try.f6]
    try (first | omega | (refine decide_eq_decide.2 ?_; omega) | (refine decide_eq_false ?_; omega) | (refine decide_eq_true ?_; omega))
end Go.AM
