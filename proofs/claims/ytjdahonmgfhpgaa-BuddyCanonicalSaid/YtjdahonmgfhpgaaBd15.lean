/- BuddyChecks. -/
import Derived.Test.YtjdahonmgfhpgaaBd14
set_option linter.all false

namespace Go.AM
open Go Go.Proofs

theorem fewZ.small {z : Zn} (h : fewZ z) : small z := fun k hk => by have := h k hk; omega

theorem cf14 (M : Nat → AO) (n : Nat) : callP F14 [] M n = some (B true, []) := by simp [F14, memo, beqL]

noncomputable def TW : AX := T17.add 14 (callP F14)
theorem tW : XOK Try.prog TW := xok_add t17 (.inl ⟨s14.callP fun _ _ h => memo_flat (by kernel_rfl) h, body_ok _ Try.func14 (by kernel_rfl)⟩) fun _ _ _ _ h => callP_keys h

theorem s3 (X : AX) (hX : XOK Try.prog X) (hw : X.W wT) (h14 : ∀ M n, X.call 14 [] M n = some (B true, [])) (h15 : ∀ z M n, X.call 15 [.agg z.cells] M n = some (B (fewZ z), []))
    (h16 : ∀ z M n, fewZ z → X.call 16 [.agg z.cells] M n = some (I (checkZ z), [])) (h17 : ∀ z M n, fewZ z → X.call 17 [.agg z.cells] M n = some (I (checkZ z), [])) :
    PSound Try.prog 3 (specF (ι := Zn) (fun z => [.agg z.cells]) fun _ => retOf [B true]) := by
  refine psound_spec hX mixed Try.func3 rfl fun z w0 G => ⟨by show 1 ≤ 16; decide, rfl, ?_⟩
  show AW ⟨Try.prog, X, 16, w0, .pure G⟩ _ _ _
  have hc : Cx.OK ⟨Try.prog, X, 16, w0, .pure G⟩ := ⟨hX, mixed⟩
  repeat' (first | (apply aw_seq_k; intro K hK) | (refine aw_run hc (by first | exact aw_nod | (intro _; rw [ordB_w hw]; kernel_rfl) | (intro _; kernel_rfl)) ?_; simp (disch := first | omega | assumption | (simp; done) | fail) [if_pos, if_neg, List.zipIdx, h14, h15, h16, h17]; try (repeat' (refine guardQ_split (fun h => ?_) (fun h => ?_) <;> simp at h <;> simp (disch := first | omega | assumption | (simp; done) | fail) [if_pos, if_neg, List.zipIdx, h14, h15, h16, h17]))) | (refine aw_cond (b := _) (by exact rfl) (fun h => ?_) (fun h => ?_) <;> (try simp at h)) | (refine aw_block ?_) | (refine aw_skip ?_; simp only [thenQ, blockQ, if_true]) | (refine aw_exit ?_; simp [thenQ, blockQ]) | (refine aw_ret ?_; simp only [thenQ, blockQ]) | (refine hK _ ?_; clear hK) | (clear hK; refine hK _ ?_; clear hK) | (clear hK; clear hK; refine hK _ ?_; clear hK) | (clear hK; clear hK; clear hK; refine hK _ ?_; clear hK))
  all_goals
    refine ⟨by simp, ?_⟩
    simp [leaves_iff, Try.f3]
    try (first | omega | (refine decide_eq_decide.2 ?_; omega) | (refine decide_eq_false ?_; omega) | (refine decide_eq_true ?_; omega))
end Go.AM
