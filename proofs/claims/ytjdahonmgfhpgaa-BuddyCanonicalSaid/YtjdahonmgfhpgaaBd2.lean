/- A part of the proof: what functions of the program compute, by abstract execution of their code. Its theorems hold without further condition. -/
import Derived.Test.YtjdahonmgfhpgaaAmQ
import Derived.Test.YtjdahonmgfhpgaaBd1
set_option linter.all false
namespace Go.AM
open Go Go.Proofs

theorem irows_replicate (n : Nat) (x : Int) : List.replicate n [AV.v (.int .i64 x)] = irows (List.replicate n x) := by simp [irows, I]

theorem s53 (X : AX) (hX : XOK Try.prog X) : MSound Try.prog 53 (specM (ι := {x : List Int × Nat × Nat // x.2.1 ≤ x.2.2 ∧ x.2.2 ≤ x.1.length ∧ x.1.length ≤ 1000000}) (fun x => .ow 1 (irows x.1.1)) (fun x => [I x.1.2.1, I x.1.2.2]) (fun x => retOf [.ow 1 (irows (x.1.1.take x.1.2.1 ++ x.1.1.drop x.1.2.2))]) fun _ => .any) := by
  refine msound_spec Try.func53 rfl X fun ⟨⟨l, i, j⟩, hij, hj, hl⟩ w0 bl E => ⟨by show 3 ≤ 33; decide, rfl, ?_⟩
  simp only at hij hj hl
  show AW ⟨Try.prog, X, 33, w0, ⟨bl, E, 1⟩⟩ _ _ _
  have hc : Cx.OK ⟨Try.prog, X, 33, w0, ⟨bl, E, 1⟩⟩ := ⟨hX, mixed⟩
  repeat' (first | (apply aw_seq_k; intro K hK) | (refine aw_run hc (by first | exact aw_nod | (intro _; rw [ordB_w hw]; kernel_rfl) | (intro _; kernel_rfl)) ?_; simp (disch := first | omega | assumption | (simp; done) | fail) [if_pos, if_neg, List.zipIdx, Int.ofNat_inj]; try (repeat' (refine guardQ_split (fun h => ?_) (fun h => ?_) <;> simp at h <;> simp (disch := first | omega | assumption | (simp; done) | fail) [if_pos, if_neg, List.zipIdx, Int.ofNat_inj]))) | (refine aw_cond (b := _) (by exact rfl) (fun h => ?_) (fun h => ?_) <;> (try simp at h)) | (refine aw_block ?_) | (refine aw_skip ?_; simp only [thenQ, blockQ, if_true]) | (refine aw_exit ?_; simp [thenQ, blockQ]) | (refine aw_ret ?_; simp only [thenQ, blockQ]) | (refine hK _ ?_; clear hK) | (clear hK; refine hK _ ?_; clear hK) | (clear hK; clear hK; refine hK _ ?_; clear hK) | (clear hK; clear hK; clear hK; refine hK _ ?_; clear hK))
  · refine ⟨by simp, leavesM_any ?_⟩
    simp (disch := first | omega | assumption | (simp; done) | fail) [if_pos, if_neg, leaves_iff, Try.f53]
    subst h
    simp [List.take_of_length_le]
  · refine ⟨by simp, leavesM_any ?_⟩
    simp (disch := first | omega | assumption | (simp; done) | fail) [if_pos, if_neg, leaves_iff, Try.f53, irows_take, irows_drop, irows_append, irows_replicate]
    have e1 : l.take i ++ ((l.drop j).take (l.length - j) ++ l.drop (i + (l.length - j))) = (l.take i ++ l.drop j) ++ l.drop (i + (l.length - j)) := by
      rw [List.take_of_length_le (l := l.drop j) (by simp), List.append_assoc]
    have e2 : (l.take i ++ l.drop j).length = i + (l.length - j) := by simp; omega
    have key : ∀ (A B C : List Int) n, A.length = n → A = ((A ++ B).take n ++ C).take n := by
      intro A B C n h
      subst h
      simp
    rw [e1]
    exact congrArg irows (key _ _ _ _ e2)
end Go.AM
