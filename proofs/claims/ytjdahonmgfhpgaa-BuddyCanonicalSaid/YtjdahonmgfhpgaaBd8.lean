/- A part of the proof: what functions of the program compute, by abstract execution of their code. Its theorems hold without further condition. -/
import Derived.Test.YtjdahonmgfhpgaaBd5
set_option linter.all false
namespace Go.AM
open Go Go.Proofs

theorem Zn.cf {z : Zn} {k : Nat} (h : k ≤ 4) : z.cells[5 + k]? = some (.rd 1 (irows (z.fr k))) := by
  rcases le4 h with rfl | rfl | rfl | rfl | rfl <;> rfl
@[simp] theorem Zn.under {z : Zn} {n : Nat} : AV.underL n z.cells := by simp [Zn.cells, AV.underL, AV.under]

-- CUT
theorem s41 (X : AX) (hX : XOK Try.prog X) : PSound Try.prog 41 (specF (ι := Zn) (fun z => [.agg z.cells]) fun z => retOf [B (rangesZ z)]) := by
  refine psound_spec hX mixed Try.func41 rfl fun z w0 G => ⟨by show 1 ≤ 56; decide, rfl, ?_⟩
  show AW ⟨Try.prog, X, 56, w0, .pure G⟩ _ _ _
  have hc : Cx.OK ⟨Try.prog, X, 56, w0, .pure G⟩ := ⟨hX, mixed⟩
  repeat' (first | (apply aw_seq_k; intro K hK) | (refine aw_run hc (by first | exact aw_nod | (intro _; rw [ordB_w hw]; kernel_rfl) | (intro _; kernel_rfl)) ?_; simp (disch := first | omega | assumption | (simp; done) | fail) [if_pos, if_neg, List.zipIdx, wrap64]; try (repeat' (refine guardQ_split (fun h => ?_) (fun h => ?_) <;> simp at h <;> simp (disch := first | omega | assumption | (simp; done) | fail) [if_pos, if_neg, List.zipIdx, wrap64]))) | (refine aw_cond (b := _) (by exact rfl) (fun h => ?_) (fun h => ?_) <;> (try simp at h)) | (refine aw_block ?_) | (refine aw_skip ?_; simp only [thenQ, blockQ, if_true]) | (refine aw_exit ?_; simp [thenQ, blockQ]) | (refine aw_ret ?_; simp only [thenQ, blockQ]) | (refine hK _ ?_; clear hK) | (clear hK; refine hK _ ?_; clear hK) | (clear hK; clear hK; refine hK _ ?_; clear hK) | (clear hK; clear hK; clear hK; refine hK _ ?_; clear hK))
  all_goals
    refine ⟨by simp, ?_⟩
    simp [leaves_iff, rangesZ, Try.f41]
    try (first | omega | (refine decide_eq_decide.2 ?_; omega) | (refine decide_eq_false ?_; omega) | (refine decide_eq_true ?_; omega))

theorem s44 (X : AX) (hX : XOK Try.prog X) : PSound Try.prog 44 (specF (ι := Zn) (fun z => [.agg z.cells]) fun z => retOf [B (rangesZ z)]) := by
  refine psound_spec hX mixed Try.func44 rfl fun z w0 G => ⟨by show 1 ≤ 54; decide, rfl, ?_⟩
  show AW ⟨Try.prog, X, 54, w0, .pure G⟩ _ _ _
  have hc : Cx.OK ⟨Try.prog, X, 54, w0, .pure G⟩ := ⟨hX, mixed⟩
  repeat' (first | (apply aw_seq_k; intro K hK) | (refine aw_run hc (by first | exact aw_nod | (intro _; rw [ordB_w hw]; kernel_rfl) | (intro _; kernel_rfl)) ?_; simp (disch := first | omega | assumption | (simp; done) | fail) [if_pos, if_neg, List.zipIdx, wrap64]; try (repeat' (refine guardQ_split (fun h => ?_) (fun h => ?_) <;> simp at h <;> simp (disch := first | omega | assumption | (simp; done) | fail) [if_pos, if_neg, List.zipIdx, wrap64]))) | (refine aw_cond (b := _) (by exact rfl) (fun h => ?_) (fun h => ?_) <;> (try simp at h)) | (refine aw_block ?_) | (refine aw_skip ?_; simp only [thenQ, blockQ, if_true]) | (refine aw_exit ?_; simp [thenQ, blockQ]) | (refine aw_ret ?_; simp only [thenQ, blockQ]) | (refine hK _ ?_; clear hK) | (clear hK; refine hK _ ?_; clear hK) | (clear hK; clear hK; refine hK _ ?_; clear hK) | (clear hK; clear hK; clear hK; refine hK _ ?_; clear hK))
  all_goals
    refine ⟨by simp, ?_⟩
    simp [leaves_iff, rangesZ, Try.f44]
    try (first | omega | (refine decide_eq_decide.2 ?_; omega) | (refine decide_eq_false ?_; omega) | (refine decide_eq_true ?_; omega))

def fewZ (z : Zn) : Prop := ∀ k, k ≤ 4 → (z.fr k).length ≤ 300
noncomputable instance {z : Zn} : Decidable (fewZ z) := Classical.propDecidable _

theorem s15 (X : AX) (hX : XOK Try.prog X) : PSound Try.prog 15 (specF (ι := Zn) (fun z => [.agg z.cells]) fun z => retOf [B (fewZ z)]) := by
  refine psound_spec hX mixed Try.func15 rfl fun z w0 G => ⟨by show 1 ≤ 14; decide, rfl, ?_⟩
  show AW ⟨Try.prog, X, 14, w0, .pure G⟩ _ _ _
  have hc : Cx.OK ⟨Try.prog, X, 14, w0, .pure G⟩ := ⟨hX, mixed⟩
  repeat' (first | (apply aw_seq_k; intro K hK) | (refine aw_run hc (by first | exact aw_nod | (intro _; rw [ordB_w hw]; kernel_rfl) | (intro _; kernel_rfl)) ?_; simp (disch := first | omega | assumption | (simp; done) | fail) [if_pos, if_neg, List.zipIdx]; try (repeat' (refine guardQ_split (fun h => ?_) (fun h => ?_) <;> simp at h <;> simp (disch := first | omega | assumption | (simp; done) | fail) [if_pos, if_neg, List.zipIdx]))) | (refine aw_cond (b := _) (by exact rfl) (fun h => ?_) (fun h => ?_) <;> (try simp at h)) | (refine aw_block ?_) | (refine aw_skip ?_; simp only [thenQ, blockQ, if_true]) | (refine aw_exit ?_; simp [thenQ, blockQ]) | (refine aw_ret ?_; simp only [thenQ, blockQ]) | (refine hK _ ?_; clear hK) | (clear hK; refine hK _ ?_; clear hK) | (clear hK; clear hK; refine hK _ ?_; clear hK) | (clear hK; clear hK; clear hK; refine hK _ ?_; clear hK))
  refine aw_loopK (s0 := ?lps1) (m0 := ?lpm1) (ι := {i : Nat // i ≤ 5 ∧ ∀ k, k < i → (z.fr k).length ≤ 300}) [1] (fun i => [(3, I i.1)]) (fun _ => []) (fun i => 5 - i.1) ⟨0, by omega, by omega⟩ ?lhs1 ?lhm1 ?_ ?_
  case lhs1 => first | (simp [keepS]; done) | (simp [keepS]; rfl)
  case lhm1 => first | rfl | (simp; done) | (simp; rfl)
  · exact le_of2 (by simp) (by simp [AVle, AV.under, AV.underL] <;> omega) (by simp [AOle, AO.under, AV.underL, AV.under] <;> omega)
  · rintro ⟨i, hi, hinv⟩
    simp only
    repeat' (first | (apply aw_seq_k; intro K hK) | (refine aw_run hc (by first | exact aw_nod | (intro _; rw [ordB_w hw]; kernel_rfl) | (intro _; kernel_rfl)) ?_; simp (disch := first | omega | assumption | (simp; done) | fail) [if_pos, if_neg, List.zipIdx, wrap64, Zn.cf]; try (repeat' (refine guardQ_split (fun h => ?_) (fun h => ?_) <;> simp at h <;> simp (disch := first | omega | assumption | (simp; done) | fail) [if_pos, if_neg, List.zipIdx, wrap64, Zn.cf]))) | (refine aw_cond (b := _) (by exact rfl) (fun h => ?_) (fun h => ?_) <;> (try simp at h)) | (refine aw_block ?_) | (refine aw_skip ?_; simp only [thenQ, blockQ, if_true]) | (refine aw_exit ?_; simp [thenQ, blockQ]) | (refine aw_ret ?_; simp only [thenQ, blockQ]) | (refine hK _ ?_; clear hK) | (clear hK; refine hK _ ?_; clear hK) | (clear hK; clear hK; refine hK _ ?_; clear hK) | (clear hK; clear hK; clear hK; refine hK _ ?_; clear hK))
    · refine ⟨by simp, ?_⟩
      simp [leaves_iff, Try.f15]
      try (first | omega | (refine decide_eq_decide.2 ?_; omega) | (refine decide_eq_false ?_; omega) | (refine decide_eq_true ?_; omega))
      intro hf
      have := hf i (by omega)
      omega
    · refine ⟨i + 1, ?_, ⟨by omega, fun k hk => ?_⟩, by omega⟩
      · exact le_of2 (by simp) (by simp [AVle, AV.under, AV.underL] <;> omega) (by simp [AOle, AO.under, AV.underL, AV.under] <;> omega)
      · by_cases e : k = i
        · subst e; omega
        · exact hinv k (by omega)
    · refine ⟨by simp, ?_⟩
      simp [leaves_iff, Try.f15]
      try (first | omega | (refine decide_eq_decide.2 ?_; omega) | (refine decide_eq_false ?_; omega) | (refine decide_eq_true ?_; omega))
      exact fun k hk => hinv k (by omega)

theorem s47 (X : AX) (hX : XOK Try.prog X) : PSound Try.prog 47 (specF (ι := {x : Zn × Int × Int // rangesZ x.1}) (fun x => [.agg x.1.1.cells, I x.1.2.1, I x.1.2.2]) fun x => retOf [B (0 ≤ x.1.2.2 ∧ x.1.2.2 ≤ 4 ∧ insideZ x.1.1 x.1.2.1 x.1.2.2.toNat)]) := by
  refine psound_spec hX mixed Try.func47 rfl fun ⟨⟨z, f, o⟩, hz⟩ w0 G => ⟨by show 3 ≤ 47; decide, rfl, ?_⟩
  show AW ⟨Try.prog, X, 47, w0, .pure G⟩ _ _ _
  have hc : Cx.OK ⟨Try.prog, X, 47, w0, .pure G⟩ := ⟨hX, mixed⟩
  simp only at hz
  unfold rangesZ at hz
  by_cases ho : 0 ≤ o ∧ o ≤ 4
  · obtain ⟨k, rfl⟩ := Int.eq_ofNat_of_zero_le ho.1
    have hp5 := pow_le5 (show k ≤ 5 by omega)
    have hne : (2 : Int) ^ k ≠ 0 := by omega
    repeat' (first | (apply aw_seq_k; intro K hK) | (refine aw_run hc (by first | exact aw_nod | (intro _; rw [ordB_w hw]; kernel_rfl) | (intro _; kernel_rfl)) ?_; simp (disch := first | omega | assumption | (simp; done) | fail) [if_pos, if_neg, List.zipIdx, wrap64, wrapU64, bits64, Nat.min_eq_left (show k ≤ 64 by omega), wrap_pow (show k ≤ 62 by omega), hne, tmod_pos]; try (repeat' (refine guardQ_split (fun h => ?_) (fun h => ?_) <;> simp at h <;> simp (disch := first | omega | assumption | (simp; done) | fail) [if_pos, if_neg, List.zipIdx, wrap64, wrapU64, bits64, Nat.min_eq_left (show k ≤ 64 by omega), wrap_pow (show k ≤ 62 by omega), hne, tmod_pos]))) | (refine aw_cond (b := _) (by exact rfl) (fun h => ?_) (fun h => ?_) <;> (try simp at h)) | (refine aw_block ?_) | (refine aw_skip ?_; simp only [thenQ, blockQ, if_true]) | (refine aw_exit ?_; simp [thenQ, blockQ]) | (refine aw_ret ?_; simp only [thenQ, blockQ]) | (refine hK _ ?_; clear hK) | (clear hK; refine hK _ ?_; clear hK) | (clear hK; clear hK; refine hK _ ?_; clear hK) | (clear hK; clear hK; clear hK; refine hK _ ?_; clear hK))
    all_goals first | (exfalso; omega) | skip
    all_goals
      refine ⟨by simp, ?_⟩
      simp [leaves_iff, insideZ, Try.f47]
      try (first | omega | (refine decide_eq_decide.2 ?_; omega) | (refine decide_eq_false ?_; omega) | (refine decide_eq_true ?_; omega))
    rw [Bool.eq_iff_iff]
    simp
    omega
  · repeat' (first | (apply aw_seq_k; intro K hK) | (refine aw_run hc (by first | exact aw_nod | (intro _; rw [ordB_w hw]; kernel_rfl) | (intro _; kernel_rfl)) ?_; simp (disch := first | omega | assumption | (simp; done) | fail) [if_pos, if_neg, List.zipIdx, wrap64]; try (repeat' (refine guardQ_split (fun h => ?_) (fun h => ?_) <;> simp at h <;> simp (disch := first | omega | assumption | (simp; done) | fail) [if_pos, if_neg, List.zipIdx, wrap64]))) | (refine aw_cond (b := _) (by exact rfl) (fun h => ?_) (fun h => ?_) <;> (try simp at h)) | (refine aw_block ?_) | (refine aw_skip ?_; simp only [thenQ, blockQ, if_true]) | (refine aw_exit ?_; simp [thenQ, blockQ]) | (refine aw_ret ?_; simp only [thenQ, blockQ]) | (refine hK _ ?_; clear hK) | (clear hK; refine hK _ ?_; clear hK) | (clear hK; clear hK; refine hK _ ?_; clear hK) | (clear hK; clear hK; clear hK; refine hK _ ?_; clear hK))
    all_goals first | (exfalso; omega) | skip
    all_goals
      refine ⟨by simp, ?_⟩
      simp [leaves_iff, insideZ, Try.f47]
      try (first | omega | (refine decide_eq_decide.2 ?_; omega) | (refine decide_eq_false ?_; omega) | (refine decide_eq_true ?_; omega))
end Go.AM
