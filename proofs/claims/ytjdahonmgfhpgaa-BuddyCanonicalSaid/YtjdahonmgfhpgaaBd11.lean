/- A part of the proof: what functions of the program compute, by abstract execution of their code. Its theorems hold without further condition. -/
import Derived.Test.YtjdahonmgfhpgaaBdK
set_option linter.all false
namespace Go.AM
open Go Go.Proofs

def small (z : Zn) : Prop := ∀ k, k ≤ 4 → (z.fr k).length ≤ 1000

theorem checkZ_ranges {z : Zn} (h : ¬ rangesZ z) : checkZ z = 2 := by unfold checkZ; rw [if_pos h]
theorem checkZ_form {z : Zn} (h : rangesZ z) (h2 : ¬ formErr z = 0) : checkZ z = formErr z := by unfold checkZ; rw [if_neg (by simpa using h), if_pos h2]
theorem checkZ_dup {z : Zn} (h : rangesZ z) (h2 : formErr z = 0) (h3 : ¬ (coverL z 5).Nodup) : checkZ z = 7 := by unfold checkZ; rw [if_neg (by simpa using h), if_neg (by simpa using h2), if_pos h3]
theorem checkZ_join {z : Zn} (h : rangesZ z) (h2 : formErr z = 0) (h3 : (coverL z 5).Nodup) (h4 : joinable z) : checkZ z = 11 := by unfold checkZ; rw [if_neg (by simpa using h), if_neg (by simpa using h2), if_neg (by simpa using h3), if_pos h4]
theorem checkZ_ok {z : Zn} (h : rangesZ z) (h2 : formErr z = 0) (h3 : (coverL z 5).Nodup) (h4 : ¬ joinable z) : checkZ z = 0 := by unfold checkZ; rw [if_neg (by simpa using h), if_neg (by simpa using h2), if_neg (by simpa using h3), if_neg h4]

theorem cover_bounds {z : Zn} (hz : rangesZ z) (ho : orderOK z) {x : Int} (h : x ∈ coverL z 5) : 0 ≤ x ∧ x < 256 := by
  obtain ⟨k, f, hk, hf, h1, h2⟩ := mem_coverL.1 h
  have := inside_bounds hz (ho.inside (show k ≤ 4 by omega) hf)
  omega

theorem nodup_cnt {z : Zn} (hz : rangesZ z) (ho : orderOK z) : (coverL z 5).Nodup ↔ ∀ y : Nat, y < 256 → cnt (coverL z 5) y ≤ 1 := by
  rw [List.nodup_iff_count]
  constructor
  · intro h y _; exact h _
  · intro h x
    by_cases hx : x ∈ coverL z 5
    · have hb := cover_bounds hz ho hx
      have := h x.toNat (by omega)
      rw [Int.toNat_of_nonneg hb.1] at this
      exact this
    · rw [List.count_eq_zero_of_not_mem hx]; omega

/-- Two that ought to be joined, side by side. -/
def pairAt (z : Zn) (k i : Nat) : Prop := gi (z.fr k) (i + 1) = gi (z.fr k) i + 2 ^ k ∧ insideZ z (gi (z.fr k) i) (k + 1)

theorem s17 (X : AX) (hX : XOK Try.prog X) (hw : X.W wT) (h44 : ∀ z M n, X.call 44 [.agg z.cells] M n = some (B (rangesZ z), []))
    (h45 : ∀ z M n, rangesZ z → small z → X.call 45 [.agg z.cells] M n = some (I (formErr z), []))
    (h46 : ∀ z M n, rangesZ z → formErr z = 0 → small z → X.call 46 [.agg z.cells] M n = some (.sl n 1 1 0 256, [(n, .vec 1 1 false (irows (cnts (coverL z 5))))]))
    (h47 : ∀ z f (o : Int) M n, rangesZ z → X.call 47 [.agg z.cells, I f, I o] M n = some (B (0 ≤ o ∧ o ≤ 4 ∧ insideZ z f o.toNat), [])) :
    PSound Try.prog 17 (specF (ι := {z : Zn // small z}) (fun z => [.agg z.1.cells]) fun z => retOf [I (checkZ z.1)]) := by
  refine psound_spec hX mixed Try.func17 rfl fun ⟨z, hl⟩ w0 G => ⟨by show 1 ≤ 76; decide, rfl, ?_⟩
  show AW ⟨Try.prog, X, 76, w0, .pure G⟩ _ _ _
  have hc : Cx.OK ⟨Try.prog, X, 76, w0, .pure G⟩ := ⟨hX, mixed⟩
  repeat' (first | (apply aw_seq_k; intro K hK) | (refine aw_run hc (by first | exact aw_nod | (intro _; rw [ordB_w hw]; kernel_rfl) | (intro _; kernel_rfl)) ?_; simp (disch := first | omega | assumption | (simp; done) | fail) [if_pos, if_neg, List.zipIdx, h44, h45, h46]; try (repeat' (refine guardQ_split (fun h => ?_) (fun h => ?_) <;> simp at h <;> simp (disch := first | omega | assumption | (simp; done) | fail) [if_pos, if_neg, List.zipIdx, h44, h45, h46]))) | (refine aw_cond (b := _) (by exact rfl) (fun h => ?_) (fun h => ?_) <;> (try simp at h)) | (refine aw_block ?_) | (refine aw_skip ?_; simp only [thenQ, blockQ, if_true]) | (refine aw_exit ?_; simp [thenQ, blockQ]) | (refine aw_ret ?_; simp only [thenQ, blockQ]) | (refine hK _ ?_; clear hK) | (clear hK; refine hK _ ?_; clear hK) | (clear hK; clear hK; refine hK _ ?_; clear hK) | (clear hK; clear hK; clear hK; refine hK _ ?_; clear hK))
  · rename_i h
    rw [checkZ_ranges h]
    refine ⟨by simp, ?_⟩
    simp [leaves_iff, Try.f17]
    try (first | omega | (refine decide_eq_decide.2 ?_; omega) | (refine decide_eq_false ?_; omega) | (refine decide_eq_true ?_; omega))
  · have hz := ‹rangesZ z›
    rename_i h
    rw [checkZ_form hz h]
    refine ⟨by simp, ?_⟩
    simp [leaves_iff, Try.f17]
    try (first | omega | (refine decide_eq_decide.2 ?_; omega) | (refine decide_eq_false ?_; omega) | (refine decide_eq_true ?_; omega))
  · have hz := ‹rangesZ z›
    have hfe := ‹formErr z = 0›
    have ho := orderOK_iff.2 hfe
    refine aw_loopK (s0 := ?lps1) (m0 := ?lpm1) (ι := {f : Nat // f ≤ 256 ∧ ∀ y : Nat, y < f → cnt (coverL z 5) y ≤ 1}) [1, 4] (fun f => [(5, I f.1)]) (fun _ => []) (fun f => 256 - f.1) ⟨0, by omega, by omega⟩ ?lhs1 ?lhm1 ?_ ?_
    case lhs1 => first | (simp [keepS]; done) | (simp [keepS]; rfl)
    case lhm1 => first | rfl | (simp; done) | (simp; rfl)
    · exact le_of2 (by simp) (by simp [AVle, AV.under, AV.underL] <;> omega) (by simp [AOle, AO.under, AV.underL, AV.under] <;> omega)
    · rintro ⟨f, hf, hinv⟩
      simp only
      repeat' (first | (apply aw_seq_k; intro K hK) | (refine aw_run hc (by first | exact aw_nod | (intro _; rw [ordB_w hw]; kernel_rfl) | (intro _; kernel_rfl)) ?_; simp (disch := first | omega | assumption | (simp; done) | fail) [if_pos, if_neg, List.zipIdx, wrap64, cnts_get]; try (repeat' (refine guardQ_split (fun h => ?_) (fun h => ?_) <;> simp at h <;> simp (disch := first | omega | assumption | (simp; done) | fail) [if_pos, if_neg, List.zipIdx, wrap64, cnts_get]))) | (refine aw_cond (b := _) (by exact rfl) (fun h => ?_) (fun h => ?_) <;> (try simp at h)) | (refine aw_block ?_) | (refine aw_skip ?_; simp only [thenQ, blockQ, if_true]) | (refine aw_exit ?_; simp [thenQ, blockQ]) | (refine aw_ret ?_; simp only [thenQ, blockQ]) | (refine hK _ ?_; clear hK) | (clear hK; refine hK _ ?_; clear hK) | (clear hK; clear hK; refine hK _ ?_; clear hK) | (clear hK; clear hK; clear hK; refine hK _ ?_; clear hK))
      · rename_i h
        have : ¬ (coverL z 5).Nodup := fun hn => by
          have := (nodup_cnt hz ho).1 hn f (by omega)
          omega
        rw [checkZ_dup hz hfe this]
        refine ⟨by simp, ?_⟩
        simp [leaves_iff, Try.f17]
        try (first | omega | (refine decide_eq_decide.2 ?_; omega) | (refine decide_eq_false ?_; omega) | (refine decide_eq_true ?_; omega))
      · refine ⟨f + 1, ?_, ⟨by omega, fun y hy => ?_⟩, by omega⟩
        · exact le_of2 (by simp) (by simp [AVle, AV.under, AV.underL] <;> omega) (by simp [AOle, AO.under, AV.underL, AV.under] <;> omega)
        · by_cases e : y = f
          · subst e; omega
          · exact hinv y (by omega)
      · obtain rfl : f = 256 := by omega
        have hnd := (nodup_cnt hz ho).2 hinv
        refine aw_loopK (s0 := ?lps2) (m0 := ?lpm2) (ι := {k : Nat // k ≤ 4 ∧ ∀ k' i, k' < k → i + 1 < (z.fr k').length → ¬ pairAt z k' i}) [1] (fun k => [(6, I k.1)]) (fun _ => []) (fun k => 4 - k.1) ⟨0, by omega, by omega⟩ ?lhs2 ?lhm2 ?_ ?_
        case lhs2 => first | (simp [keepS]; done) | (simp [keepS]; rfl)
        case lhm2 => first | rfl | (simp; done) | (simp; rfl)
        · exact le_of2 (by simp) (by simp [AVle, AV.under, AV.underL] <;> omega) (by simp [AOle, AO.under, AV.underL, AV.under] <;> omega)
        · rintro ⟨k, hk, hrows⟩
          simp only
          repeat' (first | (apply aw_seq_k; intro K hK) | (refine aw_run hc (by first | exact aw_nod | (intro _; rw [ordB_w hw]; kernel_rfl) | (intro _; kernel_rfl)) ?_; simp (disch := first | omega | assumption | (simp; done) | fail) [if_pos, if_neg, List.zipIdx, wrap64]; try (repeat' (refine guardQ_split (fun h => ?_) (fun h => ?_) <;> simp at h <;> simp (disch := first | omega | assumption | (simp; done) | fail) [if_pos, if_neg, List.zipIdx, wrap64]))) | (refine aw_cond (b := _) (by exact rfl) (fun h => ?_) (fun h => ?_) <;> (try simp at h)) | (refine aw_block ?_) | (refine aw_skip ?_; simp only [thenQ, blockQ, if_true]) | (refine aw_exit ?_; simp [thenQ, blockQ]) | (refine aw_ret ?_; simp only [thenQ, blockQ]) | (refine hK _ ?_; clear hK) | (clear hK; refine hK _ ?_; clear hK) | (clear hK; clear hK; refine hK _ ?_; clear hK) | (clear hK; clear hK; clear hK; refine hK _ ?_; clear hK))
          · have hk4 : k < 4 := by omega
            have hlk := hl k (by omega)
            have hp5 := pow_le5 (show k ≤ 5 by omega)
            obtain ⟨w, hw1, hw2⟩ : ∃ w : Nat, (2 : Int) ^ k = w ∧ 2 ^ k = w := ⟨2 ^ k, by simp, rfl⟩
            rw [hw1] at hp5
            have hbd : ∀ i, i < (z.fr k).length → 0 ≤ gi (z.fr k) i ∧ gi (z.fr k) i + w ≤ 256 := fun i hi => by
              have := inside_bounds hz (ho.inside (show k ≤ 4 by omega) (gi_mem hi))
              rwa [hw1] at this
            refine aw_loopK (s0 := ?lps3) (m0 := ?lpm3) (ι := {i : Nat // 1 ≤ i ∧ (i ≤ (z.fr k).length ∨ i = 1) ∧ ∀ j, j + 1 < i → ¬ pairAt z k j}) [1, 6] (fun i => [(7, I i.1)]) (fun _ => []) (fun i => (z.fr k).length + 1 - i.1) ⟨1, by omega, by omega, by omega⟩ ?lhs3 ?lhm3 ?_ ?_
            case lhs3 => first | (simp [keepS]; done) | (simp [keepS]; rfl)
            case lhm3 => first | rfl | (simp; done) | (simp; rfl)
            · exact le_of2 (by simp) (by simp [AVle, AV.under, AV.underL] <;> omega) (by simp [AOle, AO.under, AV.underL, AV.under] <;> omega)
            · rintro ⟨i, hi1, hi, hrow⟩
              have hb1 := hbd (i - 1)
              simp only
              repeat' (first | (apply aw_seq_k; intro K hK) | (refine aw_run hc (by first | exact aw_nod | (intro _; rw [ordB_w hw]; kernel_rfl) | (intro _; kernel_rfl)) ?_; simp (disch := first | omega | assumption | (simp; done) | fail) [if_pos, if_neg, List.zipIdx, wrap64, wrapU64, Zn.cf, irows_gi, bits64, Nat.min_eq_left (show k ≤ 64 by omega), wrap_pow (show k ≤ 62 by omega), hw1, h47]; try (repeat' (refine guardQ_split (fun h => ?_) (fun h => ?_) <;> simp at h <;> simp (disch := first | omega | assumption | (simp; done) | fail) [if_pos, if_neg, List.zipIdx, wrap64, wrapU64, Zn.cf, irows_gi, bits64, Nat.min_eq_left (show k ≤ 64 by omega), wrap_pow (show k ≤ 62 by omega), hw1, h47]))) | (refine aw_cond (b := _) (by exact rfl) (fun h => ?_) (fun h => ?_) <;> (try simp at h)) | (refine aw_block ?_) | (refine aw_skip ?_; simp only [thenQ, blockQ, if_true]) | (refine aw_exit ?_; simp [thenQ, blockQ]) | (refine aw_ret ?_; simp only [thenQ, blockQ]) | (refine hK _ ?_; clear hK) | (clear hK; refine hK _ ?_; clear hK) | (clear hK; clear hK; refine hK _ ?_; clear hK) | (clear hK; clear hK; clear hK; refine hK _ ?_; clear hK))
              · have h1 := ‹gi (z.fr k) i = gi (z.fr k) (i - 1) + (w : Int)›
                have h2 := h
                have hj : joinable z := (joinable_iff ho).2 ⟨k, i - 1, hk4, by omega, by rw [show i - 1 + 1 = i by omega, hw1]; exact h1, h2.2.2⟩
                rw [checkZ_join hz hfe hnd hj]
                refine ⟨by simp, ?_⟩
                simp [leaves_iff, Try.f17]
                try (first | omega | (refine decide_eq_decide.2 ?_; omega) | (refine decide_eq_false ?_; omega) | (refine decide_eq_true ?_; omega))
              · refine ⟨i + 1, ?_, ⟨by omega, by omega, fun j hj hh => ?_⟩, by omega⟩
                · exact le_of2 (by simp) (by simp [AVle, AV.under, AV.underL] <;> omega) (by simp [AOle, AO.under, AV.underL, AV.under] <;> omega)
                · by_cases e : j = i - 1
                  · subst e; exact h (by omega) (by omega) hh.2
                  · exact hrow j (by omega) hh
              · refine ⟨i + 1, ?_, ⟨by omega, by omega, fun j hj hh => ?_⟩, by omega⟩
                · exact le_of2 (by simp) (by simp [AVle, AV.under, AV.underL] <;> omega) (by simp [AOle, AO.under, AV.underL, AV.under] <;> omega)
                · by_cases e : j = i - 1
                  · subst e; unfold pairAt at hh; rw [show i - 1 + 1 = i by omega, hw1] at hh; exact ‹¬ gi (z.fr k) i = gi (z.fr k) (i - 1) + (w : Int)› hh.1
                  · exact hrow j (by omega) hh
              · refine ⟨k + 1, ?_, ⟨by omega, fun k' j hk' hj => ?_⟩, by omega⟩
                · exact le_of2 (by simp) (by simp [AVle, AV.under, AV.underL] <;> omega) (by simp [AOle, AO.under, AV.underL, AV.under] <;> omega)
                · by_cases e : k' = k
                  · subst e; exact hrow j (by omega)
                  · exact hrows k' j (by omega) hj
          · obtain rfl : k = 4 := by omega
            have hnj : ¬ joinable z := fun hj => by
              obtain ⟨k, i, hk, hi, h1, h2⟩ := (joinable_iff ho).1 hj
              exact hrows k i hk hi ⟨h1, h2⟩
            rw [checkZ_ok hz hfe hnd hnj]
            refine ⟨by simp, ?_⟩
            simp [leaves_iff, Try.f17]
            try (first | omega | (refine decide_eq_decide.2 ?_; omega) | (refine decide_eq_false ?_; omega) | (refine decide_eq_true ?_; omega))
end Go.AM
