/- A part of the proof: what functions of the program compute, by abstract execution of their code. Its theorems hold without further condition. -/
import Derived.Test.YtjdahonmgfhpgaaBdC
import Derived.Test.YtjdahonmgfhpgaaAmT
set_option linter.all false
namespace Go.AM
open Go Go.Proofs

@[simp] theorem Zn.take10 {z : Zn} : List.take 10 z.cells = z.cells := rfl

/-- The functions that write. -/
def wT (f : FuncId) : Bool := Nat.beq f 48 || Nat.beq f 51 || Nat.beq f 53 || Nat.beq f 54

theorem s45 (X : AX) (hX : XOK Try.prog X) (hw : X.W wT) (h47 : ∀ z f (o : Int) M n, rangesZ z → X.call 47 [.agg z.cells, I f, I o] M n = some (B (0 ≤ o ∧ o ≤ 4 ∧ insideZ z f o.toNat), [])) : PSound Try.prog 45 (specF (ι := {z : Zn // rangesZ z ∧ ∀ k, k ≤ 4 → (z.fr k).length ≤ 1000}) (fun z => [.agg z.1.cells]) fun z => retOf [I (formErr z.1)]) := by
  refine psound_spec hX mixed Try.func45 rfl fun ⟨z, hz, hl⟩ w0 G => ⟨by show 1 ≤ 49; decide, rfl, ?_⟩
  show AW ⟨Try.prog, X, 49, w0, .pure G⟩ _ _ _
  have hc : Cx.OK ⟨Try.prog, X, 49, w0, .pure G⟩ := ⟨hX, mixed⟩
  repeat' (first | (apply aw_seq_k; intro K hK) | (refine aw_run hc (by first | exact aw_nod | (intro _; rw [ordB_w hw]; kernel_rfl) | (intro _; kernel_rfl)) ?_; simp (disch := first | omega | assumption | (simp; done) | fail) [if_pos, if_neg, List.zipIdx]; try (repeat' (refine guardQ_split (fun h => ?_) (fun h => ?_) <;> simp at h <;> simp (disch := first | omega | assumption | (simp; done) | fail) [if_pos, if_neg, List.zipIdx]))) | (refine aw_cond (b := _) (by exact rfl) (fun h => ?_) (fun h => ?_) <;> (try simp at h)) | (refine aw_block ?_) | (refine aw_skip ?_; simp only [thenQ, blockQ, if_true]) | (refine aw_exit ?_; simp [thenQ, blockQ]) | (refine aw_ret ?_; simp only [thenQ, blockQ]) | (refine hK _ ?_; clear hK) | (clear hK; refine hK _ ?_; clear hK) | (clear hK; clear hK; refine hK _ ?_; clear hK) | (clear hK; clear hK; clear hK; refine hK _ ?_; clear hK))
  refine aw_loopK (s0 := ?lps1) (m0 := ?lpm1) (ι := {k : Nat // k ≤ 5 ∧ ∀ k' i', k' < k → i' < (z.fr k').length → badAt z k' i' = 0}) [1] (fun i => [(3, I i.1)]) (fun _ => []) (fun i => 5 - i.1) ⟨0, by omega, by omega⟩ ?lhs1 ?lhm1 ?_ ?_
  case lhs1 => first | (simp [keepS]; done) | (simp [keepS]; rfl)
  case lhm1 => first | rfl | (simp; done) | (simp; rfl)
  · exact le_of2 (by simp) (by simp [AVle, AV.under, AV.underL] <;> omega) (by simp [AOle, AO.under, AV.underL, AV.under] <;> omega)
  · rintro ⟨k, hk, hrows⟩
    simp only
    repeat' (first | (apply aw_seq_k; intro K hK) | (refine aw_run hc (by first | exact aw_nod | (intro _; rw [ordB_w hw]; kernel_rfl) | (intro _; kernel_rfl)) ?_; simp (disch := first | omega | assumption | (simp; done) | fail) [if_pos, if_neg, List.zipIdx, wrap64, Zn.cf]; try (repeat' (refine guardQ_split (fun h => ?_) (fun h => ?_) <;> simp at h <;> simp (disch := first | omega | assumption | (simp; done) | fail) [if_pos, if_neg, List.zipIdx, wrap64, Zn.cf]))) | (refine aw_cond (b := _) (by exact rfl) (fun h => ?_) (fun h => ?_) <;> (try simp at h)) | (refine aw_block ?_) | (refine aw_skip ?_; simp only [thenQ, blockQ, if_true]) | (refine aw_exit ?_; simp [thenQ, blockQ]) | (refine aw_ret ?_; simp only [thenQ, blockQ]) | (refine hK _ ?_; clear hK) | (clear hK; refine hK _ ?_; clear hK) | (clear hK; clear hK; refine hK _ ?_; clear hK) | (clear hK; clear hK; clear hK; refine hK _ ?_; clear hK))
    · refine aw_loopK (s0 := ?lps2) (m0 := ?lpm2) (ι := {i : Nat // i ≤ (z.fr k).length ∧ ∀ i', i' < i → badAt z k i' = 0}) [1, 3] (fun i => [(4, I i.1)]) (fun _ => []) (fun i => (z.fr k).length - i.1) ⟨0, by omega, by omega⟩ ?lhs2 ?lhm2 ?_ ?_
      case lhs2 => first | (simp [keepS]; done) | (simp [keepS]; rfl)
      case lhm2 => first | rfl | (simp; done) | (simp; rfl)
      · exact le_of2 (by simp) (by simp [AVle, AV.under, AV.underL] <;> omega) (by simp [AOle, AO.under, AV.underL, AV.under] <;> omega)
      · rintro ⟨i, hi, hrow⟩
        have hlk := hl k
        simp only
        repeat' (first | (apply aw_seq_k; intro K hK) | (refine aw_run hc (by first | exact aw_nod | (intro _; rw [ordB_w hw]; kernel_rfl) | (intro _; kernel_rfl)) ?_; simp (disch := first | omega | assumption | (simp; done) | fail) [if_pos, if_neg, List.zipIdx, wrap64, Zn.cf, irows_gi, h47 _ _ _ _ _ hz]; try (repeat' (refine guardQ_split (fun h => ?_) (fun h => ?_) <;> simp at h <;> simp (disch := first | omega | assumption | (simp; done) | fail) [if_pos, if_neg, List.zipIdx, wrap64, Zn.cf, irows_gi, h47 _ _ _ _ _ hz]))) | (refine aw_cond (b := _) (by exact rfl) (fun h => ?_) (fun h => ?_) <;> (try simp at h)) | (refine aw_block ?_) | (refine aw_skip ?_; simp only [thenQ, blockQ, if_true]) | (refine aw_exit ?_; simp [thenQ, blockQ]) | (refine aw_ret ?_; simp only [thenQ, blockQ]) | (refine hK _ ?_; clear hK) | (clear hK; refine hK _ ?_; clear hK) | (clear hK; clear hK; refine hK _ ?_; clear hK) | (clear hK; clear hK; clear hK; refine hK _ ?_; clear hK))
        · have hni : ¬ insideZ z (gi (z.fr k) i) k := h.resolve_left (by omega)
          have hb : badAt z k i = 3 := by unfold badAt; rw [if_pos hni]
          rw [formErr_first ⟨by omega, by omega, by omega, hrows, hrow⟩, hb]
          refine ⟨by simp, ?_⟩
          simp [leaves_iff, Try.f45]
          try (first | omega | (refine decide_eq_decide.2 ?_; omega) | (refine decide_eq_false ?_; omega) | (refine decide_eq_true ?_; omega))
        · have h1 := ‹(k : Int) ≤ 4 ∧ insideZ z (gi (z.fr k) i) k›
          have hb : badAt z k i = 10 := by unfold badAt; rw [if_neg (by simpa using h1.2), if_pos ⟨by omega, by omega⟩]
          rw [formErr_first ⟨by omega, by omega, by omega, hrows, hrow⟩, hb]
          refine ⟨by simp, ?_⟩
          simp [leaves_iff, Try.f45]
          try (first | omega | (refine decide_eq_decide.2 ?_; omega) | (refine decide_eq_false ?_; omega) | (refine decide_eq_true ?_; omega))
        · have h1 := ‹(k : Int) ≤ 4 ∧ insideZ z (gi (z.fr k) i) k›
          refine ⟨i + 1, ?_, ⟨by omega, fun j hj => ?_⟩, by omega⟩
          · exact le_of2 (by simp) (by simp [AVle, AV.under, AV.underL] <;> omega) (by simp [AOle, AO.under, AV.underL, AV.under] <;> omega)
          · by_cases e : j = i
            · subst e; unfold badAt; rw [if_neg (by simpa using h1.2), if_neg (by omega)]
            · exact hrow j (by omega)
        · have h1 := ‹(k : Int) ≤ 4 ∧ insideZ z (gi (z.fr k) i) k›
          refine ⟨i + 1, ?_, ⟨by omega, fun j hj => ?_⟩, by omega⟩
          · exact le_of2 (by simp) (by simp [AVle, AV.under, AV.underL] <;> omega) (by simp [AOle, AO.under, AV.underL, AV.under] <;> omega)
          · by_cases e : j = i
            · subst e; unfold badAt; rw [if_neg (by simpa using h1.2), if_neg (by omega)]
            · exact hrow j (by omega)
        · refine ⟨k + 1, ?_, ⟨by omega, fun k' i' hk' hi' => ?_⟩, by omega⟩
          · exact le_of2 (by simp) (by simp [AVle, AV.under, AV.underL] <;> omega) (by simp [AOle, AO.under, AV.underL, AV.under] <;> omega)
          · by_cases e : k' = k
            · subst e; exact hrow i' (by omega)
            · exact hrows k' i' (by omega) hi'
    · rw [formErr_none fun k' i' hk' hi' => hrows k' i' (by omega) hi']
      refine ⟨by simp, ?_⟩
      simp [leaves_iff, Try.f45]
      try (first | omega | (refine decide_eq_decide.2 ?_; omega) | (refine decide_eq_false ?_; omega) | (refine decide_eq_true ?_; omega))
end Go.AM
