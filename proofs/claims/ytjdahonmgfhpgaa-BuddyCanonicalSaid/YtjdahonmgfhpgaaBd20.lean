/- The reference's all and Same. -/
import Derived.Test.YtjdahonmgfhpgaaBdW
import Derived.Test.YtjdahonmgfhpgaaBd14
set_option linter.all false

namespace Go.AM
open Go Go.Proofs

open Classical in
/-- Are all frames of a block in a list of counts? -/
noncomputable def allB (s : List Int) (f w : Nat) : Bool := decide (∀ g : Nat, f ≤ g → g < f + w → gi s g ≠ 0)

theorem allB_true {s : List Int} {f w : Nat} (h : ∀ g : Nat, f ≤ g → g < f + w → gi s g ≠ 0) : allB s f w = true := by unfold allB; simpa using h
theorem allB_false {s : List Int} {f w : Nat} (h : ¬ ∀ g : Nat, f ≤ g → g < f + w → gi s g ≠ 0) : allB s f w = false := by unfold allB; simpa using h
theorem allB_iff {s : List Int} {f w : Nat} : allB s f w = true ↔ ∀ g : Nat, f ≤ g → g < f + w → gi s g ≠ 0 := by unfold allB; simp

theorem s58 (X : AX) (hX : XOK Try.prog X) : PSound Try.prog 58 (specF (ι := {x : List Int × Nat × Nat // x.1.length = 256 ∧ x.2.1 + 2 ^ x.2.2 ≤ 256 ∧ x.2.2 ≤ 4}) (fun x => [.rd 1 (irows x.1.1), I x.1.2.1, I x.1.2.2]) fun x => retOf [B (allB x.1.1 x.1.2.1 (2 ^ x.1.2.2))]) := by
  refine psound_spec hX mixed Try.func58 rfl fun ⟨⟨s, f, k⟩, hs, hf, hk⟩ w0 G => ⟨by show 3 ≤ 23; decide, rfl, ?_⟩
  show AW ⟨Try.prog, X, 23, w0, .pure G⟩ _ _ _
  have hc : Cx.OK ⟨Try.prog, X, 23, w0, .pure G⟩ := ⟨hX, mixed⟩
  simp only at hs hf hk
  obtain ⟨w, hw1, hw2⟩ : ∃ w : Nat, (2 : Int) ^ k = w ∧ 2 ^ k = w := ⟨2 ^ k, by simp, rfl⟩
  rw [hw2] at hf
  simp only [hw2]
  repeat' (first | (apply aw_seq_k; intro K hK) | (refine aw_run hc (by first | exact aw_nod | (intro _; rw [ordB_w hw]; kernel_rfl) | (intro _; kernel_rfl)) ?_; simp (disch := first | omega | assumption | (simp; done) | fail) [if_pos, if_neg, List.zipIdx]; try (repeat' (refine guardQ_split (fun h => ?_) (fun h => ?_) <;> simp at h <;> simp (disch := first | omega | assumption | (simp; done) | fail) [if_pos, if_neg, List.zipIdx]))) | (refine aw_cond (b := _) (by exact rfl) (fun h => ?_) (fun h => ?_) <;> (try simp at h)) | (refine aw_block ?_) | (refine aw_skip ?_; simp only [thenQ, blockQ, if_true]) | (refine aw_exit ?_; simp [thenQ, blockQ]) | (refine aw_ret ?_; simp only [thenQ, blockQ]) | (refine hK _ ?_; clear hK) | (clear hK; refine hK _ ?_; clear hK) | (clear hK; clear hK; refine hK _ ?_; clear hK) | (clear hK; clear hK; clear hK; refine hK _ ?_; clear hK))
  refine aw_loopK (s0 := ?lps1) (m0 := ?lpm1) (ι := {n : Nat // n ≤ w ∧ ∀ g, f ≤ g → g < f + n → gi s g ≠ 0}) [0, 1, 2] (fun n => [(7, I (((f + n.1 : Nat) : Int)))]) (fun _ => []) (fun n => w - n.1) ⟨0, by omega, by omega⟩ ?lhs1 ?lhm1 ?_ ?_
  case lhs1 => first | (simp [keepS]; done) | (simp [keepS]; rfl)
  case lhm1 => first | rfl | (simp; done) | (simp; rfl)
  · exact le_of2 (by simp) (by simp [AVle, AV.under, AV.underL] <;> omega) (by simp [AOle, AO.under, AV.underL, AV.under] <;> omega)
  · rintro ⟨n, hn, hinv⟩
    simp only
    repeat' (first | (apply aw_seq_k; intro K hK) | (refine aw_run hc (by first | exact aw_nod | (intro _; rw [ordB_w hw]; kernel_rfl) | (intro _; kernel_rfl)) ?_; simp (disch := first | omega | assumption | (simp; done) | fail) [if_pos, if_neg, List.zipIdx, wrap64, wrapU64, irows_gi, bits64, Nat.min_eq_left (show k ≤ 64 by omega), wrap_pow (show k ≤ 62 by omega), hw1]; try (repeat' (refine guardQ_split (fun h => ?_) (fun h => ?_) <;> simp at h <;> simp (disch := first | omega | assumption | (simp; done) | fail) [if_pos, if_neg, List.zipIdx, wrap64, wrapU64, irows_gi, bits64, Nat.min_eq_left (show k ≤ 64 by omega), wrap_pow (show k ≤ 62 by omega), hw1]))) | (refine aw_cond (b := _) (by exact rfl) (fun h => ?_) (fun h => ?_) <;> (try simp at h)) | (refine aw_block ?_) | (refine aw_skip ?_; simp only [thenQ, blockQ, if_true]) | (refine aw_exit ?_; simp [thenQ, blockQ]) | (refine aw_ret ?_; simp only [thenQ, blockQ]) | (refine hK _ ?_; clear hK) | (clear hK; refine hK _ ?_; clear hK) | (clear hK; clear hK; refine hK _ ?_; clear hK) | (clear hK; clear hK; clear hK; refine hK _ ?_; clear hK))
    · have e : allB s f w = false := allB_false fun hh => hh (f + n) (by omega) (by omega) h
      rw [e]
      refine ⟨by simp, ?_⟩
      simp [leaves_iff, Try.f58]
      try (first | omega | (refine decide_eq_decide.2 ?_; omega) | (refine decide_eq_false ?_; omega) | (refine decide_eq_true ?_; omega))
    · refine ⟨n + 1, ?_, ⟨by omega, fun g h1 h2 => ?_⟩, by omega⟩
      · exact le_of2 (by simp) (by simp [AVle, AV.under, AV.underL] <;> omega) (by simp [AOle, AO.under, AV.underL, AV.under] <;> omega)
      · by_cases e : g = f + n
        · subst e; exact h
        · exact hinv g h1 (by omega)
    · obtain rfl : n = w := by omega
      have e : allB s f n = true := allB_true hinv
      rw [e]
      refine ⟨by simp, ?_⟩
      simp [leaves_iff, Try.f58]
      try (first | omega | (refine decide_eq_decide.2 ?_; omega) | (refine decide_eq_false ?_; omega) | (refine decide_eq_true ?_; omega))

open Classical in
noncomputable def sameB (z y : Zn) : Bool := decide (z = y)

theorem sameB_ne {z y : Zn} (h : ¬ z = y) : sameB z y = false := by unfold sameB; simpa using h
theorem sameB_eq {z y : Zn} (h : z = y) : sameB z y = true := by unfold sameB; simpa using h

theorem s20 (X : AX) (hX : XOK Try.prog X) (hw : X.W wT) (h32 : ∀ a b M n, a.length ≤ 1000000 → b.length ≤ 1000000 → X.call 32 [.rd 1 (irows a), .rd 1 (irows b)] M n = some (B (a = b), [])) :
    PSound Try.prog 20 (specF (ι := {x : Zn × Zn // small x.1 ∧ small x.2}) (fun x => [.agg x.1.1.cells, .agg x.1.2.cells]) fun x => retOf [B (sameB x.1.1 x.1.2)]) := by
  refine psound_spec hX mixed Try.func20 rfl fun ⟨⟨z, y⟩, hz, hy⟩ w0 G => ⟨by show 2 ≤ 53; decide, rfl, ?_⟩
  show AW ⟨Try.prog, X, 53, w0, .pure G⟩ _ _ _
  have hc : Cx.OK ⟨Try.prog, X, 53, w0, .pure G⟩ := ⟨hX, mixed⟩
  simp only at hz hy
  repeat' (first | (apply aw_seq_k; intro K hK) | (refine aw_run hc (by first | exact aw_nod | (intro _; rw [ordB_w hw]; kernel_rfl) | (intro _; kernel_rfl)) ?_; simp (disch := first | omega | assumption | (simp; done) | fail) [if_pos, if_neg, List.zipIdx]; try (repeat' (refine guardQ_split (fun h => ?_) (fun h => ?_) <;> simp at h <;> simp (disch := first | omega | assumption | (simp; done) | fail) [if_pos, if_neg, List.zipIdx]))) | (refine aw_cond (b := _) (by exact rfl) (fun h => ?_) (fun h => ?_) <;> (try simp at h)) | (refine aw_block ?_) | (refine aw_skip ?_; simp only [thenQ, blockQ, if_true]) | (refine aw_exit ?_; simp [thenQ, blockQ]) | (refine aw_ret ?_; simp only [thenQ, blockQ]) | (refine hK _ ?_; clear hK) | (clear hK; refine hK _ ?_; clear hK) | (clear hK; clear hK; refine hK _ ?_; clear hK) | (clear hK; clear hK; clear hK; refine hK _ ?_; clear hK))
  · rw [sameB_ne fun hh => h (by rw [hh])]
    refine ⟨by simp, ?_⟩
    simp [leaves_iff, Try.f20]
    try (first | omega | (refine decide_eq_decide.2 ?_; omega) | (refine decide_eq_false ?_; omega) | (refine decide_eq_true ?_; omega))
  · refine aw_loopK (s0 := ?lps2) (m0 := ?lpm2) (ι := {i : Nat // i ≤ 5 ∧ ∀ k, k < i → z.fr k = y.fr k}) [2, 3] (fun i => [(5, I i.1)]) (fun _ => []) (fun i => 5 - i.1) ⟨0, by omega, by omega⟩ ?lhs2 ?lhm2 ?_ ?_
    case lhs2 => first | (simp [keepS]; done) | (simp [keepS]; rfl)
    case lhm2 => first | rfl | (simp; done) | (simp; rfl)
    · exact le_of2 (by simp) (by simp [AVle, AV.under, AV.underL] <;> omega) (by simp [AOle, AO.under, AV.underL, AV.under] <;> omega)
    · rintro ⟨i, hi, hinv⟩
      have hzi := hz i
      have hyi := hy i
      simp only
      repeat' (first | (apply aw_seq_k; intro K hK) | (refine aw_run hc (by first | exact aw_nod | (intro _; rw [ordB_w hw]; kernel_rfl) | (intro _; kernel_rfl)) ?_; simp (disch := first | omega | assumption | (simp; done) | fail) [if_pos, if_neg, List.zipIdx, wrap64, Zn.cf, h32]; try (repeat' (refine guardQ_split (fun h => ?_) (fun h => ?_) <;> simp at h <;> simp (disch := first | omega | assumption | (simp; done) | fail) [if_pos, if_neg, List.zipIdx, wrap64, Zn.cf, h32]))) | (refine aw_cond (b := _) (by exact rfl) (fun h => ?_) (fun h => ?_) <;> (try simp at h)) | (refine aw_block ?_) | (refine aw_skip ?_; simp only [thenQ, blockQ, if_true]) | (refine aw_exit ?_; simp [thenQ, blockQ]) | (refine aw_ret ?_; simp only [thenQ, blockQ]) | (refine hK _ ?_; clear hK) | (clear hK; refine hK _ ?_; clear hK) | (clear hK; clear hK; refine hK _ ?_; clear hK) | (clear hK; clear hK; clear hK; refine hK _ ?_; clear hK))
      · rw [sameB_ne fun hh => h (by rw [hh])]
        refine ⟨by simp, ?_⟩
        simp [leaves_iff, Try.f20]
        try (first | omega | (refine decide_eq_decide.2 ?_; omega) | (refine decide_eq_false ?_; omega) | (refine decide_eq_true ?_; omega))
      · refine ⟨i + 1, ?_, ⟨by omega, fun k hk => ?_⟩, by omega⟩
        · exact le_of2 (by simp) (by simp [AVle, AV.under, AV.underL] <;> omega) (by simp [AOle, AO.under, AV.underL, AV.under] <;> omega)
        · by_cases e : k = i
          · subst e; exact h
          · exact hinv k (by omega)
      · rw [sameB_eq (Zn.ext_fr (by assumption) (by assumption) (by assumption) (by assumption) (by assumption) fun k hk => hinv k (by omega))]
        refine ⟨by simp, ?_⟩
        simp [leaves_iff, Try.f20]
        try (first | omega | (refine decide_eq_decide.2 ?_; omega) | (refine decide_eq_false ?_; omega) | (refine decide_eq_true ?_; omega))
  all_goals first
    | rw [sameB_ne fun hh => (by assumption : ¬ z.node = y.node) (by rw [hh])]
    | rw [sameB_ne fun hh => (by assumption : ¬ z.kind = y.kind) (by rw [hh])]
    | rw [sameB_ne fun hh => (by assumption : ¬ z.start = y.start) (by rw [hh])]
    | rw [sameB_ne fun hh => (by assumption : ¬ z.count = y.count) (by rw [hh])]
    | rw [sameB_ne fun hh => (by assumption : ¬ z.least = y.least) (by rw [hh])]
  all_goals
    refine ⟨by simp, ?_⟩
    simp [leaves_iff, Try.f20]
    try (first | omega | (refine decide_eq_decide.2 ?_; omega) | (refine decide_eq_false ?_; omega) | (refine decide_eq_true ?_; omega))
end Go.AM
