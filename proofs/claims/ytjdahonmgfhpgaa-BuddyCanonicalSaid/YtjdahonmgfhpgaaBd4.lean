/- A part of the proof: what functions of the program compute, by abstract execution of their code. Its theorems hold without further condition. -/
import Derived.Test.YtjdahonmgfhpgaaAmT
import Derived.Test.YtjdahonmgfhpgaaBdP
set_option linter.all false
namespace Go.AM
open Go Go.Proofs

@[simp] theorem ty44 : Types Try.prog 44 = some ⟨.int .u64, 1, 8, [.int .u64 0]⟩ := by kernel_rfl

theorem s64 (X : AX) (hX : XOK Try.prog X) : PSound Try.prog 64 (specF (ι := Int) (fun x => [I x]) fun _ => retOf [B false]) := by
  refine psound_spec hX mixed Try.func64 rfl fun x w0 G => ⟨by show 1 ≤ 6; decide, rfl, ?_⟩
  show AW ⟨Try.prog, X, 6, w0, .pure G⟩ _ _ _
  have hc : Cx.OK ⟨Try.prog, X, 6, w0, .pure G⟩ := ⟨hX, mixed⟩
  repeat' (first | (apply aw_seq_k; intro K hK) | (refine aw_run hc (by first | exact aw_nod | (intro _; rw [ordB_w hw]; kernel_rfl) | (intro _; kernel_rfl)) ?_; simp (disch := first | omega | assumption | (simp; done) | fail) [if_pos, if_neg, List.zipIdx]; try (repeat' (refine guardQ_split (fun h => ?_) (fun h => ?_) <;> simp at h <;> simp (disch := first | omega | assumption | (simp; done) | fail) [if_pos, if_neg, List.zipIdx]))) | (refine aw_cond (b := _) (by exact rfl) (fun h => ?_) (fun h => ?_) <;> (try simp at h)) | (refine aw_block ?_) | (refine aw_skip ?_; simp only [thenQ, blockQ, if_true]) | (refine aw_exit ?_; simp [thenQ, blockQ]) | (refine aw_ret ?_; simp only [thenQ, blockQ]) | (refine hK _ ?_; clear hK) | (clear hK; refine hK _ ?_; clear hK) | (clear hK; clear hK; refine hK _ ?_; clear hK) | (clear hK; clear hK; clear hK; refine hK _ ?_; clear hK))
  refine ⟨by simp, ?_⟩
  simp [leaves_iff, Try.f64]
  try (first | omega | (refine decide_eq_decide.2 ?_; omega) | (refine decide_eq_false ?_; omega) | (refine decide_eq_true ?_; omega))

theorem s57 (X : AX) (hX : XOK Try.prog X) : PSound Try.prog 57 (specF (ι := Int) (fun x => [I x]) fun _ => retOf [B false]) := by
  refine psound_spec hX mixed Try.func57 rfl fun x w0 G => ⟨by show 1 ≤ 6; decide, rfl, ?_⟩
  show AW ⟨Try.prog, X, 6, w0, .pure G⟩ _ _ _
  have hc : Cx.OK ⟨Try.prog, X, 6, w0, .pure G⟩ := ⟨hX, mixed⟩
  repeat' (first | (apply aw_seq_k; intro K hK) | (refine aw_run hc (by first | exact aw_nod | (intro _; rw [ordB_w hw]; kernel_rfl) | (intro _; kernel_rfl)) ?_; simp (disch := first | omega | assumption | (simp; done) | fail) [if_pos, if_neg, List.zipIdx]; try (repeat' (refine guardQ_split (fun h => ?_) (fun h => ?_) <;> simp at h <;> simp (disch := first | omega | assumption | (simp; done) | fail) [if_pos, if_neg, List.zipIdx]))) | (refine aw_cond (b := _) (by exact rfl) (fun h => ?_) (fun h => ?_) <;> (try simp at h)) | (refine aw_block ?_) | (refine aw_skip ?_; simp only [thenQ, blockQ, if_true]) | (refine aw_exit ?_; simp [thenQ, blockQ]) | (refine aw_ret ?_; simp only [thenQ, blockQ]) | (refine hK _ ?_; clear hK) | (clear hK; refine hK _ ?_; clear hK) | (clear hK; clear hK; refine hK _ ?_; clear hK) | (clear hK; clear hK; clear hK; refine hK _ ?_; clear hK))
  refine ⟨by simp, ?_⟩
  simp [leaves_iff, Try.f57]
  try (first | omega | (refine decide_eq_decide.2 ?_; omega) | (refine decide_eq_false ?_; omega) | (refine decide_eq_true ?_; omega))

theorem s56 (X : AX) (hX : XOK Try.prog X) (h64 : ∀ x M n, X.call 64 [I x] M n = some (B false, [])) : PSound Try.prog 56 (specF (ι := Int × Int) (fun x => [I x.1, I x.2]) fun x => retOf [B (x.1 < x.2)]) := by
  refine psound_spec hX mixed Try.func56 rfl fun x w0 G => ⟨by show 2 ≤ 17; decide, rfl, ?_⟩
  show AW ⟨Try.prog, X, 17, w0, .pure G⟩ _ _ _
  have hc : Cx.OK ⟨Try.prog, X, 17, w0, .pure G⟩ := ⟨hX, mixed⟩
  repeat' (first | (apply aw_seq_k; intro K hK) | (refine aw_run hc (by first | exact aw_nod | (intro _; rw [ordB_w hw]; kernel_rfl) | (intro _; kernel_rfl)) ?_; simp (disch := first | omega | assumption | (simp; done) | fail) [if_pos, if_neg, List.zipIdx, h64]; try (repeat' (refine guardQ_split (fun h => ?_) (fun h => ?_) <;> simp at h <;> simp (disch := first | omega | assumption | (simp; done) | fail) [if_pos, if_neg, List.zipIdx, h64]))) | (refine aw_cond (b := _) (by exact rfl) (fun h => ?_) (fun h => ?_) <;> (try simp at h)) | (refine aw_block ?_) | (refine aw_skip ?_; simp only [thenQ, blockQ, if_true]) | (refine aw_exit ?_; simp [thenQ, blockQ]) | (refine aw_ret ?_; simp only [thenQ, blockQ]) | (refine hK _ ?_; clear hK) | (clear hK; refine hK _ ?_; clear hK) | (clear hK; clear hK; refine hK _ ?_; clear hK) | (clear hK; clear hK; clear hK; refine hK _ ?_; clear hK))
  refine ⟨by simp, ?_⟩
  simp [leaves_iff, Try.f56]
  try (first | omega | (refine decide_eq_decide.2 ?_; omega) | (refine decide_eq_false ?_; omega) | (refine decide_eq_true ?_; omega))

/-- How many numbers of a list lie below. -/
def below (l : List Int) (x : Int) : Nat := l.countP (· < x)

theorem below_split {l : List Int} (hs : Sorted l) {x : Int} {i : Nat} (hi : i ≤ l.length) (h1 : ∀ j, j < i → gi l j < x) (h2 : ∀ j, i ≤ j → j < l.length → x ≤ gi l j) : below l x = i := by
  unfold below
  conv => lhs; rw [← List.take_append_drop i l]
  rw [List.countP_append]
  have e1 : (l.take i).countP (· < x) = (l.take i).length := by
    rw [List.countP_eq_length]
    intro y hy
    obtain ⟨j, hj, rfl⟩ := List.getElem_of_mem hy
    have hj' : j < i := by simp at hj; omega
    have := h1 j hj'
    rw [gi_eq (by omega)] at this
    simpa using this
  have e2 : (l.drop i).countP (· < x) = 0 := by
    rw [List.countP_eq_zero]
    intro y hy
    obtain ⟨j, hj, rfl⟩ := List.getElem_of_mem hy
    simp at hj
    have := h2 (i + j) (by omega) (by omega)
    rw [gi_eq (by omega)] at this
    simp at this ⊢
    omega
  rw [e1, e2]
  simp; omega

theorem sorted_lt {l : List Int} (hs : Sorted l) {i j : Nat} (h : i < j) (hj : j < l.length) : gi l i < gi l j := by
  rw [gi_eq (by omega), gi_eq hj]
  exact List.pairwise_iff_getElem.1 hs i j (by omega) hj h

theorem sorted_le {l : List Int} (hs : Sorted l) {i j : Nat} (h : i ≤ j) (hj : j < l.length) : gi l i ≤ gi l j := by
  rcases Nat.lt_or_eq_of_le h with h | rfl
  · exact Int.le_of_lt (sorted_lt hs h hj)
  · exact Int.le_refl _

theorem s43 (X : AX) (hX : XOK Try.prog X) (h56 : ∀ x y M n, X.call 56 [I x, I y] M n = some (B (x < y), [])) (h57 : ∀ x M n, X.call 57 [I x] M n = some (B false, [])) :
    PSound Try.prog 43 (specF (ι := {x : List Int × Int // Sorted x.1 ∧ x.1.length ≤ 1000000}) (fun x => [.rd 1 (irows x.1.1), I x.1.2]) fun x => retOf [I (below x.1.1 x.1.2), B (x.1.2 ∈ x.1.1)]) := by
  refine psound_spec hX mixed Try.func43 rfl fun ⟨⟨l, x⟩, hs, hl⟩ w0 G => ⟨by show 2 ≤ 54; decide, rfl, ?_⟩
  simp only at hs hl
  show AW ⟨Try.prog, X, 54, w0, .pure G⟩ _ _ _
  have hc : Cx.OK ⟨Try.prog, X, 54, w0, .pure G⟩ := ⟨hX, mixed⟩
  repeat' (first | (apply aw_seq_k; intro K hK) | (refine aw_run hc (by first | exact aw_nod | (intro _; rw [ordB_w hw]; kernel_rfl) | (intro _; kernel_rfl)) ?_; simp (disch := first | omega | assumption | (simp; done) | fail) [if_pos, if_neg, List.zipIdx]; try (repeat' (refine guardQ_split (fun h => ?_) (fun h => ?_) <;> simp at h <;> simp (disch := first | omega | assumption | (simp; done) | fail) [if_pos, if_neg, List.zipIdx]))) | (refine aw_cond (b := _) (by exact rfl) (fun h => ?_) (fun h => ?_) <;> (try simp at h)) | (refine aw_block ?_) | (refine aw_skip ?_; simp only [thenQ, blockQ, if_true]) | (refine aw_exit ?_; simp [thenQ, blockQ]) | (refine aw_ret ?_; simp only [thenQ, blockQ]) | (refine hK _ ?_; clear hK) | (clear hK; refine hK _ ?_; clear hK) | (clear hK; clear hK; refine hK _ ?_; clear hK) | (clear hK; clear hK; clear hK; refine hK _ ?_; clear hK))
  refine aw_loopK (s0 := ?lps1) (m0 := ?lpm1) (ι := {p : Nat × Nat // p.1 ≤ p.2 ∧ p.2 ≤ l.length ∧ (∀ j, j < p.1 → gi l j < x) ∧ (∀ j, p.2 ≤ j → j < l.length → x ≤ gi l j)}) [0, 1, 6] (fun i => [(7, I i.1.1), (8, I i.1.2)]) (fun _ => []) (fun i => i.1.2 - i.1.1) ⟨(0, l.length), by simp; omega⟩ ?lhs1 ?lhm1 ?_ ?_
  case lhs1 => first | (simp [keepS]; done) | (simp [keepS]; rfl)
  case lhm1 => first | rfl | (simp; done) | (simp; rfl)
  · exact le_of2 (by simp) (by simp [AVle, AV.under, AV.underL] <;> omega) (by simp [AOle, AO.under, AV.underL, AV.under] <;> omega)
  · rintro ⟨⟨i, j⟩, hij, hj, h1, h2⟩
    simp only at hij hj h1 h2
    simp only
    obtain ⟨m, hh⟩ : ∃ m : Nat, ((i : Int) + j) / 2 = m := ⟨(i + j) / 2, by omega⟩
    repeat' (first | (apply aw_seq_k; intro K hK) | (refine aw_run hc (by first | exact aw_nod | (intro _; rw [ordB_w hw]; kernel_rfl) | (intro _; kernel_rfl)) ?_; simp (disch := first | omega | assumption | (simp; done) | fail) [if_pos, if_neg, List.zipIdx, irows_gi, wrap64, wrapU64, h56, h57, bits64, (show IntKind.u64.bits = 64 from rfl), hh, Int.toNat_natCast]; try (repeat' (refine guardQ_split (fun h => ?_) (fun h => ?_) <;> simp at h <;> simp (disch := first | omega | assumption | (simp; done) | fail) [if_pos, if_neg, List.zipIdx, irows_gi, wrap64, wrapU64, h56, h57, bits64, (show IntKind.u64.bits = 64 from rfl), hh, Int.toNat_natCast]))) | (refine aw_cond (b := _) (by exact rfl) (fun h => ?_) (fun h => ?_) <;> (try simp at h)) | (refine aw_block ?_) | (refine aw_skip ?_; simp only [thenQ, blockQ, if_true]) | (refine aw_exit ?_; simp [thenQ, blockQ]) | (refine aw_ret ?_; simp only [thenQ, blockQ]) | (refine hK _ ?_; clear hK) | (clear hK; refine hK _ ?_; clear hK) | (clear hK; clear hK; refine hK _ ?_; clear hK) | (clear hK; clear hK; clear hK; refine hK _ ?_; clear hK))
    · refine ⟨m + 1, j, ?_, ⟨by omega, hj, fun k hk => ?_, h2⟩, by omega⟩
      · exact le_of2 (by simp) (by simp [AVle, AV.under, AV.underL] <;> omega) (by simp [AOle, AO.under, AV.underL, AV.under] <;> omega)
      · have := sorted_le hs (show k ≤ m by omega) (by omega)
        omega
    · refine ⟨i, m, ?_, ⟨by omega, by omega, h1, fun k hk hk2 => ?_⟩, by omega⟩
      · exact le_of2 (by simp) (by simp [AVle, AV.under, AV.underL] <;> omega) (by simp [AOle, AO.under, AV.underL, AV.under] <;> omega)
      · have := sorted_le hs hk hk2
        omega
    all_goals obtain rfl : i = j := by omega
    all_goals have hbl := below_split hs (x := x) hj h1 h2
    all_goals rw [hbl]
    · refine ⟨by simp, ?_⟩
      simp [leaves_iff, Try.f43]
      try (first | omega | (refine decide_eq_decide.2 ?_; omega) | (refine decide_eq_false ?_; omega) | (refine decide_eq_true ?_; omega))
      intro hx
      obtain ⟨k, hk, rfl⟩ := gi_of_mem hx
      rcases Nat.lt_trichotomy k i with c | rfl | c
      · have := h1 k c; omega
      · exact h rfl
      · have := sorted_lt hs c hk
        have := h2 i (Nat.le_refl _) (by omega)
        omega
    · rename_i h3
      refine ⟨by simp, ?_⟩
      simp [leaves_iff, Try.f43]
      try (first | omega | (refine decide_eq_decide.2 ?_; omega) | (refine decide_eq_false ?_; omega) | (refine decide_eq_true ?_; omega))
      rw [← h3]
      exact gi_mem (by omega)
    · refine ⟨by simp, ?_⟩
      simp [leaves_iff, Try.f43]
      try (first | omega | (refine decide_eq_decide.2 ?_; omega) | (refine decide_eq_false ?_; omega) | (refine decide_eq_true ?_; omega))
      intro hx
      obtain ⟨k, hk, rfl⟩ := gi_of_mem hx
      have a1 := h1 k (by omega)
      omega
end Go.AM