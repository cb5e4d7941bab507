/- Zonelist: the reference's policy, first, Same; valid, far. -/
import Derived.Test.YtdhhdnbdceoenaaZl14
set_option linter.all false

namespace Go.AM
open Go Go.Proofs

theorem s37 (X : AX) (hX : XOK Try.prog X) : PSound Try.prog 37 (specF (ι := Po) (fun p => [.agg [I p.kind, I p.nodes, I p.turn]]) fun p => retOf [I (polE p)]) := by
  refine psound_spec hX mixed Try.func37 rfl fun ⟨k, m, t⟩ w0 G => ⟨by show 1 ≤ 32; decide, rfl, ?_⟩
  show AW ⟨Try.prog, X, 32, w0, .pure G⟩ _ _ _
  have hc : Cx.OK ⟨Try.prog, X, 32, w0, .pure G⟩ := ⟨hX, mixed⟩
  simp only [polE]
  rcases Decidable.em (k < 0) with h1 | h1
  · repeat' (first | (apply aw_seq_k; intro K hK) | (refine aw_run hc (by first | exact aw_nod | (intro _; rw [ordB_w hw]; kernel_rfl) | (intro _; rw [ordB_w0 hw0]; kernel_rfl) | (intro _; kernel_rfl)) ?_; simp [h1, -getM, getM_hit, getM_miss, getM_none]; (repeat (simp (disch := first | omega | assumption | fail) only [if_pos, if_neg, wrap64]; try simp [h1, -getM, getM_hit, getM_miss, getM_none])); try (repeat' (refine guardQ_split (fun h => ?_) (fun h => ?_) <;> simp at h <;> (simp [h1, -getM, getM_hit, getM_miss, getM_none]; (repeat (simp (disch := first | omega | assumption | fail) only [if_pos, if_neg, wrap64]; try simp [h1, -getM, getM_hit, getM_miss, getM_none])))))) | (refine aw_cond (b := _) (by exact rfl) (fun h => ?_) (fun h => ?_) <;> (try simp at h)) | (refine aw_block ?_) | (refine aw_skip ?_; simp only [thenQ, blockQ, if_true]) | (refine aw_exit ?_; simp [thenQ, blockQ]) | (refine aw_ret ?_; simp only [thenQ, blockQ]) | (refine aw_round ?_) | (refine hK _ ?_; clear hK) | (clear hK; refine hK _ ?_; clear hK) | (clear hK; clear hK; refine hK _ ?_; clear hK) | (clear hK; clear hK; clear hK; refine hK _ ?_; clear hK))
    refine ⟨by simp, ?_⟩
    simp [leaves_iff, Try.f37, h1]
    try (first | omega | (refine decide_eq_decide.2 ?_; omega) | (refine decide_eq_false ?_; omega) | (refine decide_eq_true ?_; omega))
  rcases Decidable.em (3 < k) with h2 | h2
  · repeat' (first | (apply aw_seq_k; intro K hK) | (refine aw_run hc (by first | exact aw_nod | (intro _; rw [ordB_w hw]; kernel_rfl) | (intro _; rw [ordB_w0 hw0]; kernel_rfl) | (intro _; kernel_rfl)) ?_; simp [h1, h2, -getM, getM_hit, getM_miss, getM_none]; (repeat (simp (disch := first | omega | assumption | fail) only [if_pos, if_neg, wrap64]; try simp [h1, h2, -getM, getM_hit, getM_miss, getM_none])); try (repeat' (refine guardQ_split (fun h => ?_) (fun h => ?_) <;> simp at h <;> (simp [h1, h2, -getM, getM_hit, getM_miss, getM_none]; (repeat (simp (disch := first | omega | assumption | fail) only [if_pos, if_neg, wrap64]; try simp [h1, h2, -getM, getM_hit, getM_miss, getM_none])))))) | (refine aw_cond (b := _) (by exact rfl) (fun h => ?_) (fun h => ?_) <;> (try simp at h)) | (refine aw_block ?_) | (refine aw_skip ?_; simp only [thenQ, blockQ, if_true]) | (refine aw_exit ?_; simp [thenQ, blockQ]) | (refine aw_ret ?_; simp only [thenQ, blockQ]) | (refine aw_round ?_) | (refine hK _ ?_; clear hK) | (clear hK; refine hK _ ?_; clear hK) | (clear hK; clear hK; refine hK _ ?_; clear hK) | (clear hK; clear hK; clear hK; refine hK _ ?_; clear hK))
    refine ⟨by simp, ?_⟩
    simp [leaves_iff, Try.f37, h1, h2]
    try (first | omega | (refine decide_eq_decide.2 ?_; omega) | (refine decide_eq_false ?_; omega) | (refine decide_eq_true ?_; omega))
  rcases Decidable.em (k = 0) with h3 | h3
  · subst h3
    repeat' (first | (apply aw_seq_k; intro K hK) | (refine aw_run hc (by first | exact aw_nod | (intro _; rw [ordB_w hw]; kernel_rfl) | (intro _; rw [ordB_w0 hw0]; kernel_rfl) | (intro _; kernel_rfl)) ?_; simp [h1, -getM, getM_hit, getM_miss, getM_none]; (repeat (simp (disch := first | omega | assumption | fail) only [if_pos, if_neg, wrap64]; try simp [h1, -getM, getM_hit, getM_miss, getM_none])); try (repeat' (refine guardQ_split (fun h => ?_) (fun h => ?_) <;> simp at h <;> (simp [h1, -getM, getM_hit, getM_miss, getM_none]; (repeat (simp (disch := first | omega | assumption | fail) only [if_pos, if_neg, wrap64]; try simp [h1, -getM, getM_hit, getM_miss, getM_none])))))) | (refine aw_cond (b := _) (by exact rfl) (fun h => ?_) (fun h => ?_) <;> (try simp at h)) | (refine aw_block ?_) | (refine aw_skip ?_; simp only [thenQ, blockQ, if_true]) | (refine aw_exit ?_; simp [thenQ, blockQ]) | (refine aw_ret ?_; simp only [thenQ, blockQ]) | (refine aw_round ?_) | (refine hK _ ?_; clear hK) | (clear hK; refine hK _ ?_; clear hK) | (clear hK; clear hK; refine hK _ ?_; clear hK) | (clear hK; clear hK; clear hK; refine hK _ ?_; clear hK))
    refine ⟨by simp, ?_⟩
    simp [leaves_iff, Try.f37]
    try (first | omega | (refine decide_eq_decide.2 ?_; omega) | (refine decide_eq_false ?_; omega) | (refine decide_eq_true ?_; omega))
  rcases Decidable.em (m < 1) with h4 | h4
  · repeat' (first | (apply aw_seq_k; intro K hK) | (refine aw_run hc (by first | exact aw_nod | (intro _; rw [ordB_w hw]; kernel_rfl) | (intro _; rw [ordB_w0 hw0]; kernel_rfl) | (intro _; kernel_rfl)) ?_; simp [h1, h2, h3, h4, -getM, getM_hit, getM_miss, getM_none]; (repeat (simp (disch := first | omega | assumption | fail) only [if_pos, if_neg, wrap64]; try simp [h1, h2, h3, h4, -getM, getM_hit, getM_miss, getM_none])); try (repeat' (refine guardQ_split (fun h => ?_) (fun h => ?_) <;> simp at h <;> (simp [h1, h2, h3, h4, -getM, getM_hit, getM_miss, getM_none]; (repeat (simp (disch := first | omega | assumption | fail) only [if_pos, if_neg, wrap64]; try simp [h1, h2, h3, h4, -getM, getM_hit, getM_miss, getM_none])))))) | (refine aw_cond (b := _) (by exact rfl) (fun h => ?_) (fun h => ?_) <;> (try simp at h)) | (refine aw_block ?_) | (refine aw_skip ?_; simp only [thenQ, blockQ, if_true]) | (refine aw_exit ?_; simp [thenQ, blockQ]) | (refine aw_ret ?_; simp only [thenQ, blockQ]) | (refine aw_round ?_) | (refine hK _ ?_; clear hK) | (clear hK; refine hK _ ?_; clear hK) | (clear hK; clear hK; refine hK _ ?_; clear hK) | (clear hK; clear hK; clear hK; refine hK _ ?_; clear hK))
    refine ⟨by simp, ?_⟩
    simp [leaves_iff, Try.f37, h1, h2, h3, h4]
    try (first | omega | (refine decide_eq_decide.2 ?_; omega) | (refine decide_eq_false ?_; omega) | (refine decide_eq_true ?_; omega))
  rcases Decidable.em (15 < m) with h5 | h5
  · have h5' : 16 ≤ m := by omega
    repeat' (first | (apply aw_seq_k; intro K hK) | (refine aw_run hc (by first | exact aw_nod | (intro _; rw [ordB_w hw]; kernel_rfl) | (intro _; rw [ordB_w0 hw0]; kernel_rfl) | (intro _; kernel_rfl)) ?_; simp [h1, h2, h3, h4, h5, h5', -getM, getM_hit, getM_miss, getM_none]; (repeat (simp (disch := first | omega | assumption | fail) only [if_pos, if_neg, wrap64]; try simp [h1, h2, h3, h4, h5, h5', -getM, getM_hit, getM_miss, getM_none])); try (repeat' (refine guardQ_split (fun h => ?_) (fun h => ?_) <;> simp at h <;> (simp [h1, h2, h3, h4, h5, h5', -getM, getM_hit, getM_miss, getM_none]; (repeat (simp (disch := first | omega | assumption | fail) only [if_pos, if_neg, wrap64]; try simp [h1, h2, h3, h4, h5, h5', -getM, getM_hit, getM_miss, getM_none])))))) | (refine aw_cond (b := _) (by exact rfl) (fun h => ?_) (fun h => ?_) <;> (try simp at h)) | (refine aw_block ?_) | (refine aw_skip ?_; simp only [thenQ, blockQ, if_true]) | (refine aw_exit ?_; simp [thenQ, blockQ]) | (refine aw_ret ?_; simp only [thenQ, blockQ]) | (refine aw_round ?_) | (refine hK _ ?_; clear hK) | (clear hK; refine hK _ ?_; clear hK) | (clear hK; clear hK; refine hK _ ?_; clear hK) | (clear hK; clear hK; clear hK; refine hK _ ?_; clear hK))
    refine ⟨by simp, ?_⟩
    simp [leaves_iff, Try.f37, h1, h2, h3, h4, h5]
    try (first | omega | (refine decide_eq_decide.2 ?_; omega) | (refine decide_eq_false ?_; omega) | (refine decide_eq_true ?_; omega))
  have h5' : ¬ 16 ≤ m := by omega
  rcases Decidable.em (k = 3) with h6 | h6
  · subst h6
    rcases Decidable.em (t < 0) with h7 | h7
    · repeat' (first | (apply aw_seq_k; intro K hK) | (refine aw_run hc (by first | exact aw_nod | (intro _; rw [ordB_w hw]; kernel_rfl) | (intro _; rw [ordB_w0 hw0]; kernel_rfl) | (intro _; kernel_rfl)) ?_; simp [h4, h5, h5', h7, -getM, getM_hit, getM_miss, getM_none]; (repeat (simp (disch := first | omega | assumption | fail) only [if_pos, if_neg, wrap64]; try simp [h4, h5, h5', h7, -getM, getM_hit, getM_miss, getM_none])); try (repeat' (refine guardQ_split (fun h => ?_) (fun h => ?_) <;> simp at h <;> (simp [h4, h5, h5', h7, -getM, getM_hit, getM_miss, getM_none]; (repeat (simp (disch := first | omega | assumption | fail) only [if_pos, if_neg, wrap64]; try simp [h4, h5, h5', h7, -getM, getM_hit, getM_miss, getM_none])))))) | (refine aw_cond (b := _) (by exact rfl) (fun h => ?_) (fun h => ?_) <;> (try simp at h)) | (refine aw_block ?_) | (refine aw_skip ?_; simp only [thenQ, blockQ, if_true]) | (refine aw_exit ?_; simp [thenQ, blockQ]) | (refine aw_ret ?_; simp only [thenQ, blockQ]) | (refine aw_round ?_) | (refine hK _ ?_; clear hK) | (clear hK; refine hK _ ?_; clear hK) | (clear hK; clear hK; refine hK _ ?_; clear hK) | (clear hK; clear hK; clear hK; refine hK _ ?_; clear hK))
      refine ⟨by simp, ?_⟩
      simp [leaves_iff, Try.f37, h4, h5, h7]
      try (first | omega | (refine decide_eq_decide.2 ?_; omega) | (refine decide_eq_false ?_; omega) | (refine decide_eq_true ?_; omega))
    · repeat' (first | (apply aw_seq_k; intro K hK) | (refine aw_run hc (by first | exact aw_nod | (intro _; rw [ordB_w hw]; kernel_rfl) | (intro _; rw [ordB_w0 hw0]; kernel_rfl) | (intro _; kernel_rfl)) ?_; simp [h4, h5, h5', h7, -getM, getM_hit, getM_miss, getM_none]; (repeat (simp (disch := first | omega | assumption | fail) only [if_pos, if_neg, wrap64]; try simp [h4, h5, h5', h7, -getM, getM_hit, getM_miss, getM_none])); try (repeat' (refine guardQ_split (fun h => ?_) (fun h => ?_) <;> simp at h <;> (simp [h4, h5, h5', h7, -getM, getM_hit, getM_miss, getM_none]; (repeat (simp (disch := first | omega | assumption | fail) only [if_pos, if_neg, wrap64]; try simp [h4, h5, h5', h7, -getM, getM_hit, getM_miss, getM_none])))))) | (refine aw_cond (b := _) (by exact rfl) (fun h => ?_) (fun h => ?_) <;> (try simp at h)) | (refine aw_block ?_) | (refine aw_skip ?_; simp only [thenQ, blockQ, if_true]) | (refine aw_exit ?_; simp [thenQ, blockQ]) | (refine aw_ret ?_; simp only [thenQ, blockQ]) | (refine aw_round ?_) | (refine hK _ ?_; clear hK) | (clear hK; refine hK _ ?_; clear hK) | (clear hK; clear hK; refine hK _ ?_; clear hK) | (clear hK; clear hK; clear hK; refine hK _ ?_; clear hK))
      refine ⟨by simp, ?_⟩
      simp [leaves_iff, Try.f37, h4, h5, h7]
      try (first | omega | (refine decide_eq_decide.2 ?_; omega) | (refine decide_eq_false ?_; omega) | (refine decide_eq_true ?_; omega))
  · repeat' (first | (apply aw_seq_k; intro K hK) | (refine aw_run hc (by first | exact aw_nod | (intro _; rw [ordB_w hw]; kernel_rfl) | (intro _; rw [ordB_w0 hw0]; kernel_rfl) | (intro _; kernel_rfl)) ?_; simp [h1, h2, h3, h4, h5, h5', h6, -getM, getM_hit, getM_miss, getM_none]; (repeat (simp (disch := first | omega | assumption | fail) only [if_pos, if_neg, wrap64]; try simp [h1, h2, h3, h4, h5, h5', h6, -getM, getM_hit, getM_miss, getM_none])); try (repeat' (refine guardQ_split (fun h => ?_) (fun h => ?_) <;> simp at h <;> (simp [h1, h2, h3, h4, h5, h5', h6, -getM, getM_hit, getM_miss, getM_none]; (repeat (simp (disch := first | omega | assumption | fail) only [if_pos, if_neg, wrap64]; try simp [h1, h2, h3, h4, h5, h5', h6, -getM, getM_hit, getM_miss, getM_none])))))) | (refine aw_cond (b := _) (by exact rfl) (fun h => ?_) (fun h => ?_) <;> (try simp at h)) | (refine aw_block ?_) | (refine aw_skip ?_; simp only [thenQ, blockQ, if_true]) | (refine aw_exit ?_; simp [thenQ, blockQ]) | (refine aw_ret ?_; simp only [thenQ, blockQ]) | (refine aw_round ?_) | (refine hK _ ?_; clear hK) | (clear hK; refine hK _ ?_; clear hK) | (clear hK; clear hK; refine hK _ ?_; clear hK) | (clear hK; clear hK; clear hK; refine hK _ ?_; clear hK))
    refine ⟨by simp, ?_⟩
    simp [leaves_iff, Try.f37, h1, h2, h3, h4, h5, h6]
    try (first | omega | (refine decide_eq_decide.2 ?_; omega) | (refine decide_eq_false ?_; omega) | (refine decide_eq_true ?_; omega))

def maskP (m : Int) (n : Nat) : List Int := ([0, 1, 2, 3].take n).filter (inM m)
theorem maskP_zero (m : Int) : maskP m 0 = [] := rfl
theorem maskP_all (m : Int) : maskP m 4 = maskL m := rfl
theorem maskP_succ {m : Int} {n : Nat} (h : n < 4) : maskP m (n + 1) = maskP m n ++ if inM m n then [(n : Int)] else [] := by
  obtain rfl | rfl | rfl | rfl : n = 0 ∨ n = 1 ∨ n = 2 ∨ n = 3 := by omega
  all_goals (simp [maskP, List.filter_cons]; try (cases inM m 0 <;> cases inM m 1 <;> cases inM m 2 <;> cases inM m 3 <;> simp))
theorem maskP_len (m : Int) (n : Nat) : (maskP m n).length ≤ 4 := by
  unfold maskP
  refine Nat.le_trans (List.length_filter_le _ _) ?_
  rw [List.length_take]
  exact Nat.min_le_right _ _

theorem s38 (X : AX) (hX : XOK Try.prog X) (hw : X.W wT) (h39 : ∀ (m n : Nat) M k, m < 16 → n < 4 → X.call 39 [I m, I n] M k = some (B (inM m n), [])) :
    PSound Try.prog 38 (specF (ι := {x : Po × Int // polE x.1 = 0}) (fun x => [.agg [I x.1.1.kind, I x.1.1.nodes, I x.1.1.turn], I x.1.2]) fun x => retOf [I (firstN x.1.1 x.1.2)]) := by
  refine psound_spec hX mixed Try.func38 rfl fun ⟨⟨⟨k, m, t⟩, f⟩, hp⟩ w0 G => ⟨by show 2 ≤ 42; decide, rfl, ?_⟩
  show AW ⟨Try.prog, X, 42, w0, .pure G⟩ _ _ _
  have hc : Cx.OK ⟨Try.prog, X, 42, w0, .pure G⟩ := ⟨hX, mixed⟩
  simp only [firstN] at hp ⊢
  rcases Decidable.em (k = 0) with hk0 | hk0
  · subst hk0
    repeat' (first | (apply aw_seq_k; intro K hK) | (refine aw_run hc (by first | exact aw_nod | (intro _; rw [ordB_w hw]; kernel_rfl) | (intro _; rw [ordB_w0 hw0]; kernel_rfl) | (intro _; kernel_rfl)) ?_; simp [List.zipIdx, -getM, getM_hit, getM_miss, getM_none]; (repeat (simp (disch := first | omega | assumption | fail) only [if_pos, if_neg, wrap64]; try simp [List.zipIdx, -getM, getM_hit, getM_miss, getM_none])); try (repeat' (refine guardQ_split (fun h => ?_) (fun h => ?_) <;> simp at h <;> (simp [List.zipIdx, -getM, getM_hit, getM_miss, getM_none]; (repeat (simp (disch := first | omega | assumption | fail) only [if_pos, if_neg, wrap64]; try simp [List.zipIdx, -getM, getM_hit, getM_miss, getM_none])))))) | (refine aw_cond (b := _) (by exact rfl) (fun h => ?_) (fun h => ?_) <;> (try simp at h)) | (refine aw_block ?_) | (refine aw_skip ?_; simp only [thenQ, blockQ, if_true]) | (refine aw_exit ?_; simp [thenQ, blockQ]) | (refine aw_ret ?_; simp only [thenQ, blockQ]) | (refine aw_round ?_) | (refine hK _ ?_; clear hK) | (clear hK; refine hK _ ?_; clear hK) | (clear hK; clear hK; refine hK _ ?_; clear hK) | (clear hK; clear hK; clear hK; refine hK _ ?_; clear hK))
    refine ⟨by simp, ?_⟩
    simp [leaves_iff, Try.f38]
    try (first | omega | (refine decide_eq_decide.2 ?_; omega) | (refine decide_eq_false ?_; omega) | (refine decide_eq_true ?_; omega))
  rcases Decidable.em (k = 2) with hk2 | hk2
  · subst hk2
    repeat' (first | (apply aw_seq_k; intro K hK) | (refine aw_run hc (by first | exact aw_nod | (intro _; rw [ordB_w hw]; kernel_rfl) | (intro _; rw [ordB_w0 hw0]; kernel_rfl) | (intro _; kernel_rfl)) ?_; simp [List.zipIdx, -getM, getM_hit, getM_miss, getM_none]; (repeat (simp (disch := first | omega | assumption | fail) only [if_pos, if_neg, wrap64]; try simp [List.zipIdx, -getM, getM_hit, getM_miss, getM_none])); try (repeat' (refine guardQ_split (fun h => ?_) (fun h => ?_) <;> simp at h <;> (simp [List.zipIdx, -getM, getM_hit, getM_miss, getM_none]; (repeat (simp (disch := first | omega | assumption | fail) only [if_pos, if_neg, wrap64]; try simp [List.zipIdx, -getM, getM_hit, getM_miss, getM_none])))))) | (refine aw_cond (b := _) (by exact rfl) (fun h => ?_) (fun h => ?_) <;> (try simp at h)) | (refine aw_block ?_) | (refine aw_skip ?_; simp only [thenQ, blockQ, if_true]) | (refine aw_exit ?_; simp [thenQ, blockQ]) | (refine aw_ret ?_; simp only [thenQ, blockQ]) | (refine aw_round ?_) | (refine hK _ ?_; clear hK) | (clear hK; refine hK _ ?_; clear hK) | (clear hK; clear hK; refine hK _ ?_; clear hK) | (clear hK; clear hK; clear hK; refine hK _ ?_; clear hK))
    refine ⟨by simp, ?_⟩
    simp [leaves_iff, Try.f38]
    try (first | omega | (refine decide_eq_decide.2 ?_; omega) | (refine decide_eq_false ?_; omega) | (refine decide_eq_true ?_; omega))
  have hb : 1 ≤ m ∧ m ≤ 15 ∧ (k = 1 ∨ k = 3) ∧ (k = 3 → 0 ≤ t) := by
    unfold polE at hp
    simp only at hp
    split at hp
    · omega
    · split at hp
      · omega
      · split at hp
        · omega
        · omega
  obtain ⟨h1, h15, hk, ht⟩ := hb
  obtain ⟨mn, rfl⟩ := Int.eq_ofNat_of_zero_le (show 0 ≤ m by omega)
  have hlen := maskL_pos (mask := (mn : Int)) (by omega)
  have hlenI : (0 : Int) < ((maskL mn).length : Int) := by omega
  have hap : ∀ (A : List Int) (x : Int), irows A ++ [[I x]] = irows (A ++ [x]) := fun A x => by rw [irows_one, irows_append]
  have htk : ∀ L : List Int, List.take L.length (irows L) = irows L := take_irows
  repeat' (first | (apply aw_seq_k; intro K hK) | (refine aw_run hc (by first | exact aw_nod | (intro _; rw [ordB_w hw]; kernel_rfl) | (intro _; rw [ordB_w0 hw0]; kernel_rfl) | (intro _; kernel_rfl)) ?_; simp [List.zipIdx, hk0, hk2, -getM, getM_hit, getM_miss, getM_none]; (repeat (simp (disch := first | omega | assumption | fail) only [if_pos, if_neg, wrap64]; try simp [List.zipIdx, hk0, hk2, -getM, getM_hit, getM_miss, getM_none])); try (repeat' (refine guardQ_split (fun h => ?_) (fun h => ?_) <;> simp at h <;> (simp [List.zipIdx, hk0, hk2, -getM, getM_hit, getM_miss, getM_none]; (repeat (simp (disch := first | omega | assumption | fail) only [if_pos, if_neg, wrap64]; try simp [List.zipIdx, hk0, hk2, -getM, getM_hit, getM_miss, getM_none])))))) | (refine aw_cond (b := _) (by exact rfl) (fun h => ?_) (fun h => ?_) <;> (try simp at h)) | (refine aw_block ?_) | (refine aw_skip ?_; simp only [thenQ, blockQ, if_true]) | (refine aw_exit ?_; simp [thenQ, blockQ]) | (refine aw_ret ?_; simp only [thenQ, blockQ]) | (refine aw_round ?_) | (refine hK _ ?_; clear hK) | (clear hK; refine hK _ ?_; clear hK) | (clear hK; clear hK; refine hK _ ?_; clear hK) | (clear hK; clear hK; clear hK; refine hK _ ?_; clear hK))
  refine aw_weaken (le_nilslot (t := 5) (sz := 1) (by simp)) ?_

  refine aw_loopK (s0 := ?lps1) (m0 := ?lpm1) (ι := {n : Nat // n ≤ 4}) [2] (fun n => [(6, I n.1), (5, .sl 192 1 1 0 (maskP mn n.1).length)]) (fun n => [(192, .vec 1 1 false (irows (maskP mn n.1)))]) (fun n => 4 - n.1) ⟨0, by omega⟩ ?lhs1 ?lhm1 ?_ ?_
  case lhs1 => first | (simp [keepS]; done) | (simp [keepS]; rfl)
  case lhm1 => first | rfl | (simp; done) | (simp; rfl)
  · simp only [maskP_zero]
    exact le_of2 (by simp) (by simp [AVle, AV.under, AV.underL] <;> omega) (by simp [AOle, AO.under, AV.underL, AV.under] <;> omega)
  · rintro ⟨n, hn⟩
    simp only
    have hml := maskP_len mn n
    rcases Decidable.em (n < 4) with hn4 | hn4
    · have hnI : (n : Int) < 4 := by omega
      have hs := maskP_succ (m := mn) hn4
      have h39z := fun M k => h39 mn n M k (by omega) hn4
      have hml2 : (maskP mn n).length ≤ 1073741823 := by omega
      cases hi : inM (mn : Int) (n : Int)
      · rw [hi] at hs
        simp only [hi] at h39z
        simp at hs
        repeat' (first | (apply aw_seq_k; intro K hK) | (refine aw_run hc (by first | exact aw_nod | (intro _; rw [ordB_w hw]; kernel_rfl) | (intro _; rw [ordB_w0 hw0]; kernel_rfl) | (intro _; kernel_rfl)) ?_; simp [List.zipIdx, hnI, h39z, -getM, getM_hit, getM_miss, getM_none]; (repeat (simp (disch := first | omega | assumption | fail) only [if_pos, if_neg, wrap64]; try simp [List.zipIdx, hnI, h39z, -getM, getM_hit, getM_miss, getM_none])); try (repeat' (refine guardQ_split (fun h => ?_) (fun h => ?_) <;> simp at h <;> (simp [List.zipIdx, hnI, h39z, -getM, getM_hit, getM_miss, getM_none]; (repeat (simp (disch := first | omega | assumption | fail) only [if_pos, if_neg, wrap64]; try simp [List.zipIdx, hnI, h39z, -getM, getM_hit, getM_miss, getM_none])))))) | (refine aw_cond (b := _) (by exact rfl) (fun h => ?_) (fun h => ?_) <;> (try simp at h)) | (refine aw_block ?_) | (refine aw_skip ?_; simp only [thenQ, blockQ, if_true]) | (refine aw_exit ?_; simp [thenQ, blockQ]) | (refine aw_ret ?_; simp only [thenQ, blockQ]) | (refine aw_round ?_) | (refine hK _ ?_; clear hK) | (clear hK; refine hK _ ?_; clear hK) | (clear hK; clear hK; refine hK _ ?_; clear hK) | (clear hK; clear hK; clear hK; refine hK _ ?_; clear hK))
        refine ⟨n + 1, ?_, by omega, by omega⟩
        simp only [hs]
        exact le_of2 (by simp) (by simp [AVle, AV.under, AV.underL] <;> omega) (by simp [AOle, AO.under, AV.underL, AV.under] <;> omega)
      · rw [hi] at hs
        simp only [hi] at h39z
        rw [if_pos rfl] at hs
        have hl : (maskP mn (n + 1)).length = (maskP mn n).length + 1 := by rw [hs]; simp
        repeat' (first | (apply aw_seq_k; intro K hK) | (refine aw_run hc (by first | exact aw_nod | (intro _; rw [ordB_w hw]; kernel_rfl) | (intro _; rw [ordB_w0 hw0]; kernel_rfl) | (intro _; kernel_rfl)) ?_; simp [List.zipIdx, hnI, h39z, htk, hml2, hap, -getM, getM_hit, getM_miss, getM_none]; (repeat (simp (disch := first | omega | assumption | fail) only [if_pos, if_neg, wrap64]; try simp [List.zipIdx, hnI, h39z, htk, hml2, hap, -getM, getM_hit, getM_miss, getM_none])); try (repeat' (refine guardQ_split (fun h => ?_) (fun h => ?_) <;> simp at h <;> (simp [List.zipIdx, hnI, h39z, htk, hml2, hap, -getM, getM_hit, getM_miss, getM_none]; (repeat (simp (disch := first | omega | assumption | fail) only [if_pos, if_neg, wrap64]; try simp [List.zipIdx, hnI, h39z, htk, hml2, hap, -getM, getM_hit, getM_miss, getM_none])))))) | (refine aw_cond (b := _) (by exact rfl) (fun h => ?_) (fun h => ?_) <;> (try simp at h)) | (refine aw_block ?_) | (refine aw_skip ?_; simp only [thenQ, blockQ, if_true]) | (refine aw_exit ?_; simp [thenQ, blockQ]) | (refine aw_ret ?_; simp only [thenQ, blockQ]) | (refine aw_round ?_) | (refine hK _ ?_; clear hK) | (clear hK; refine hK _ ?_; clear hK) | (clear hK; clear hK; refine hK _ ?_; clear hK) | (clear hK; clear hK; clear hK; refine hK _ ?_; clear hK))
        refine ⟨n + 1, ?_, by omega, by omega⟩
        simp only [hs, hl]
        refine le_turn (s1 := ?tus2) (m1 := ?tum2) [] [2, 5, 6] [0, 192] ?tua2 ?tub2 ?tuc2 ?tud2 ?tue2 ?tuf2 ?tug2
        case tua2 => first | (simp [keepS]; done) | (simp [keepS]; rfl)
        case tub2 => first | (simp; done) | (simp; rfl)
        case tuc2 => simp
        case tud2 => simp
        case tue2 => simp
        case tuf2 => simp
        case tug2 =>
          simp [swp, vr]
          exact le_of2 (by simp) (by simp [AVle, AV.under, AV.underL] <;> omega) (by simp [AOle, AO.under, AV.underL, AV.under] <;> omega)
    · obtain rfl : n = 4 := by omega
      rw [maskP_all]
      rcases hk with rfl | rfl
      · have hg := irows_gi (l := maskL mn) (n := 0) hlen
        have hgE : ∀ h, (irows (maskL mn))[0]'h = [I (gi (maskL mn) 0)] := fun h => by rw [List.getElem?_eq_getElem h] at hg; exact Option.some.inj hg
        repeat' (first | (apply aw_seq_k; intro K hK) | (refine aw_run hc (by first | exact aw_nod | (intro _; rw [ordB_w hw]; kernel_rfl) | (intro _; rw [ordB_w0 hw0]; kernel_rfl) | (intro _; kernel_rfl)) ?_; simp [List.zipIdx, hg, hgE, hlen, hlenI, -getM, getM_hit, getM_miss, getM_none]; (repeat (simp (disch := first | omega | assumption | fail) only [if_pos, if_neg, wrap64]; try simp [List.zipIdx, hg, hgE, hlen, hlenI, -getM, getM_hit, getM_miss, getM_none])); try (repeat' (refine guardQ_split (fun h => ?_) (fun h => ?_) <;> simp at h <;> (simp [List.zipIdx, hg, hgE, hlen, hlenI, -getM, getM_hit, getM_miss, getM_none]; (repeat (simp (disch := first | omega | assumption | fail) only [if_pos, if_neg, wrap64]; try simp [List.zipIdx, hg, hgE, hlen, hlenI, -getM, getM_hit, getM_miss, getM_none])))))) | (refine aw_cond (b := _) (by exact rfl) (fun h => ?_) (fun h => ?_) <;> (try simp at h)) | (refine aw_block ?_) | (refine aw_skip ?_; simp only [thenQ, blockQ, if_true]) | (refine aw_exit ?_; simp [thenQ, blockQ]) | (refine aw_ret ?_; simp only [thenQ, blockQ]) | (refine aw_round ?_) | (refine hK _ ?_; clear hK) | (clear hK; refine hK _ ?_; clear hK) | (clear hK; clear hK; refine hK _ ?_; clear hK) | (clear hK; clear hK; clear hK; refine hK _ ?_; clear hK))
        refine ⟨by simp, ?_⟩
        simp [leaves_iff, Try.f38, gi]
        try (first | omega | (refine decide_eq_decide.2 ?_; omega) | (refine decide_eq_false ?_; omega) | (refine decide_eq_true ?_; omega))
      · obtain ⟨r, hr⟩ := Int.eq_ofNat_of_zero_le (Int.emod_nonneg t (show (((maskL mn).length : Nat) : Int) ≠ 0 by omega))
        have hrl := Int.emod_lt_of_pos t hlenI
        rw [hr] at hrl
        have hrl2 : r < (maskL mn).length := by omega
        have htm : Int.tmod t ((maskL mn).length : Int) = (r : Int) := by rw [Int.tmod_eq_emod_of_nonneg (ht rfl)]; exact hr
        have hg := irows_gi (l := maskL mn) (n := r) hrl2
        have hgE : ∀ h, (irows (maskL mn))[r]'h = [I (gi (maskL mn) r)] := fun h => by rw [List.getElem?_eq_getElem h] at hg; exact Option.some.inj hg
        have hneL : ¬ maskL mn = [] := fun e => by rw [e] at hlen; simp at hlen

        repeat' (first | (apply aw_seq_k; intro K hK) | (refine aw_run hc (by first | exact aw_nod | (intro _; rw [ordB_w hw]; kernel_rfl) | (intro _; rw [ordB_w0 hw0]; kernel_rfl) | (intro _; kernel_rfl)) ?_; simp [List.zipIdx, hneL, htm, hrl, hrl2, hg, hgE, -getM, getM_hit, getM_miss, getM_none]; (repeat (simp (disch := first | omega | assumption | fail) only [if_pos, if_neg, wrap64]; try simp [List.zipIdx, hneL, htm, hrl, hrl2, hg, hgE, -getM, getM_hit, getM_miss, getM_none])); try (repeat' (refine guardQ_split (fun h => ?_) (fun h => ?_) <;> simp at h <;> (simp [List.zipIdx, hneL, htm, hrl, hrl2, hg, hgE, -getM, getM_hit, getM_miss, getM_none]; (repeat (simp (disch := first | omega | assumption | fail) only [if_pos, if_neg, wrap64]; try simp [List.zipIdx, hneL, htm, hrl, hrl2, hg, hgE, -getM, getM_hit, getM_miss, getM_none])))))) | (refine aw_cond (b := _) (by exact rfl) (fun h => ?_) (fun h => ?_) <;> (try simp at h)) | (refine aw_block ?_) | (refine aw_skip ?_; simp only [thenQ, blockQ, if_true]) | (refine aw_exit ?_; simp [thenQ, blockQ]) | (refine aw_ret ?_; simp only [thenQ, blockQ]) | (refine aw_round ?_) | (refine hK _ ?_; clear hK) | (clear hK; refine hK _ ?_; clear hK) | (clear hK; clear hK; refine hK _ ?_; clear hK) | (clear hK; clear hK; clear hK; refine hK _ ?_; clear hK))
        refine ⟨by simp, ?_⟩
        simp [leaves_iff, Try.f38, gi, hr]
        try (first | omega | (refine decide_eq_decide.2 ?_; omega) | (refine decide_eq_false ?_; omega) | (refine decide_eq_true ?_; omega))
instance {zs : List Zo} : Decidable (okZs zs) := by unfold okZs; infer_instance
def okZ (z : Zo) : Prop := (0 ≤ z.node ∧ z.node < 4) ∧ (z.kind = 0 ∨ z.kind = 1)
instance {z : Zo} : Decidable (okZ z) := by unfold okZ; infer_instance
theorem s22 (X : AX) (hX : XOK Try.prog X) : PSound Try.prog 22 (specF (ι := List Zx × Int) (fun x => [.rd 10 (zrows x.1), I x.2]) fun x => retOf [B (okZs (zos x.1) ∧ 0 ≤ x.2 ∧ x.2 < 4)]) := by
  refine psound_spec hX mixed Try.func22 rfl fun ⟨xs, n⟩ w0 G => ⟨by show 2 ≤ 53; decide, rfl, ?_⟩
  show AW ⟨Try.prog, X, 53, w0, .pure G⟩ _ _ _
  have hc : Cx.OK ⟨Try.prog, X, 53, w0, .pure G⟩ := ⟨hX, mixed⟩
  simp only
  rcases Decidable.em (6 < xs.length) with h1 | h1
  · have h1I : (6 : Int) < (xs.length : Int) := by omega
    have hno : ¬ (okZs (zos xs) ∧ 0 ≤ n ∧ n < 4) := fun h => by have := h.1.1; rw [zos_len] at this; omega
    rw [show (decide (okZs (zos xs) ∧ 0 ≤ n ∧ n < 4)) = false from decide_eq_false hno]
    repeat' (first | (apply aw_seq_k; intro K hK) | (refine aw_run hc (by first | exact aw_nod | (intro _; rw [ordB_w hw]; kernel_rfl) | (intro _; rw [ordB_w0 hw0]; kernel_rfl) | (intro _; kernel_rfl)) ?_; simp [List.zipIdx, h1I, h1, -getM, getM_hit, getM_miss, getM_none]; (repeat (simp (disch := first | omega | assumption | fail) only [if_pos, if_neg, wrap64]; try simp [List.zipIdx, h1I, h1, -getM, getM_hit, getM_miss, getM_none])); try (repeat' (refine guardQ_split (fun h => ?_) (fun h => ?_) <;> simp at h <;> (simp [List.zipIdx, h1I, h1, -getM, getM_hit, getM_miss, getM_none]; (repeat (simp (disch := first | omega | assumption | fail) only [if_pos, if_neg, wrap64]; try simp [List.zipIdx, h1I, h1, -getM, getM_hit, getM_miss, getM_none])))))) | (refine aw_cond (b := _) (by exact rfl) (fun h => ?_) (fun h => ?_) <;> (try simp at h)) | (refine aw_block ?_) | (refine aw_skip ?_; simp only [thenQ, blockQ, if_true]) | (refine aw_exit ?_; simp [thenQ, blockQ]) | (refine aw_ret ?_; simp only [thenQ, blockQ]) | (refine aw_round ?_) | (refine hK _ ?_; clear hK) | (clear hK; refine hK _ ?_; clear hK) | (clear hK; clear hK; refine hK _ ?_; clear hK) | (clear hK; clear hK; clear hK; refine hK _ ?_; clear hK))
    refine ⟨by simp, ?_⟩
    simp [leaves_iff, Try.f22]
    try (first | omega | (refine decide_eq_decide.2 ?_; omega) | (refine decide_eq_false ?_; omega) | (refine decide_eq_true ?_; omega))
  have h1I : ¬ (6 : Int) < (xs.length : Int) := by omega
  rcases Decidable.em (n < 0) with h2 | h2
  · have hno : ¬ (okZs (zos xs) ∧ 0 ≤ n ∧ n < 4) := fun h => by omega
    rw [show (decide (okZs (zos xs) ∧ 0 ≤ n ∧ n < 4)) = false from decide_eq_false hno]
    repeat' (first | (apply aw_seq_k; intro K hK) | (refine aw_run hc (by first | exact aw_nod | (intro _; rw [ordB_w hw]; kernel_rfl) | (intro _; rw [ordB_w0 hw0]; kernel_rfl) | (intro _; kernel_rfl)) ?_; simp [List.zipIdx, h1I, h1, h2, -getM, getM_hit, getM_miss, getM_none]; (repeat (simp (disch := first | omega | assumption | fail) only [if_pos, if_neg, wrap64]; try simp [List.zipIdx, h1I, h1, h2, -getM, getM_hit, getM_miss, getM_none])); try (repeat' (refine guardQ_split (fun h => ?_) (fun h => ?_) <;> simp at h <;> (simp [List.zipIdx, h1I, h1, h2, -getM, getM_hit, getM_miss, getM_none]; (repeat (simp (disch := first | omega | assumption | fail) only [if_pos, if_neg, wrap64]; try simp [List.zipIdx, h1I, h1, h2, -getM, getM_hit, getM_miss, getM_none])))))) | (refine aw_cond (b := _) (by exact rfl) (fun h => ?_) (fun h => ?_) <;> (try simp at h)) | (refine aw_block ?_) | (refine aw_skip ?_; simp only [thenQ, blockQ, if_true]) | (refine aw_exit ?_; simp [thenQ, blockQ]) | (refine aw_ret ?_; simp only [thenQ, blockQ]) | (refine aw_round ?_) | (refine hK _ ?_; clear hK) | (clear hK; refine hK _ ?_; clear hK) | (clear hK; clear hK; refine hK _ ?_; clear hK) | (clear hK; clear hK; clear hK; refine hK _ ?_; clear hK))
    refine ⟨by simp, ?_⟩
    simp [leaves_iff, Try.f22]
    try (first | omega | (refine decide_eq_decide.2 ?_; omega) | (refine decide_eq_false ?_; omega) | (refine decide_eq_true ?_; omega))
  rcases Decidable.em (4 ≤ n) with h3 | h3
  · have hno : ¬ (okZs (zos xs) ∧ 0 ≤ n ∧ n < 4) := fun h => by omega
    rw [show (decide (okZs (zos xs) ∧ 0 ≤ n ∧ n < 4)) = false from decide_eq_false hno]
    repeat' (first | (apply aw_seq_k; intro K hK) | (refine aw_run hc (by first | exact aw_nod | (intro _; rw [ordB_w hw]; kernel_rfl) | (intro _; rw [ordB_w0 hw0]; kernel_rfl) | (intro _; kernel_rfl)) ?_; simp [List.zipIdx, h1I, h1, h2, h3, -getM, getM_hit, getM_miss, getM_none]; (repeat (simp (disch := first | omega | assumption | fail) only [if_pos, if_neg, wrap64]; try simp [List.zipIdx, h1I, h1, h2, h3, -getM, getM_hit, getM_miss, getM_none])); try (repeat' (refine guardQ_split (fun h => ?_) (fun h => ?_) <;> simp at h <;> (simp [List.zipIdx, h1I, h1, h2, h3, -getM, getM_hit, getM_miss, getM_none]; (repeat (simp (disch := first | omega | assumption | fail) only [if_pos, if_neg, wrap64]; try simp [List.zipIdx, h1I, h1, h2, h3, -getM, getM_hit, getM_miss, getM_none])))))) | (refine aw_cond (b := _) (by exact rfl) (fun h => ?_) (fun h => ?_) <;> (try simp at h)) | (refine aw_block ?_) | (refine aw_skip ?_; simp only [thenQ, blockQ, if_true]) | (refine aw_exit ?_; simp [thenQ, blockQ]) | (refine aw_ret ?_; simp only [thenQ, blockQ]) | (refine aw_round ?_) | (refine hK _ ?_; clear hK) | (clear hK; refine hK _ ?_; clear hK) | (clear hK; clear hK; refine hK _ ?_; clear hK) | (clear hK; clear hK; clear hK; refine hK _ ?_; clear hK))
    refine ⟨by simp, ?_⟩
    simp [leaves_iff, Try.f22]
    try (first | omega | (refine decide_eq_decide.2 ?_; omega) | (refine decide_eq_false ?_; omega) | (refine decide_eq_true ?_; omega))
  repeat' (first | (apply aw_seq_k; intro K hK) | (refine aw_run hc (by first | exact aw_nod | (intro _; rw [ordB_w hw]; kernel_rfl) | (intro _; rw [ordB_w0 hw0]; kernel_rfl) | (intro _; kernel_rfl)) ?_; simp [List.zipIdx, h1I, h1, h2, h3, -getM, getM_hit, getM_miss, getM_none]; (repeat (simp (disch := first | omega | assumption | fail) only [if_pos, if_neg, wrap64]; try simp [List.zipIdx, h1I, h1, h2, h3, -getM, getM_hit, getM_miss, getM_none])); try (repeat' (refine guardQ_split (fun h => ?_) (fun h => ?_) <;> simp at h <;> (simp [List.zipIdx, h1I, h1, h2, h3, -getM, getM_hit, getM_miss, getM_none]; (repeat (simp (disch := first | omega | assumption | fail) only [if_pos, if_neg, wrap64]; try simp [List.zipIdx, h1I, h1, h2, h3, -getM, getM_hit, getM_miss, getM_none])))))) | (refine aw_cond (b := _) (by exact rfl) (fun h => ?_) (fun h => ?_) <;> (try simp at h)) | (refine aw_block ?_) | (refine aw_skip ?_; simp only [thenQ, blockQ, if_true]) | (refine aw_exit ?_; simp [thenQ, blockQ]) | (refine aw_ret ?_; simp only [thenQ, blockQ]) | (refine aw_round ?_) | (refine hK _ ?_; clear hK) | (clear hK; refine hK _ ?_; clear hK) | (clear hK; clear hK; refine hK _ ?_; clear hK) | (clear hK; clear hK; clear hK; refine hK _ ?_; clear hK))
  refine aw_loopK (s0 := ?lps3) (m0 := ?lpm3) (ι := {i : Nat // i ≤ xs.length ∧ ∀ j, j < i → okZ (zg (zos xs) j)}) [0] (fun i => [(5, I i.1)]) (fun _ => []) (fun i => xs.length - i.1) ⟨0, by omega, by omega⟩ ?lhs3 ?lhm3 ?_ ?_
  case lhs3 => first | (simp [keepS]; done) | (simp [keepS]; rfl)
  case lhm3 => first | rfl | (simp; done) | (simp; rfl)
  · exact le_of2 (by simp) (by simp [AVle, AV.under, AV.underL] <;> omega) (by simp [AOle, AO.under, AV.underL, AV.under] <;> omega)
  · rintro ⟨i, hi, hinv⟩
    simp only
    rcases Decidable.em (i < xs.length) with hil | hil
    · have hilI : (i : Int) < (xs.length : Int) := by omega
      have hg := zrows_get hil
      simp only [Zx.row] at hg
      have hz := zx_z hil
      rw [hz] at hg
      rcases Decidable.em (okZ (zg (zos xs) i)) with ho | ho
      · have ho2 := ho
        unfold okZ at ho2
        have k1 : ¬ (zg (zos xs) i).node < 0 := by omega
        have k2 : ¬ 4 ≤ (zg (zos xs) i).node := by omega
        have k3 : ¬ (zg (zos xs) i).kind < 0 := by omega
        have k4 : ¬ 1 < (zg (zos xs) i).kind := by omega
        repeat' (first | (apply aw_seq_k; intro K hK) | (refine aw_run hc (by first | exact aw_nod | (intro _; rw [ordB_w hw]; kernel_rfl) | (intro _; rw [ordB_w0 hw0]; kernel_rfl) | (intro _; kernel_rfl)) ?_; simp [List.zipIdx, hilI, hg, k1, k2, k3, k4, -getM, getM_hit, getM_miss, getM_none]; (repeat (simp (disch := first | omega | assumption | fail) only [if_pos, if_neg, wrap64]; try simp [List.zipIdx, hilI, hg, k1, k2, k3, k4, -getM, getM_hit, getM_miss, getM_none])); try (repeat' (refine guardQ_split (fun h => ?_) (fun h => ?_) <;> simp at h <;> (simp [List.zipIdx, hilI, hg, k1, k2, k3, k4, -getM, getM_hit, getM_miss, getM_none]; (repeat (simp (disch := first | omega | assumption | fail) only [if_pos, if_neg, wrap64]; try simp [List.zipIdx, hilI, hg, k1, k2, k3, k4, -getM, getM_hit, getM_miss, getM_none])))))) | (refine aw_cond (b := _) (by exact rfl) (fun h => ?_) (fun h => ?_) <;> (try simp at h)) | (refine aw_block ?_) | (refine aw_skip ?_; simp only [thenQ, blockQ, if_true]) | (refine aw_exit ?_; simp [thenQ, blockQ]) | (refine aw_ret ?_; simp only [thenQ, blockQ]) | (refine aw_round ?_) | (refine hK _ ?_; clear hK) | (clear hK; refine hK _ ?_; clear hK) | (clear hK; clear hK; refine hK _ ?_; clear hK) | (clear hK; clear hK; clear hK; refine hK _ ?_; clear hK))
        refine ⟨i + 1, ?_, ⟨by omega, fun j hj => ?_⟩, by omega⟩
        · exact le_of2 (by simp) (by simp [AVle, AV.under, AV.underL] <;> omega) (by simp [AOle, AO.under, AV.underL, AV.under] <;> omega)
        · rcases Nat.lt_succ_iff_lt_or_eq.1 hj with h | rfl
          · exact hinv j h
          · exact ho
      · have hno : ¬ (okZs (zos xs) ∧ 0 ≤ n ∧ n < 4) := fun h => ho (h.1.2 _ (zg_mem (by rw [zos_len]; exact hil)))
        rw [show (decide (okZs (zos xs) ∧ 0 ≤ n ∧ n < 4)) = false from decide_eq_false hno]
        unfold okZ at ho
        rcases Decidable.em ((zg (zos xs) i).node < 0) with k1 | k1
        · repeat' (first | (apply aw_seq_k; intro K hK) | (refine aw_run hc (by first | exact aw_nod | (intro _; rw [ordB_w hw]; kernel_rfl) | (intro _; rw [ordB_w0 hw0]; kernel_rfl) | (intro _; kernel_rfl)) ?_; simp [List.zipIdx, hilI, hg, k1, -getM, getM_hit, getM_miss, getM_none]; (repeat (simp (disch := first | omega | assumption | fail) only [if_pos, if_neg, wrap64]; try simp [List.zipIdx, hilI, hg, k1, -getM, getM_hit, getM_miss, getM_none])); try (repeat' (refine guardQ_split (fun h => ?_) (fun h => ?_) <;> simp at h <;> (simp [List.zipIdx, hilI, hg, k1, -getM, getM_hit, getM_miss, getM_none]; (repeat (simp (disch := first | omega | assumption | fail) only [if_pos, if_neg, wrap64]; try simp [List.zipIdx, hilI, hg, k1, -getM, getM_hit, getM_miss, getM_none])))))) | (refine aw_cond (b := _) (by exact rfl) (fun h => ?_) (fun h => ?_) <;> (try simp at h)) | (refine aw_block ?_) | (refine aw_skip ?_; simp only [thenQ, blockQ, if_true]) | (refine aw_exit ?_; simp [thenQ, blockQ]) | (refine aw_ret ?_; simp only [thenQ, blockQ]) | (refine aw_round ?_) | (refine hK _ ?_; clear hK) | (clear hK; refine hK _ ?_; clear hK) | (clear hK; clear hK; refine hK _ ?_; clear hK) | (clear hK; clear hK; clear hK; refine hK _ ?_; clear hK))
          refine ⟨by simp, ?_⟩
          simp [leaves_iff, Try.f22]
          try (first | omega | (refine decide_eq_decide.2 ?_; omega) | (refine decide_eq_false ?_; omega) | (refine decide_eq_true ?_; omega))
        rcases Decidable.em (4 ≤ (zg (zos xs) i).node) with k2 | k2
        · repeat' (first | (apply aw_seq_k; intro K hK) | (refine aw_run hc (by first | exact aw_nod | (intro _; rw [ordB_w hw]; kernel_rfl) | (intro _; rw [ordB_w0 hw0]; kernel_rfl) | (intro _; kernel_rfl)) ?_; simp [List.zipIdx, hilI, hg, k1, k2, -getM, getM_hit, getM_miss, getM_none]; (repeat (simp (disch := first | omega | assumption | fail) only [if_pos, if_neg, wrap64]; try simp [List.zipIdx, hilI, hg, k1, k2, -getM, getM_hit, getM_miss, getM_none])); try (repeat' (refine guardQ_split (fun h => ?_) (fun h => ?_) <;> simp at h <;> (simp [List.zipIdx, hilI, hg, k1, k2, -getM, getM_hit, getM_miss, getM_none]; (repeat (simp (disch := first | omega | assumption | fail) only [if_pos, if_neg, wrap64]; try simp [List.zipIdx, hilI, hg, k1, k2, -getM, getM_hit, getM_miss, getM_none])))))) | (refine aw_cond (b := _) (by exact rfl) (fun h => ?_) (fun h => ?_) <;> (try simp at h)) | (refine aw_block ?_) | (refine aw_skip ?_; simp only [thenQ, blockQ, if_true]) | (refine aw_exit ?_; simp [thenQ, blockQ]) | (refine aw_ret ?_; simp only [thenQ, blockQ]) | (refine aw_round ?_) | (refine hK _ ?_; clear hK) | (clear hK; refine hK _ ?_; clear hK) | (clear hK; clear hK; refine hK _ ?_; clear hK) | (clear hK; clear hK; clear hK; refine hK _ ?_; clear hK))
          refine ⟨by simp, ?_⟩
          simp [leaves_iff, Try.f22]
          try (first | omega | (refine decide_eq_decide.2 ?_; omega) | (refine decide_eq_false ?_; omega) | (refine decide_eq_true ?_; omega))
        rcases Decidable.em ((zg (zos xs) i).kind < 0) with k3 | k3
        · repeat' (first | (apply aw_seq_k; intro K hK) | (refine aw_run hc (by first | exact aw_nod | (intro _; rw [ordB_w hw]; kernel_rfl) | (intro _; rw [ordB_w0 hw0]; kernel_rfl) | (intro _; kernel_rfl)) ?_; simp [List.zipIdx, hilI, hg, k1, k2, k3, -getM, getM_hit, getM_miss, getM_none]; (repeat (simp (disch := first | omega | assumption | fail) only [if_pos, if_neg, wrap64]; try simp [List.zipIdx, hilI, hg, k1, k2, k3, -getM, getM_hit, getM_miss, getM_none])); try (repeat' (refine guardQ_split (fun h => ?_) (fun h => ?_) <;> simp at h <;> (simp [List.zipIdx, hilI, hg, k1, k2, k3, -getM, getM_hit, getM_miss, getM_none]; (repeat (simp (disch := first | omega | assumption | fail) only [if_pos, if_neg, wrap64]; try simp [List.zipIdx, hilI, hg, k1, k2, k3, -getM, getM_hit, getM_miss, getM_none])))))) | (refine aw_cond (b := _) (by exact rfl) (fun h => ?_) (fun h => ?_) <;> (try simp at h)) | (refine aw_block ?_) | (refine aw_skip ?_; simp only [thenQ, blockQ, if_true]) | (refine aw_exit ?_; simp [thenQ, blockQ]) | (refine aw_ret ?_; simp only [thenQ, blockQ]) | (refine aw_round ?_) | (refine hK _ ?_; clear hK) | (clear hK; refine hK _ ?_; clear hK) | (clear hK; clear hK; refine hK _ ?_; clear hK) | (clear hK; clear hK; clear hK; refine hK _ ?_; clear hK))
          refine ⟨by simp, ?_⟩
          simp [leaves_iff, Try.f22]
          try (first | omega | (refine decide_eq_decide.2 ?_; omega) | (refine decide_eq_false ?_; omega) | (refine decide_eq_true ?_; omega))
        have k4 : 1 < (zg (zos xs) i).kind := by omega
        repeat' (first | (apply aw_seq_k; intro K hK) | (refine aw_run hc (by first | exact aw_nod | (intro _; rw [ordB_w hw]; kernel_rfl) | (intro _; rw [ordB_w0 hw0]; kernel_rfl) | (intro _; kernel_rfl)) ?_; simp [List.zipIdx, hilI, hg, k1, k2, k3, k4, -getM, getM_hit, getM_miss, getM_none]; (repeat (simp (disch := first | omega | assumption | fail) only [if_pos, if_neg, wrap64]; try simp [List.zipIdx, hilI, hg, k1, k2, k3, k4, -getM, getM_hit, getM_miss, getM_none])); try (repeat' (refine guardQ_split (fun h => ?_) (fun h => ?_) <;> simp at h <;> (simp [List.zipIdx, hilI, hg, k1, k2, k3, k4, -getM, getM_hit, getM_miss, getM_none]; (repeat (simp (disch := first | omega | assumption | fail) only [if_pos, if_neg, wrap64]; try simp [List.zipIdx, hilI, hg, k1, k2, k3, k4, -getM, getM_hit, getM_miss, getM_none])))))) | (refine aw_cond (b := _) (by exact rfl) (fun h => ?_) (fun h => ?_) <;> (try simp at h)) | (refine aw_block ?_) | (refine aw_skip ?_; simp only [thenQ, blockQ, if_true]) | (refine aw_exit ?_; simp [thenQ, blockQ]) | (refine aw_ret ?_; simp only [thenQ, blockQ]) | (refine aw_round ?_) | (refine hK _ ?_; clear hK) | (clear hK; refine hK _ ?_; clear hK) | (clear hK; clear hK; refine hK _ ?_; clear hK) | (clear hK; clear hK; clear hK; refine hK _ ?_; clear hK))
        refine ⟨by simp, ?_⟩
        simp [leaves_iff, Try.f22]
        try (first | omega | (refine decide_eq_decide.2 ?_; omega) | (refine decide_eq_false ?_; omega) | (refine decide_eq_true ?_; omega))
    · obtain rfl : i = xs.length := by omega
      have hyes : okZs (zos xs) ∧ 0 ≤ n ∧ n < 4 := ⟨⟨by rw [zos_len]; omega, fun z hz => by
        obtain ⟨j, hj, rfl⟩ := List.getElem_of_mem hz
        rw [← zg_eq hj]
        rw [zos_len] at hj
        exact hinv j hj⟩, by omega, by omega⟩
      rw [show (decide (okZs (zos xs) ∧ 0 ≤ n ∧ n < 4)) = true from decide_eq_true hyes]
      repeat' (first | (apply aw_seq_k; intro K hK) | (refine aw_run hc (by first | exact aw_nod | (intro _; rw [ordB_w hw]; kernel_rfl) | (intro _; rw [ordB_w0 hw0]; kernel_rfl) | (intro _; kernel_rfl)) ?_; simp [List.zipIdx, -getM, getM_hit, getM_miss, getM_none]; (repeat (simp (disch := first | omega | assumption | fail) only [if_pos, if_neg, wrap64]; try simp [List.zipIdx, -getM, getM_hit, getM_miss, getM_none])); try (repeat' (refine guardQ_split (fun h => ?_) (fun h => ?_) <;> simp at h <;> (simp [List.zipIdx, -getM, getM_hit, getM_miss, getM_none]; (repeat (simp (disch := first | omega | assumption | fail) only [if_pos, if_neg, wrap64]; try simp [List.zipIdx, -getM, getM_hit, getM_miss, getM_none])))))) | (refine aw_cond (b := _) (by exact rfl) (fun h => ?_) (fun h => ?_) <;> (try simp at h)) | (refine aw_block ?_) | (refine aw_skip ?_; simp only [thenQ, blockQ, if_true]) | (refine aw_exit ?_; simp [thenQ, blockQ]) | (refine aw_ret ?_; simp only [thenQ, blockQ]) | (refine aw_round ?_) | (refine hK _ ?_; clear hK) | (clear hK; refine hK _ ?_; clear hK) | (clear hK; clear hK; refine hK _ ?_; clear hK) | (clear hK; clear hK; clear hK; refine hK _ ?_; clear hK))
      refine ⟨by simp, ?_⟩
      simp [leaves_iff, Try.f22]
      try (first | omega | (refine decide_eq_decide.2 ?_; omega) | (refine decide_eq_false ?_; omega) | (refine decide_eq_true ?_; omega))

theorem s23 (X : AX) (hX : XOK Try.prog X) : PSound Try.prog 23 (specF (ι := {x : Int × Int // sm x.1 ∧ sm x.2}) (fun x => [I x.1.1, I x.1.2]) fun x => retOf [I (far x.1.1 x.1.2)]) := by
  refine psound_spec hX mixed Try.func23 rfl fun ⟨⟨a, b⟩, ⟨h1, h2⟩, h3, h4⟩ w0 G => ⟨by show 2 ≤ 14; decide, rfl, ?_⟩
  show AW ⟨Try.prog, X, 14, w0, .pure G⟩ _ _ _
  have hc : Cx.OK ⟨Try.prog, X, 14, w0, .pure G⟩ := ⟨hX, mixed⟩
  simp only at h1 h2 h3 h4 ⊢
  unfold far
  rcases Decidable.em (a < b) with h | h
  · repeat' (first | (apply aw_seq_k; intro K hK) | (refine aw_run hc (by first | exact aw_nod | (intro _; rw [ordB_w hw]; kernel_rfl) | (intro _; rw [ordB_w0 hw0]; kernel_rfl) | (intro _; kernel_rfl)) ?_; simp [h, -getM, getM_hit, getM_miss, getM_none]; (repeat (simp (disch := first | omega | assumption | fail) only [if_pos, if_neg, wrap64]; try simp [h, -getM, getM_hit, getM_miss, getM_none])); try (repeat' (refine guardQ_split (fun h => ?_) (fun h => ?_) <;> simp at h <;> (simp [h, -getM, getM_hit, getM_miss, getM_none]; (repeat (simp (disch := first | omega | assumption | fail) only [if_pos, if_neg, wrap64]; try simp [h, -getM, getM_hit, getM_miss, getM_none])))))) | (refine aw_cond (b := _) (by exact rfl) (fun h => ?_) (fun h => ?_) <;> (try simp at h)) | (refine aw_block ?_) | (refine aw_skip ?_; simp only [thenQ, blockQ, if_true]) | (refine aw_exit ?_; simp [thenQ, blockQ]) | (refine aw_ret ?_; simp only [thenQ, blockQ]) | (refine aw_round ?_) | (refine hK _ ?_; clear hK) | (clear hK; refine hK _ ?_; clear hK) | (clear hK; clear hK; refine hK _ ?_; clear hK) | (clear hK; clear hK; clear hK; refine hK _ ?_; clear hK))
    refine ⟨by simp, ?_⟩
    simp [leaves_iff, Try.f23, h]
    try (first | omega | (refine decide_eq_decide.2 ?_; omega) | (refine decide_eq_false ?_; omega) | (refine decide_eq_true ?_; omega))
  · repeat' (first | (apply aw_seq_k; intro K hK) | (refine aw_run hc (by first | exact aw_nod | (intro _; rw [ordB_w hw]; kernel_rfl) | (intro _; rw [ordB_w0 hw0]; kernel_rfl) | (intro _; kernel_rfl)) ?_; simp [h, -getM, getM_hit, getM_miss, getM_none]; (repeat (simp (disch := first | omega | assumption | fail) only [if_pos, if_neg, wrap64]; try simp [h, -getM, getM_hit, getM_miss, getM_none])); try (repeat' (refine guardQ_split (fun h => ?_) (fun h => ?_) <;> simp at h <;> (simp [h, -getM, getM_hit, getM_miss, getM_none]; (repeat (simp (disch := first | omega | assumption | fail) only [if_pos, if_neg, wrap64]; try simp [h, -getM, getM_hit, getM_miss, getM_none])))))) | (refine aw_cond (b := _) (by exact rfl) (fun h => ?_) (fun h => ?_) <;> (try simp at h)) | (refine aw_block ?_) | (refine aw_skip ?_; simp only [thenQ, blockQ, if_true]) | (refine aw_exit ?_; simp [thenQ, blockQ]) | (refine aw_ret ?_; simp only [thenQ, blockQ]) | (refine aw_round ?_) | (refine hK _ ?_; clear hK) | (clear hK; refine hK _ ?_; clear hK) | (clear hK; clear hK; refine hK _ ?_; clear hK) | (clear hK; clear hK; clear hK; refine hK _ ?_; clear hK))
    refine ⟨by simp, ?_⟩
    simp [leaves_iff, Try.f23, h]
    try (first | omega | (refine decide_eq_decide.2 ?_; omega) | (refine decide_eq_false ?_; omega) | (refine decide_eq_true ?_; omega))
end Go.AM
