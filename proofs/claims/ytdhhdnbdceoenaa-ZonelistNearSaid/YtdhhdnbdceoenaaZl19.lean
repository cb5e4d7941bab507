/- ZonelistChecks, ZonelistOrders, ZonelistPicks. -/
import Derived.Test.YtdhhdnbdceoenaaZl18
set_option linter.all false

namespace Go.AM
open Go Go.Proofs

theorem nodesR_len (zs : List Zo) (a : Int) : (nodesR zs a).1.length ≤ 7 := by
  unfold nodesR
  split
  · simp
  · rw [← nodP_all]; exact nodP_len _ _ _
theorem orderR_len (zs : List Zo) (a : Int) (b : Bool) : (orderR zs a b).1.length ≤ 6 := by
  unfold orderR
  split
  · simp
  · rename_i h
    simp at h
    have := errN_zero.1 h
    exact order_len this.1 this.2
theorem pickR_len (zs : List Zo) (p : Po) (a : Int) (b : Bool) : (pickR zs p a b).1.length ≤ 6 := by
  unfold pickR
  split
  · simp
  · rename_i h
    simp at h
    obtain ⟨h1, h2, h3⟩ := pickE_zero.1 h
    simp only
    rw [← pick_filter]
    exact Nat.le_trans (List.length_filter_le _ _) (order_len h1 (firstN_ok h2 h3))
@[simp] theorem ty36 : Types Try.prog 36 = some ⟨.struct [(0, 3, 1), (1, 4, 1)], 2, 16, [.int .i64 0, .bool false]⟩ := by kernel_rfl
theorem tk1 (l : List Int) : List.take l.length (irows l) = irows l := take_irows l

theorem s3 (X : AX) (L : LawX X) (h12 : ∀ M n, X.call 12 [] M n = some (B true, [])) : PSound Try.prog 3 (specF (ι := List Zx) (fun x => [.rd 10 (zrows x)]) fun _ => retOf [B true]) := by
  have hX := L.ok
  have hw := L.w
  refine psound_spec hX mixed Try.func3 rfl fun xs w0 G => ⟨by show 1 ≤ 15; decide, rfl, ?_⟩
  show AW ⟨Try.prog, X, 15, w0, .pure G⟩ _ _ _
  have hc : Cx.OK ⟨Try.prog, X, 15, w0, .pure G⟩ := ⟨hX, mixed⟩
  have e11 := F11_at xs 10
  rcases Decidable.em (xs.length ≤ 10) with h | h
  · have hI : (xs.length : Int) ≤ 10 := by omega
    simp only [hI] at e11
    repeat' (first | (apply aw_seq_k; intro K hK) | (refine aw_run hc (by first | exact aw_nod | (intro _; rw [ordB_w hw]; kernel_rfl) | (intro _; rw [ordB_w0 hw0]; kernel_rfl) | (intro _; kernel_rfl)) ?_; simp [List.zipIdx, L.h11, L.h13, L.h14, e11, F13_at xs, F14_at xs, h12, -getM, getM_hit, getM_miss, getM_none]; (repeat (simp (disch := first | omega | assumption | fail) only [if_pos, if_neg, wrap64]; try simp [List.zipIdx, L.h11, L.h13, L.h14, e11, F13_at xs, F14_at xs, h12, -getM, getM_hit, getM_miss, getM_none])); try (repeat' (refine guardQ_split (fun h => ?_) (fun h => ?_) <;> simp at h <;> (simp [List.zipIdx, L.h11, L.h13, L.h14, e11, F13_at xs, F14_at xs, h12, -getM, getM_hit, getM_miss, getM_none]; (repeat (simp (disch := first | omega | assumption | fail) only [if_pos, if_neg, wrap64]; try simp [List.zipIdx, L.h11, L.h13, L.h14, e11, F13_at xs, F14_at xs, h12, -getM, getM_hit, getM_miss, getM_none])))))) | (refine aw_cond (b := _) (by exact rfl) (fun h => ?_) (fun h => ?_) <;> (try simp at h)) | (refine aw_block ?_) | (refine aw_skip ?_; simp only [thenQ, blockQ, if_true]) | (refine aw_exit ?_; simp [thenQ, blockQ]) | (refine aw_ret ?_; simp only [thenQ, blockQ]) | (refine aw_round ?_) | (refine hK _ ?_; clear hK) | (clear hK; refine hK _ ?_; clear hK) | (clear hK; clear hK; refine hK _ ?_; clear hK) | (clear hK; clear hK; clear hK; refine hK _ ?_; clear hK))
    refine ⟨by simp, ?_⟩
    simp [leaves_iff, Try.f3]
    try (first | omega | (refine decide_eq_decide.2 ?_; omega) | (refine decide_eq_false ?_; omega) | (refine decide_eq_true ?_; omega))
  · have hI : ¬ (xs.length : Int) ≤ 10 := by omega
    simp only [hI] at e11
    repeat' (first | (apply aw_seq_k; intro K hK) | (refine aw_run hc (by first | exact aw_nod | (intro _; rw [ordB_w hw]; kernel_rfl) | (intro _; rw [ordB_w0 hw0]; kernel_rfl) | (intro _; kernel_rfl)) ?_; simp [List.zipIdx, L.h11, e11, h12, -getM, getM_hit, getM_miss, getM_none]; (repeat (simp (disch := first | omega | assumption | fail) only [if_pos, if_neg, wrap64]; try simp [List.zipIdx, L.h11, e11, h12, -getM, getM_hit, getM_miss, getM_none])); try (repeat' (refine guardQ_split (fun h => ?_) (fun h => ?_) <;> simp at h <;> (simp [List.zipIdx, L.h11, e11, h12, -getM, getM_hit, getM_miss, getM_none]; (repeat (simp (disch := first | omega | assumption | fail) only [if_pos, if_neg, wrap64]; try simp [List.zipIdx, L.h11, e11, h12, -getM, getM_hit, getM_miss, getM_none])))))) | (refine aw_cond (b := _) (by exact rfl) (fun h => ?_) (fun h => ?_) <;> (try simp at h)) | (refine aw_block ?_) | (refine aw_skip ?_; simp only [thenQ, blockQ, if_true]) | (refine aw_exit ?_; simp [thenQ, blockQ]) | (refine aw_ret ?_; simp only [thenQ, blockQ]) | (refine aw_round ?_) | (refine hK _ ?_; clear hK) | (clear hK; refine hK _ ?_; clear hK) | (clear hK; clear hK; refine hK _ ?_; clear hK) | (clear hK; clear hK; clear hK; refine hK _ ?_; clear hK))
    refine ⟨by simp, ?_⟩
    simp [leaves_iff, Try.f3]
    try (first | omega | (refine decide_eq_decide.2 ?_; omega) | (refine decide_eq_false ?_; omega) | (refine decide_eq_true ?_; omega))

set_option maxHeartbeats 1000000 in
theorem s4 (X : AX) (L : LawX X) (h12 : ∀ M n, X.call 12 [] M n = some (B true, [])) : PSound Try.prog 4 (specF (ι := List Zx × Int × Bool) (fun x => [.rd 10 (zrows x.1), I x.2.1, B x.2.2]) fun _ => retOf [B true]) := by
  have hX := L.ok
  have hw := L.w
  refine psound_spec hX mixed Try.func4 rfl fun ⟨xs, a, b⟩ w0 G => ⟨by show 3 ≤ 66; decide, rfl, ?_⟩
  show AW ⟨Try.prog, X, 66, w0, .pure G⟩ _ _ _
  have hc : Cx.OK ⟨Try.prog, X, 66, w0, .pure G⟩ := ⟨hX, mixed⟩
  simp only
  have e11 := F11_at xs 10
  rcases Decidable.em (xs.length ≤ 10) with h | h
  · have hI : (xs.length : Int) ≤ 10 := by omega
    simp only [hI] at e11
    have e15 := F15_at xs a
    have e16 := F16_at xs a
    have e17 := F17_at xs a b
    have e18 := F18_at xs a b
    have l1 := nodesR_len (zos xs) a
    have l2 := orderR_len (zos xs) a b
    obtain ⟨⟨P, e⟩, hP⟩ : ∃ P, P = nodesR (zos xs) a := ⟨_, rfl⟩
    obtain ⟨⟨Q, f⟩, hQ⟩ : ∃ Q, Q = orderR (zos xs) a b := ⟨_, rfl⟩
    rw [← hP] at e15 e16 l1
    rw [← hQ] at e17 e18 l2
    simp only at e15 e16 e17 e18 l1 l2
    have q1 := F19_at (a := P) (b := P) (by omega) (by omega)
    have q2 := F19_at (a := Q) (b := Q) (by omega) (by omega)
    repeat' (first | (apply aw_seq_k; intro K hK) | (refine aw_run hc (by first | exact aw_nod | (intro _; rw [ordB_w hw]; kernel_rfl) | (intro _; rw [ordB_w0 hw0]; kernel_rfl) | (intro _; kernel_rfl)) ?_; simp [List.zipIdx, L.h11, L.h15, L.h16, L.h17, L.h18, L.h19, e11, e15, e16, e17, e18, h12, q1, q2, tk1, -getM, getM_hit, getM_miss, getM_none]; (repeat (simp (disch := first | omega | assumption | fail) only [if_pos, if_neg, wrap64]; try simp [List.zipIdx, L.h11, L.h15, L.h16, L.h17, L.h18, L.h19, e11, e15, e16, e17, e18, h12, q1, q2, tk1, -getM, getM_hit, getM_miss, getM_none])); try (repeat' (refine guardQ_split (fun h => ?_) (fun h => ?_) <;> simp at h <;> (simp [List.zipIdx, L.h11, L.h15, L.h16, L.h17, L.h18, L.h19, e11, e15, e16, e17, e18, h12, q1, q2, tk1, -getM, getM_hit, getM_miss, getM_none]; (repeat (simp (disch := first | omega | assumption | fail) only [if_pos, if_neg, wrap64]; try simp [List.zipIdx, L.h11, L.h15, L.h16, L.h17, L.h18, L.h19, e11, e15, e16, e17, e18, h12, q1, q2, tk1, -getM, getM_hit, getM_miss, getM_none])))))) | (refine aw_cond (b := _) (by exact rfl) (fun h => ?_) (fun h => ?_) <;> (try simp at h)) | (refine aw_block ?_) | (refine aw_skip ?_; simp only [thenQ, blockQ, if_true]) | (refine aw_exit ?_; simp [thenQ, blockQ]) | (refine aw_ret ?_; simp only [thenQ, blockQ]) | (refine aw_round ?_) | (refine hK _ ?_; clear hK) | (clear hK; refine hK _ ?_; clear hK) | (clear hK; clear hK; refine hK _ ?_; clear hK) | (clear hK; clear hK; clear hK; refine hK _ ?_; clear hK))
    refine ⟨by simp, ?_⟩
    simp [leaves_iff, Try.f4]
    try (first | omega | (refine decide_eq_decide.2 ?_; omega) | (refine decide_eq_false ?_; omega) | (refine decide_eq_true ?_; omega))
  · have hI : ¬ (xs.length : Int) ≤ 10 := by omega
    simp only [hI] at e11
    repeat' (first | (apply aw_seq_k; intro K hK) | (refine aw_run hc (by first | exact aw_nod | (intro _; rw [ordB_w hw]; kernel_rfl) | (intro _; rw [ordB_w0 hw0]; kernel_rfl) | (intro _; kernel_rfl)) ?_; simp [List.zipIdx, L.h11, e11, h12, -getM, getM_hit, getM_miss, getM_none]; (repeat (simp (disch := first | omega | assumption | fail) only [if_pos, if_neg, wrap64]; try simp [List.zipIdx, L.h11, e11, h12, -getM, getM_hit, getM_miss, getM_none])); try (repeat' (refine guardQ_split (fun h => ?_) (fun h => ?_) <;> simp at h <;> (simp [List.zipIdx, L.h11, e11, h12, -getM, getM_hit, getM_miss, getM_none]; (repeat (simp (disch := first | omega | assumption | fail) only [if_pos, if_neg, wrap64]; try simp [List.zipIdx, L.h11, e11, h12, -getM, getM_hit, getM_miss, getM_none])))))) | (refine aw_cond (b := _) (by exact rfl) (fun h => ?_) (fun h => ?_) <;> (try simp at h)) | (refine aw_block ?_) | (refine aw_skip ?_; simp only [thenQ, blockQ, if_true]) | (refine aw_exit ?_; simp [thenQ, blockQ]) | (refine aw_ret ?_; simp only [thenQ, blockQ]) | (refine aw_round ?_) | (refine hK _ ?_; clear hK) | (clear hK; refine hK _ ?_; clear hK) | (clear hK; clear hK; refine hK _ ?_; clear hK) | (clear hK; clear hK; clear hK; refine hK _ ?_; clear hK))
    refine ⟨by simp, ?_⟩
    simp [leaves_iff, Try.f4]
    try (first | omega | (refine decide_eq_decide.2 ?_; omega) | (refine decide_eq_false ?_; omega) | (refine decide_eq_true ?_; omega))

set_option maxHeartbeats 1000000 in
theorem s5 (X : AX) (L : LawX X) (h12 : ∀ M n, X.call 12 [] M n = some (B true, [])) : PSound Try.prog 5 (specF (ι := PkA) (fun x => [.rd 10 (zrows x.xs), .agg [I x.p.kind, I x.p.nodes, I x.p.turn], .agg [I x.n, B x.k]]) fun _ => retOf [B true]) := by
  have hX := L.ok
  have hw := L.w
  refine psound_spec hX mixed Try.func5 rfl fun ⟨xs, ⟨k, m, t⟩, a, b⟩ w0 G => ⟨by show 3 ≤ 46; decide, rfl, ?_⟩
  show AW ⟨Try.prog, X, 46, w0, .pure G⟩ _ _ _
  have hc : Cx.OK ⟨Try.prog, X, 46, w0, .pure G⟩ := ⟨hX, mixed⟩
  simp only
  have e11 := F11_at xs 10
  rcases Decidable.em (xs.length ≤ 10) with h | h
  · have hI : (xs.length : Int) ≤ 10 := by omega
    simp only [hI] at e11
    have e20 := F20_at xs k m t a b
    have e21 := F21_at xs k m t a b
    have l1 := pickR_len (zos xs) ⟨k, m, t⟩ a b
    obtain ⟨⟨P, e⟩, hP⟩ : ∃ P, P = pickR (zos xs) ⟨k, m, t⟩ a b := ⟨_, rfl⟩
    rw [← hP] at e20 e21 l1
    simp only at e20 e21 l1
    have q1 := F19_at (a := P) (b := P) (by omega) (by omega)
    repeat' (first | (apply aw_seq_k; intro K hK) | (refine aw_run hc (by first | exact aw_nod | (intro _; rw [ordB_w hw]; kernel_rfl) | (intro _; rw [ordB_w0 hw0]; kernel_rfl) | (intro _; kernel_rfl)) ?_; simp [List.zipIdx, L.h11, L.h20, L.h21, L.h19, e11, e20, e21, h12, q1, tk1, -getM, getM_hit, getM_miss, getM_none]; (repeat (simp (disch := first | omega | assumption | fail) only [if_pos, if_neg, wrap64]; try simp [List.zipIdx, L.h11, L.h20, L.h21, L.h19, e11, e20, e21, h12, q1, tk1, -getM, getM_hit, getM_miss, getM_none])); try (repeat' (refine guardQ_split (fun h => ?_) (fun h => ?_) <;> simp at h <;> (simp [List.zipIdx, L.h11, L.h20, L.h21, L.h19, e11, e20, e21, h12, q1, tk1, -getM, getM_hit, getM_miss, getM_none]; (repeat (simp (disch := first | omega | assumption | fail) only [if_pos, if_neg, wrap64]; try simp [List.zipIdx, L.h11, L.h20, L.h21, L.h19, e11, e20, e21, h12, q1, tk1, -getM, getM_hit, getM_miss, getM_none])))))) | (refine aw_cond (b := _) (by exact rfl) (fun h => ?_) (fun h => ?_) <;> (try simp at h)) | (refine aw_block ?_) | (refine aw_skip ?_; simp only [thenQ, blockQ, if_true]) | (refine aw_exit ?_; simp [thenQ, blockQ]) | (refine aw_ret ?_; simp only [thenQ, blockQ]) | (refine aw_round ?_) | (refine hK _ ?_; clear hK) | (clear hK; refine hK _ ?_; clear hK) | (clear hK; clear hK; refine hK _ ?_; clear hK) | (clear hK; clear hK; clear hK; refine hK _ ?_; clear hK))
    refine ⟨by simp, ?_⟩
    simp [leaves_iff, Try.f5]
    try (first | omega | (refine decide_eq_decide.2 ?_; omega) | (refine decide_eq_false ?_; omega) | (refine decide_eq_true ?_; omega))
  · have hI : ¬ (xs.length : Int) ≤ 10 := by omega
    simp only [hI] at e11
    repeat' (first | (apply aw_seq_k; intro K hK) | (refine aw_run hc (by first | exact aw_nod | (intro _; rw [ordB_w hw]; kernel_rfl) | (intro _; rw [ordB_w0 hw0]; kernel_rfl) | (intro _; kernel_rfl)) ?_; simp [List.zipIdx, L.h11, e11, h12, -getM, getM_hit, getM_miss, getM_none]; (repeat (simp (disch := first | omega | assumption | fail) only [if_pos, if_neg, wrap64]; try simp [List.zipIdx, L.h11, e11, h12, -getM, getM_hit, getM_miss, getM_none])); try (repeat' (refine guardQ_split (fun h => ?_) (fun h => ?_) <;> simp at h <;> (simp [List.zipIdx, L.h11, e11, h12, -getM, getM_hit, getM_miss, getM_none]; (repeat (simp (disch := first | omega | assumption | fail) only [if_pos, if_neg, wrap64]; try simp [List.zipIdx, L.h11, e11, h12, -getM, getM_hit, getM_miss, getM_none])))))) | (refine aw_cond (b := _) (by exact rfl) (fun h => ?_) (fun h => ?_) <;> (try simp at h)) | (refine aw_block ?_) | (refine aw_skip ?_; simp only [thenQ, blockQ, if_true]) | (refine aw_exit ?_; simp [thenQ, blockQ]) | (refine aw_ret ?_; simp only [thenQ, blockQ]) | (refine aw_round ?_) | (refine hK _ ?_; clear hK) | (clear hK; refine hK _ ?_; clear hK) | (clear hK; clear hK; refine hK _ ?_; clear hK) | (clear hK; clear hK; clear hK; refine hK _ ?_; clear hK))
    refine ⟨by simp, ?_⟩
    simp [leaves_iff, Try.f5]
    try (first | omega | (refine decide_eq_decide.2 ?_; omega) | (refine decide_eq_false ?_; omega) | (refine decide_eq_true ?_; omega))
end Go.AM
