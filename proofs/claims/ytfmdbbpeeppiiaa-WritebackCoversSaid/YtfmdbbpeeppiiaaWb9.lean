/- Writeback: Order, Next, Expired, Written of the program; Written of the reference. -/
import Derived.Test.YtfmdbbpeeppiiaaWb8
import Derived.Test.YtfmdbbpeeppiiaaWbT
set_option linter.all false

namespace Go.AM
open Go Go.Proofs

def three3 (_ : Nat) : Nat := 3
noncomputable def F28 : List AV → Option AV := specF (ι := {x : List Tp // x.length ≤ 1000000}) (fun x => [.rd 3 (drows x.1)]) fun x => retOf [.ow 3 (drows x.1)]
theorem F28_at (l : List Tp) (h : l.length ≤ 1000000) : F28 [.rd 3 (drows l)] = some (.ow 3 (drows l)) :=
  specF_eq (ι := {x : List Tp // x.length ≤ 1000000}) (A := fun x => [.rd 3 (drows x.1)]) (R := fun x => retOf [.ow 3 (drows x.1)]) ⟨l, h⟩ (by
    rintro ⟨k, h⟩ e
    simp [drows_inj] at e
    subst e; rfl)
theorem F29_d : True := trivial
noncomputable def F29 : AV → List AV → Option (AV × AV) := specM (ι := {x : List Tp × Nat × Nat // x.2.1 ≤ x.2.2 ∧ x.2.2 ≤ x.1.length ∧ x.1.length ≤ 1000000}) (fun x => .ow 3 (drows x.1.1)) (fun x => [I x.1.2.1, I x.1.2.2]) (fun x => retOf [.ow 3 (drows (x.1.1.take x.1.2.1 ++ x.1.1.drop x.1.2.2))]) fun _ => .any
theorem F29_at (l : List Tp) (i j : Nat) (h : i ≤ j ∧ j ≤ l.length ∧ l.length ≤ 1000000) : F29 (.ow 3 (drows l)) [I i, I j] = some (.ow 3 (drows (l.take i ++ l.drop j)), .any) :=
  specM_eq (A0 := fun x : {x : List Tp × Nat × Nat // x.2.1 ≤ x.2.2 ∧ x.2.2 ≤ x.1.length ∧ x.1.length ≤ 1000000} => AV.ow 3 (drows x.1.1)) (A := fun x => [I x.1.2.1, I x.1.2.2]) (R := fun x => retOf [.ow 3 (drows (x.1.1.take x.1.2.1 ++ x.1.1.drop x.1.2.2))]) (O := fun _ => .any) ⟨(l, i, j), h⟩ (by
    rintro ⟨⟨l', i', j'⟩, h1, h2⟩ e1 e2
    simp only [AV.ow.injEq, drows_inj, true_and] at e1
    simp only [List.cons.injEq, AV.v.injEq, Value.int.injEq, true_and, and_true, Int.ofNat_inj] at e2
    obtain ⟨rfl, rfl⟩ := e2
    subst e1
    exact ⟨rfl, rfl⟩)

structure WbX (X : AX) : Prop where
  ok : XOK Try.prog X
  w : X.W wT
  eq : X.eqs 30 = true
  h14 : ∀ l : List Tp, l.length ≤ 9223372036854775807 → ∀ M n, X.call 14 [.rd 3 (drows l)] M n = some (I (chkD l), [])
  h28 : X.call 28 = callP F28
  h30 : X.call 30 = sortD
  h33 : ∀ a b M n, X.call 33 [I a, I b] M n = some (B (decide (pgN a b)), [])
  h37 : X.call 37 = callM false three3 F37

theorem s12 (X : AX) (L : WbX X) : PSound Try.prog 12 F13 := by
  have hX := L.ok
  have hw := L.w
  refine psound_spec hX mixed Try.func12 rfl fun ⟨l, hl⟩ w0 G => ⟨by show 1 ≤ 16; decide, rfl, ?_⟩
  show AW ⟨Try.prog, X, 16, w0, .pure G⟩ _ _ _
  have hc : Cx.OK ⟨Try.prog, X, 16, w0, .pure G⟩ := ⟨hX, mixed⟩
  simp only at hl ⊢
  have h14' := L.h14 l hl
  rcases Decidable.em (chkD l = 0) with h0 | h0
  · have hlen := chk_len h0
    rw [h0] at h14'
    have hC := F28_at l (by omega)
    have hul := unD_rows l
    have hl62 : l.length < 4611686018427387904 := by omega
    rw [ordR_z h0]
    have htk : List.take l.length (drows (sortG ltD l)) = drows (sortG ltD l) := List.take_of_length_le (by simp)
    repeat' (first | (apply aw_seq_k; intro K hK) | (refine aw_run hc (by first | exact aw_nod | (intro _; rw [ordB_w hw]; kernel_rfl) | (intro _; rw [ordB_w0 hw0]; kernel_rfl) | (intro _; kernel_rfl)) ?_; simp [List.zipIdx, h14', L.h28, hC, L.h30, sortD, hul, hl62, tkD, htk, -getM, getM_hit, getM_miss, getM_none]; (repeat (simp (disch := first | omega | assumption | fail) only [if_pos, if_neg, wrap64]; try simp [List.zipIdx, h14', L.h28, hC, L.h30, sortD, hul, hl62, tkD, htk, -getM, getM_hit, getM_miss, getM_none])); try (repeat' (refine guardQ_split (fun h => ?_) (fun h => ?_) <;> simp at h <;> (simp [List.zipIdx, h14', L.h28, hC, L.h30, sortD, hul, hl62, tkD, htk, -getM, getM_hit, getM_miss, getM_none]; (repeat (simp (disch := first | omega | assumption | fail) only [if_pos, if_neg, wrap64]; try simp [List.zipIdx, h14', L.h28, hC, L.h30, sortD, hul, hl62, tkD, htk, -getM, getM_hit, getM_miss, getM_none])))))) | (refine aw_cond (b := _) (by exact rfl) (fun h => ?_) (fun h => ?_) <;> (try simp at h)) | (refine aw_block ?_) | (refine aw_skip ?_; simp only [thenQ, blockQ, if_true]) | (refine aw_exit ?_; simp [thenQ, blockQ]) | (refine aw_ret ?_; simp only [thenQ, blockQ]) | (refine aw_round ?_) | (refine hK _ ?_; clear hK) | (clear hK; refine hK _ ?_; clear hK) | (clear hK; clear hK; refine hK _ ?_; clear hK) | (clear hK; clear hK; clear hK; refine hK _ ?_; clear hK))
    refine ⟨by simp, ?_⟩
    simp [leaves_iff, Try.f12, htk]
    try (first | omega | (refine decide_eq_decide.2 ?_; omega) | (refine decide_eq_false ?_; omega) | (refine decide_eq_true ?_; omega))
  · rw [ordR_n h0]
    obtain ⟨c, hcc⟩ : ∃ c, c = chkD l := ⟨_, rfl⟩
    rw [← hcc] at h14' h0 ⊢
    repeat' (first | (apply aw_seq_k; intro K hK) | (refine aw_run hc (by first | exact aw_nod | (intro _; rw [ordB_w hw]; kernel_rfl) | (intro _; rw [ordB_w0 hw0]; kernel_rfl) | (intro _; kernel_rfl)) ?_; simp [List.zipIdx, h14', h0, -getM, getM_hit, getM_miss, getM_none]; (repeat (simp (disch := first | omega | assumption | fail) only [if_pos, if_neg, wrap64]; try simp [List.zipIdx, h14', h0, -getM, getM_hit, getM_miss, getM_none])); try (repeat' (refine guardQ_split (fun h => ?_) (fun h => ?_) <;> simp at h <;> (simp [List.zipIdx, h14', h0, -getM, getM_hit, getM_miss, getM_none]; (repeat (simp (disch := first | omega | assumption | fail) only [if_pos, if_neg, wrap64]; try simp [List.zipIdx, h14', h0, -getM, getM_hit, getM_miss, getM_none])))))) | (refine aw_cond (b := _) (by exact rfl) (fun h => ?_) (fun h => ?_) <;> (try simp at h)) | (refine aw_block ?_) | (refine aw_skip ?_; simp only [thenQ, blockQ, if_true]) | (refine aw_exit ?_; simp [thenQ, blockQ]) | (refine aw_ret ?_; simp only [thenQ, blockQ]) | (refine aw_round ?_) | (refine hK _ ?_; clear hK) | (clear hK; refine hK _ ?_; clear hK) | (clear hK; clear hK; refine hK _ ?_; clear hK) | (clear hK; clear hK; clear hK; refine hK _ ?_; clear hK))
    refine ⟨by simp, ?_⟩
    simp [leaves_iff, Try.f12, drows_nil]
    try (first | omega | (refine decide_eq_decide.2 ?_; omega) | (refine decide_eq_false ?_; omega) | (refine decide_eq_true ?_; omega))

theorem s16 (X : AX) (L : WbX X) (h36 : ∀ l : List Tp, 0 < l.length → l.length ≤ 1000000 → ∀ M n, X.call 36 [.rd 3 (drows l), .fn 31 []] M n = some (Tv (mnL l), []))
    (h35 : ∀ (l : List Tp) a b c, l.length ≤ 1000000 → ∀ M n, X.call 35 [.rd 3 (drows l), .agg [I a, I b, I c]] M n = some (I (fstD (eqD (a, b, c)) l), [])) :
    PSound Try.prog 16 (specF (ι := {l : List Tp // l.length ≤ 9223372036854775807}) (fun x => [.rd 3 (drows x.1)]) fun x => retOf [I (nxtR x.1)]) := by
  have hX := L.ok
  have hw := L.w
  refine psound_spec hX mixed Try.func16 rfl fun ⟨l, hl⟩ w0 G => ⟨by show 1 ≤ 15; decide, rfl, ?_⟩
  show AW ⟨Try.prog, X, 15, w0, .pure G⟩ _ _ _
  have hc : Cx.OK ⟨Try.prog, X, 15, w0, .pure G⟩ := ⟨hX, mixed⟩
  simp only at hl ⊢
  have h14' := L.h14 l hl
  rcases Nat.eq_zero_or_pos l.length with he | he
  · have : l = [] := List.eq_nil_of_length_eq_zero he
    subst this
    rw [nxtR_e]
    simp only [drows_nil]
    repeat' (first | (apply aw_seq_k; intro K hK) | (refine aw_run hc (by first | exact aw_nod | (intro _; rw [ordB_w hw]; kernel_rfl) | (intro _; rw [ordB_w0 hw0]; kernel_rfl) | (intro _; kernel_rfl)) ?_; simp [List.zipIdx, -getM, getM_hit, getM_miss, getM_none]; (repeat (simp (disch := first | omega | assumption | fail) only [if_pos, if_neg, wrap64]; try simp [List.zipIdx, -getM, getM_hit, getM_miss, getM_none])); try (repeat' (refine guardQ_split (fun h => ?_) (fun h => ?_) <;> simp at h <;> (simp [List.zipIdx, -getM, getM_hit, getM_miss, getM_none]; (repeat (simp (disch := first | omega | assumption | fail) only [if_pos, if_neg, wrap64]; try simp [List.zipIdx, -getM, getM_hit, getM_miss, getM_none])))))) | (refine aw_cond (b := _) (by exact rfl) (fun h => ?_) (fun h => ?_) <;> (try simp at h)) | (refine aw_block ?_) | (refine aw_skip ?_; simp only [thenQ, blockQ, if_true]) | (refine aw_exit ?_; simp [thenQ, blockQ]) | (refine aw_ret ?_; simp only [thenQ, blockQ]) | (refine aw_round ?_) | (refine hK _ ?_; clear hK) | (clear hK; refine hK _ ?_; clear hK) | (clear hK; clear hK; refine hK _ ?_; clear hK) | (clear hK; clear hK; clear hK; refine hK _ ?_; clear hK))
    refine ⟨by simp, ?_⟩
    simp [leaves_iff, Try.f16]
    try (first | omega | (refine decide_eq_decide.2 ?_; omega) | (refine decide_eq_false ?_; omega) | (refine decide_eq_true ?_; omega))
  · have hne : l ≠ [] := fun e => by rw [e] at he; simp at he
    have heI : ¬ (l.length : Int) = 0 := by omega
    have heN : ¬ l.length = 0 := by omega
    rcases Decidable.em (chkD l = 0) with h0 | h0
    · have hlen := chk_len h0
      rw [h0] at h14'
      have h36' := h36 l he (by omega)
      rw [nxtR_z hne h0]
      obtain ⟨⟨x, y, z⟩, hm⟩ : ∃ m, m = mnL l := ⟨_, rfl⟩
      rw [← hm] at h36' ⊢
      simp only [Tv] at h36'
      have h35' := h35 l x y z (by omega)
      repeat' (first | (apply aw_seq_k; intro K hK) | (refine aw_run hc (by first | exact aw_nod | (intro _; rw [ordB_w hw]; kernel_rfl) | (intro _; rw [ordB_w0 hw0]; kernel_rfl) | (intro _; kernel_rfl)) ?_; simp [List.zipIdx, h14', heI, heN, hne, h36', h35', -getM, getM_hit, getM_miss, getM_none]; (repeat (simp (disch := first | omega | assumption | fail) only [if_pos, if_neg, wrap64]; try simp [List.zipIdx, h14', heI, heN, hne, h36', h35', -getM, getM_hit, getM_miss, getM_none])); try (repeat' (refine guardQ_split (fun h => ?_) (fun h => ?_) <;> simp at h <;> (simp [List.zipIdx, h14', heI, heN, hne, h36', h35', -getM, getM_hit, getM_miss, getM_none]; (repeat (simp (disch := first | omega | assumption | fail) only [if_pos, if_neg, wrap64]; try simp [List.zipIdx, h14', heI, heN, hne, h36', h35', -getM, getM_hit, getM_miss, getM_none])))))) | (refine aw_cond (b := _) (by exact rfl) (fun h => ?_) (fun h => ?_) <;> (try simp at h)) | (refine aw_block ?_) | (refine aw_skip ?_; simp only [thenQ, blockQ, if_true]) | (refine aw_exit ?_; simp [thenQ, blockQ]) | (refine aw_ret ?_; simp only [thenQ, blockQ]) | (refine aw_round ?_) | (refine hK _ ?_; clear hK) | (clear hK; refine hK _ ?_; clear hK) | (clear hK; clear hK; refine hK _ ?_; clear hK) | (clear hK; clear hK; clear hK; refine hK _ ?_; clear hK))
      refine ⟨by simp, ?_⟩
      simp [leaves_iff, Try.f16]
      try (first | omega | (refine decide_eq_decide.2 ?_; omega) | (refine decide_eq_false ?_; omega) | (refine decide_eq_true ?_; omega))
    · rw [nxtR_n h0]
      obtain ⟨c, hcc⟩ : ∃ c, c = chkD l := ⟨_, rfl⟩
      rw [← hcc] at h14' h0
      repeat' (first | (apply aw_seq_k; intro K hK) | (refine aw_run hc (by first | exact aw_nod | (intro _; rw [ordB_w hw]; kernel_rfl) | (intro _; rw [ordB_w0 hw0]; kernel_rfl) | (intro _; kernel_rfl)) ?_; simp [List.zipIdx, h14', h0, heI, heN, hne, -getM, getM_hit, getM_miss, getM_none]; (repeat (simp (disch := first | omega | assumption | fail) only [if_pos, if_neg, wrap64]; try simp [List.zipIdx, h14', h0, heI, heN, hne, -getM, getM_hit, getM_miss, getM_none])); try (repeat' (refine guardQ_split (fun h => ?_) (fun h => ?_) <;> simp at h <;> (simp [List.zipIdx, h14', h0, heI, heN, hne, -getM, getM_hit, getM_miss, getM_none]; (repeat (simp (disch := first | omega | assumption | fail) only [if_pos, if_neg, wrap64]; try simp [List.zipIdx, h14', h0, heI, heN, hne, -getM, getM_hit, getM_miss, getM_none])))))) | (refine aw_cond (b := _) (by exact rfl) (fun h => ?_) (fun h => ?_) <;> (try simp at h)) | (refine aw_block ?_) | (refine aw_skip ?_; simp only [thenQ, blockQ, if_true]) | (refine aw_exit ?_; simp [thenQ, blockQ]) | (refine aw_ret ?_; simp only [thenQ, blockQ]) | (refine aw_round ?_) | (refine hK _ ?_; clear hK) | (clear hK; refine hK _ ?_; clear hK) | (clear hK; clear hK; refine hK _ ?_; clear hK) | (clear hK; clear hK; clear hK; refine hK _ ?_; clear hK))
      refine ⟨by simp, ?_⟩
      simp [leaves_iff, Try.f16]
      try (first | omega | (refine decide_eq_decide.2 ?_; omega) | (refine decide_eq_false ?_; omega) | (refine decide_eq_true ?_; omega))

theorem s19 (X : AX) (L : WbX X) (h12 : X.call 12 = callP F13) :
    PSound Try.prog 19 (specF (ι := {x : List Tp × Int × Int // x.1.length ≤ 9223372036854775807}) (fun x => [.rd 3 (drows x.1.1), I x.1.2.1, I x.1.2.2]) fun x => retOf [.ow 3 (drows (expR x.1.1 x.1.2.1 x.1.2.2).1), I (expR x.1.1 x.1.2.1 x.1.2.2).2]) := by
  have hX := L.ok
  have hw := L.w
  refine psound_spec hX mixed Try.func19 rfl fun ⟨⟨l, n, g⟩, hl⟩ w0 G => ⟨by show 3 ≤ 27; decide, rfl, ?_⟩
  show AW ⟨Try.prog, X, 27, w0, .pure G⟩ _ _ _
  have hc : Cx.OK ⟨Try.prog, X, 27, w0, .pure G⟩ := ⟨hX, mixed⟩
  simp only at hl ⊢
  have hF := F13_at l hl
  rcases Decidable.em (chkD l = 0) with h0 | h0
  · rw [ordR_z h0] at hF
    simp only at hF
    have hlen : (sortG ltD l).length ≤ 64 := by rw [sortG_len]; exact chk_len h0
    rcases Decidable.em (n < 0) with h1 | h1
    · rw [expR_m h0 (.inl h1)]
      repeat' (first | (apply aw_seq_k; intro K hK) | (refine aw_run hc (by first | exact aw_nod | (intro _; rw [ordB_w hw]; kernel_rfl) | (intro _; rw [ordB_w0 hw0]; kernel_rfl) | (intro _; kernel_rfl)) ?_; simp [List.zipIdx, h12, hF, h1, -getM, getM_hit, getM_miss, getM_none]; (repeat (simp (disch := first | omega | assumption | fail) only [if_pos, if_neg, wrap64]; try simp [List.zipIdx, h12, hF, h1, -getM, getM_hit, getM_miss, getM_none])); try (repeat' (refine guardQ_split (fun h => ?_) (fun h => ?_) <;> simp at h <;> (simp [List.zipIdx, h12, hF, h1, -getM, getM_hit, getM_miss, getM_none]; (repeat (simp (disch := first | omega | assumption | fail) only [if_pos, if_neg, wrap64]; try simp [List.zipIdx, h12, hF, h1, -getM, getM_hit, getM_miss, getM_none])))))) | (refine aw_cond (b := _) (by exact rfl) (fun h => ?_) (fun h => ?_) <;> (try simp at h)) | (refine aw_block ?_) | (refine aw_skip ?_; simp only [thenQ, blockQ, if_true]) | (refine aw_exit ?_; simp [thenQ, blockQ]) | (refine aw_ret ?_; simp only [thenQ, blockQ]) | (refine aw_round ?_) | (refine hK _ ?_; clear hK) | (clear hK; refine hK _ ?_; clear hK) | (clear hK; clear hK; refine hK _ ?_; clear hK) | (clear hK; clear hK; clear hK; refine hK _ ?_; clear hK))
      refine ⟨by simp, ?_⟩
      simp [leaves_iff, Try.f19, drows_nil]
      try (first | omega | (refine decide_eq_decide.2 ?_; omega) | (refine decide_eq_false ?_; omega) | (refine decide_eq_true ?_; omega))
    · rcases Decidable.em (g < 0) with h2 | h2
      · rw [expR_m h0 (.inr h2)]
        repeat' (first | (apply aw_seq_k; intro K hK) | (refine aw_run hc (by first | exact aw_nod | (intro _; rw [ordB_w hw]; kernel_rfl) | (intro _; rw [ordB_w0 hw0]; kernel_rfl) | (intro _; kernel_rfl)) ?_; simp [List.zipIdx, h12, hF, h1, h2, -getM, getM_hit, getM_miss, getM_none]; (repeat (simp (disch := first | omega | assumption | fail) only [if_pos, if_neg, wrap64]; try simp [List.zipIdx, h12, hF, h1, h2, -getM, getM_hit, getM_miss, getM_none])); try (repeat' (refine guardQ_split (fun h => ?_) (fun h => ?_) <;> simp at h <;> (simp [List.zipIdx, h12, hF, h1, h2, -getM, getM_hit, getM_miss, getM_none]; (repeat (simp (disch := first | omega | assumption | fail) only [if_pos, if_neg, wrap64]; try simp [List.zipIdx, h12, hF, h1, h2, -getM, getM_hit, getM_miss, getM_none])))))) | (refine aw_cond (b := _) (by exact rfl) (fun h => ?_) (fun h => ?_) <;> (try simp at h)) | (refine aw_block ?_) | (refine aw_skip ?_; simp only [thenQ, blockQ, if_true]) | (refine aw_exit ?_; simp [thenQ, blockQ]) | (refine aw_ret ?_; simp only [thenQ, blockQ]) | (refine aw_round ?_) | (refine hK _ ?_; clear hK) | (clear hK; refine hK _ ?_; clear hK) | (clear hK; clear hK; refine hK _ ?_; clear hK) | (clear hK; clear hK; clear hK; refine hK _ ?_; clear hK))
        refine ⟨by simp, ?_⟩
        simp [leaves_iff, Try.f19, drows_nil]
        try (first | omega | (refine decide_eq_decide.2 ?_; omega) | (refine decide_eq_false ?_; omega) | (refine decide_eq_true ?_; omega))
      · rw [expR_z h0 (by omega)]
        obtain ⟨S, hS⟩ : ∃ S, S = sortG ltD l := ⟨_, rfl⟩
        rw [← hS] at hF hlen ⊢
        have hG := F37_at S (.inl (n, g)) ⟨by omega, trivial⟩
        simp only [fnK] at hG
        have hdk : dropK (.inl (n, g)) S = S.filter fun p => !expB n g p := rfl
        repeat' (first | (apply aw_seq_k; intro K hK) | (refine aw_run hc (by first | exact aw_nod | (intro _; rw [ordB_w hw]; kernel_rfl) | (intro _; rw [ordB_w0 hw0]; kernel_rfl) | (intro _; kernel_rfl)) ?_; simp [List.zipIdx, h12, hF, h1, h2, L.h37, hG, tkD, three3, -getM, getM_hit, getM_miss, getM_none]; (repeat (simp (disch := first | omega | assumption | fail) only [if_pos, if_neg, wrap64]; try simp [List.zipIdx, h12, hF, h1, h2, L.h37, hG, tkD, three3, -getM, getM_hit, getM_miss, getM_none])); try (repeat' (refine guardQ_split (fun h => ?_) (fun h => ?_) <;> simp at h <;> (simp [List.zipIdx, h12, hF, h1, h2, L.h37, hG, tkD, three3, -getM, getM_hit, getM_miss, getM_none]; (repeat (simp (disch := first | omega | assumption | fail) only [if_pos, if_neg, wrap64]; try simp [List.zipIdx, h12, hF, h1, h2, L.h37, hG, tkD, three3, -getM, getM_hit, getM_miss, getM_none])))))) | (refine aw_cond (b := _) (by exact rfl) (fun h => ?_) (fun h => ?_) <;> (try simp at h)) | (refine aw_block ?_) | (refine aw_skip ?_; simp only [thenQ, blockQ, if_true]) | (refine aw_exit ?_; simp [thenQ, blockQ]) | (refine aw_ret ?_; simp only [thenQ, blockQ]) | (refine aw_round ?_) | (refine hK _ ?_; clear hK) | (clear hK; refine hK _ ?_; clear hK) | (clear hK; clear hK; refine hK _ ?_; clear hK) | (clear hK; clear hK; clear hK; refine hK _ ?_; clear hK))
        refine ⟨by simp, ?_⟩
        simp [leaves_iff, Try.f19, hdk]
        try (first | omega | (refine decide_eq_decide.2 ?_; omega) | (refine decide_eq_false ?_; omega) | (refine decide_eq_true ?_; omega))
  · rw [ordR_n h0] at hF
    simp only at hF
    rw [expR_n h0]
    repeat' (first | (apply aw_seq_k; intro K hK) | (refine aw_run hc (by first | exact aw_nod | (intro _; rw [ordB_w hw]; kernel_rfl) | (intro _; rw [ordB_w0 hw0]; kernel_rfl) | (intro _; kernel_rfl)) ?_; simp [List.zipIdx, h12, hF, h0, -getM, getM_hit, getM_miss, getM_none]; (repeat (simp (disch := first | omega | assumption | fail) only [if_pos, if_neg, wrap64]; try simp [List.zipIdx, h12, hF, h0, -getM, getM_hit, getM_miss, getM_none])); try (repeat' (refine guardQ_split (fun h => ?_) (fun h => ?_) <;> simp at h <;> (simp [List.zipIdx, h12, hF, h0, -getM, getM_hit, getM_miss, getM_none]; (repeat (simp (disch := first | omega | assumption | fail) only [if_pos, if_neg, wrap64]; try simp [List.zipIdx, h12, hF, h0, -getM, getM_hit, getM_miss, getM_none])))))) | (refine aw_cond (b := _) (by exact rfl) (fun h => ?_) (fun h => ?_) <;> (try simp at h)) | (refine aw_block ?_) | (refine aw_skip ?_; simp only [thenQ, blockQ, if_true]) | (refine aw_exit ?_; simp [thenQ, blockQ]) | (refine aw_ret ?_; simp only [thenQ, blockQ]) | (refine aw_round ?_) | (refine hK _ ?_; clear hK) | (clear hK; refine hK _ ?_; clear hK) | (clear hK; clear hK; refine hK _ ?_; clear hK) | (clear hK; clear hK; clear hK; refine hK _ ?_; clear hK))
    refine ⟨by simp, ?_⟩
    simp [leaves_iff, Try.f19, drows_nil]
    try (first | omega | (refine decide_eq_decide.2 ?_; omega) | (refine decide_eq_false ?_; omega) | (refine decide_eq_true ?_; omega))

/-! Written -/
def wrnN (r : Tp) : Prop := pgN r.1 r.2.1 ∧ 1 ≤ r.2.2 ∧ r.2.2 ≤ 16 - r.2.1
instance (r : Tp) : Decidable (wrnN r) := by unfold wrnN; infer_instance
def allR (l : List Tp) (r : Tp) : Prop := ∀ k : Nat, (k : Int) < r.2.2 → hasP l r.1 (r.2.1 + k) = true
open Classical in
noncomputable def wrtR (l : List Tp) (r : Tp) : List Tp × Int :=
  if chkD l = 0 then (if wrnN r then (if allR l r then (dropK (.inr r) l, 0) else ([], 6)) else ([], 2)) else ([], chkD l)
theorem wrtR_n {l : List Tp} {r : Tp} (h : ¬ chkD l = 0) : wrtR l r = ([], chkD l) := by unfold wrtR; rw [if_neg h]
theorem wrtR_m {l : List Tp} {r : Tp} (h : chkD l = 0) (h1 : ¬ wrnN r) : wrtR l r = ([], 2) := by unfold wrtR; rw [if_pos h, if_neg h1]
theorem wrtR_h {l : List Tp} {r : Tp} (h : chkD l = 0) (h1 : wrnN r) (h2 : ¬ allR l r) : wrtR l r = ([], 6) := by unfold wrtR; rw [if_pos h, if_pos h1, if_neg h2]
theorem wrtR_z {l : List Tp} {r : Tp} (h : chkD l = 0) (h1 : wrnN r) (h2 : allR l r) : wrtR l r = (dropK (.inr r) l, 0) := by unfold wrtR; rw [if_pos h, if_pos h1, if_pos h2]
theorem filter_both (p : Tp → Bool) (l : List Tp) : (l.filter p).length + (l.filter fun x => !p x).length = l.length := by
  induction l with
  | nil => rfl
  | cons x r ih =>
    simp only [List.filter_cons, List.length_cons]
    cases h : p x
    · simp only [Bool.false_eq_true, if_false, Bool.not_false, if_true, List.length_cons]; omega
    · simp only [if_true, List.length_cons, Bool.not_true, Bool.false_eq_true, if_false]; omega
theorem inR_iff {r p : Tp} : inR r p = true ↔ p.1 = r.1 ∧ r.2.1 ≤ p.2.1 ∧ p.2.1 < r.2.1 + r.2.2 := by unfold inR; simp
/-- As many lie in the run as it is long if and only if each of its pages is there. -/
theorem drop_all {l : List Tp} {r : Tp} (h : chkD l = 0) (hr : wrnN r) : (l.length : Int) - (dropK (.inr r) l).length = r.2.2 ↔ allR l r := by
  obtain ⟨hv, hn⟩ := chk_zero.1 h
  obtain ⟨_, hr1, hr2⟩ := hr
  have hb := filter_both (inR r) l
  have hd : (dropK (.inr r) l).length = (l.filter fun x => !inR r x).length := rfl
  obtain ⟨c, hc⟩ : ∃ c : Nat, r.2.2 = c := ⟨r.2.2.toNat, by omega⟩
  have hA : ((l.filter (inR r)).map plc).Nodup := hn.sublist (List.filter_sublist.map _)
  have hAl : ((l.filter (inR r)).map plc).length = (l.filter (inR r)).length := List.length_map _
  have hBl : ((List.range c).map fun k : Nat => (r.1, r.2.1 + (k : Int))).length = c := by simp
  have hB : ((List.range c).map fun k : Nat => (r.1, r.2.1 + (k : Int))).Nodup := by
    rw [List.Nodup, List.pairwise_map]
    refine List.nodup_range.imp fun {a b} hab e => ?_
    simp only [Prod.mk.injEq, true_and] at e
    omega
  have hAB : ∀ x ∈ (l.filter (inR r)).map plc, x ∈ (List.range c).map fun k : Nat => (r.1, r.2.1 + (k : Int)) := fun x hx => by
    obtain ⟨p, hp, rfl⟩ := List.mem_map.1 hx
    obtain ⟨_, hp2⟩ := List.mem_filter.1 hp
    obtain ⟨e1, e2, e3⟩ := inR_iff.1 hp2
    exact List.mem_map.2 ⟨(p.2.1 - r.2.1).toNat, List.mem_range.2 (by omega), by simp only [plc, Prod.mk.injEq]; exact ⟨e1.symm, by omega⟩⟩
  have key : (l.length : Int) - (dropK (.inr r) l).length = r.2.2 ↔ (l.filter (inR r)).length = c := by
    rw [hd, hc]; omega
  rw [key]
  constructor
  · intro e k hk
    have hm := nodup_all hA hAB (by rw [hBl, hAl, e]; exact Nat.le_refl _) (r.1, r.2.1 + (k : Int)) (List.mem_map.2 ⟨k, List.mem_range.2 (by omega), rfl⟩)
    obtain ⟨p, hp, e2⟩ := List.mem_map.1 hm
    unfold hasP
    simp only [decide_eq_true_eq]
    exact List.mem_map.2 ⟨p, (List.mem_filter.1 hp).1, e2⟩
  · intro hall
    have h1 := nodup_le hA hAB
    have h2 := nodup_le hB (b := (l.filter (inR r)).map plc) fun x hx => by
      obtain ⟨k, hk, rfl⟩ := List.mem_map.1 hx
      have hk := List.mem_range.1 hk
      have := hall k (by omega)
      unfold hasP at this
      simp only [decide_eq_true_eq] at this
      obtain ⟨p, hp, e⟩ := List.mem_map.1 this
      refine List.mem_map.2 ⟨p, List.mem_filter.2 ⟨hp, inR_iff.2 ?_⟩, e⟩
      simp only [plc, Prod.mk.injEq] at e
      omega
    rw [hAl, hBl] at h1
    rw [hAl, hBl] at h2
    omega

theorem s24 (X : AX) (L : WbX X) : PSound Try.prog 24 (specF (ι := {x : List Tp × Tp // x.1.length ≤ 9223372036854775807}) (fun x => [.rd 3 (drows x.1.1), Tv x.1.2]) fun x => retOf [.ow 3 (drows (wrtR x.1.1 x.1.2).1), I (wrtR x.1.1 x.1.2).2]) := by
  have hX := L.ok
  have hw := L.w
  refine psound_spec hX mixed Try.func24 rfl fun ⟨⟨l, f, i, k⟩, hl⟩ w0 G => ⟨by show 2 ≤ 47; decide, rfl, ?_⟩
  show AW ⟨Try.prog, X, 47, w0, .pure G⟩ _ _ _
  have hc : Cx.OK ⟨Try.prog, X, 47, w0, .pure G⟩ := ⟨hX, mixed⟩
  simp only at hl ⊢
  unfold Tv
  simp only
  have h14' := L.h14 l hl
  rcases Decidable.em (chkD l = 0) with h0 | h0
  · have hlen := chk_len h0
    rw [h0] at h14'
    have hC := F28_at l (by omega)
    rcases Decidable.em (pgN f i) with h1 | h1
    · have h1' := h1
      unfold pgN at h1'
      rcases Decidable.em (k < 1) with h2 | h2
      · rw [wrtR_m h0 fun h => by unfold wrnN at h; simp only at h; omega]
        repeat' (first | (apply aw_seq_k; intro K hK) | (refine aw_run hc (by first | exact aw_nod | (intro _; rw [ordB_w hw]; kernel_rfl) | (intro _; rw [ordB_w0 hw0]; kernel_rfl) | (intro _; kernel_rfl)) ?_; simp [List.zipIdx, h14', L.h33, h1, h2, -getM, getM_hit, getM_miss, getM_none]; (repeat (simp (disch := first | omega | assumption | fail) only [if_pos, if_neg, wrap64]; try simp [List.zipIdx, h14', L.h33, h1, h2, -getM, getM_hit, getM_miss, getM_none])); try (repeat' (refine guardQ_split (fun h => ?_) (fun h => ?_) <;> simp at h <;> (simp [List.zipIdx, h14', L.h33, h1, h2, -getM, getM_hit, getM_miss, getM_none]; (repeat (simp (disch := first | omega | assumption | fail) only [if_pos, if_neg, wrap64]; try simp [List.zipIdx, h14', L.h33, h1, h2, -getM, getM_hit, getM_miss, getM_none])))))) | (refine aw_cond (b := _) (by exact rfl) (fun h => ?_) (fun h => ?_) <;> (try simp at h)) | (refine aw_block ?_) | (refine aw_skip ?_; simp only [thenQ, blockQ, if_true]) | (refine aw_exit ?_; simp [thenQ, blockQ]) | (refine aw_ret ?_; simp only [thenQ, blockQ]) | (refine aw_round ?_) | (refine hK _ ?_; clear hK) | (clear hK; refine hK _ ?_; clear hK) | (clear hK; clear hK; refine hK _ ?_; clear hK) | (clear hK; clear hK; clear hK; refine hK _ ?_; clear hK))
        refine ⟨by simp, ?_⟩
        simp [leaves_iff, Try.f24, drows_nil]
        try (first | omega | (refine decide_eq_decide.2 ?_; omega) | (refine decide_eq_false ?_; omega) | (refine decide_eq_true ?_; omega))
      · rcases Decidable.em (16 - i < k) with h3 | h3
        · rw [wrtR_m h0 fun h => by unfold wrnN at h; simp only at h; omega]
          repeat' (first | (apply aw_seq_k; intro K hK) | (refine aw_run hc (by first | exact aw_nod | (intro _; rw [ordB_w hw]; kernel_rfl) | (intro _; rw [ordB_w0 hw0]; kernel_rfl) | (intro _; kernel_rfl)) ?_; simp [List.zipIdx, h14', L.h33, h1, h2, h3, -getM, getM_hit, getM_miss, getM_none]; (repeat (simp (disch := first | omega | assumption | fail) only [if_pos, if_neg, wrap64]; try simp [List.zipIdx, h14', L.h33, h1, h2, h3, -getM, getM_hit, getM_miss, getM_none])); try (repeat' (refine guardQ_split (fun h => ?_) (fun h => ?_) <;> simp at h <;> (simp [List.zipIdx, h14', L.h33, h1, h2, h3, -getM, getM_hit, getM_miss, getM_none]; (repeat (simp (disch := first | omega | assumption | fail) only [if_pos, if_neg, wrap64]; try simp [List.zipIdx, h14', L.h33, h1, h2, h3, -getM, getM_hit, getM_miss, getM_none])))))) | (refine aw_cond (b := _) (by exact rfl) (fun h => ?_) (fun h => ?_) <;> (try simp at h)) | (refine aw_block ?_) | (refine aw_skip ?_; simp only [thenQ, blockQ, if_true]) | (refine aw_exit ?_; simp [thenQ, blockQ]) | (refine aw_ret ?_; simp only [thenQ, blockQ]) | (refine aw_round ?_) | (refine hK _ ?_; clear hK) | (clear hK; refine hK _ ?_; clear hK) | (clear hK; clear hK; refine hK _ ?_; clear hK) | (clear hK; clear hK; clear hK; refine hK _ ?_; clear hK))
          refine ⟨by simp, ?_⟩
          simp [leaves_iff, Try.f24, drows_nil]
          try (first | omega | (refine decide_eq_decide.2 ?_; omega) | (refine decide_eq_false ?_; omega) | (refine decide_eq_true ?_; omega))
        · have hwr : wrnN (f, i, k) := ⟨h1, by simp only; omega, by simp only; omega⟩
          have hda := drop_all h0 hwr
          have hG := F37_at l (.inr (f, i, k)) ⟨by omega, ⟨by simp only; omega, by simp only; omega, by simp only; omega⟩⟩
          simp only [fnK] at hG
          have hdl : (dropK (.inr (f, i, k)) l).length ≤ l.length := List.length_filter_le _ _
          have hw1 := @wrtR_h l (f, i, k) h0 hwr
          have hw2 := @wrtR_z l (f, i, k) h0 hwr
          obtain ⟨D, hD⟩ : ∃ D, D = dropK (.inr (f, i, k)) l := ⟨_, rfl⟩
          rw [← hD] at hda hG hdl hw2
          simp only at hda
          rcases Decidable.em ((l.length : Int) - (D.length : Int) = k) with h4 | h4
          · rw [hw2 (hda.1 h4)]
            subst h4
            repeat' (first | (apply aw_seq_k; intro K hK) | (refine aw_run hc (by first | exact aw_nod | (intro _; rw [ordB_w hw]; kernel_rfl) | (intro _; rw [ordB_w0 hw0]; kernel_rfl) | (intro _; kernel_rfl)) ?_; simp [List.zipIdx, h14', L.h33, h1, h2, h3, L.h28, hC, L.h37, hG, tkD, three3, -getM, getM_hit, getM_miss, getM_none]; (repeat (simp (disch := first | omega | assumption | fail) only [if_pos, if_neg, wrap64]; try simp [List.zipIdx, h14', L.h33, h1, h2, h3, L.h28, hC, L.h37, hG, tkD, three3, -getM, getM_hit, getM_miss, getM_none])); try (repeat' (refine guardQ_split (fun h => ?_) (fun h => ?_) <;> simp at h <;> (simp [List.zipIdx, h14', L.h33, h1, h2, h3, L.h28, hC, L.h37, hG, tkD, three3, -getM, getM_hit, getM_miss, getM_none]; (repeat (simp (disch := first | omega | assumption | fail) only [if_pos, if_neg, wrap64]; try simp [List.zipIdx, h14', L.h33, h1, h2, h3, L.h28, hC, L.h37, hG, tkD, three3, -getM, getM_hit, getM_miss, getM_none])))))) | (refine aw_cond (b := _) (by exact rfl) (fun h => ?_) (fun h => ?_) <;> (try simp at h)) | (refine aw_block ?_) | (refine aw_skip ?_; simp only [thenQ, blockQ, if_true]) | (refine aw_exit ?_; simp [thenQ, blockQ]) | (refine aw_ret ?_; simp only [thenQ, blockQ]) | (refine aw_round ?_) | (refine hK _ ?_; clear hK) | (clear hK; refine hK _ ?_; clear hK) | (clear hK; clear hK; refine hK _ ?_; clear hK) | (clear hK; clear hK; clear hK; refine hK _ ?_; clear hK))
            refine ⟨by simp, ?_⟩
            simp [leaves_iff, Try.f24]
            try (first | omega | (refine decide_eq_decide.2 ?_; omega) | (refine decide_eq_false ?_; omega) | (refine decide_eq_true ?_; omega))
          · rw [hw1 fun h => h4 (hda.2 h)]
            repeat' (first | (apply aw_seq_k; intro K hK) | (refine aw_run hc (by first | exact aw_nod | (intro _; rw [ordB_w hw]; kernel_rfl) | (intro _; rw [ordB_w0 hw0]; kernel_rfl) | (intro _; kernel_rfl)) ?_; simp [List.zipIdx, h14', L.h33, h1, h2, h3, L.h28, hC, L.h37, hG, tkD, three3, h4, -getM, getM_hit, getM_miss, getM_none]; (repeat (simp (disch := first | omega | assumption | fail) only [if_pos, if_neg, wrap64]; try simp [List.zipIdx, h14', L.h33, h1, h2, h3, L.h28, hC, L.h37, hG, tkD, three3, h4, -getM, getM_hit, getM_miss, getM_none])); try (repeat' (refine guardQ_split (fun h => ?_) (fun h => ?_) <;> simp at h <;> (simp [List.zipIdx, h14', L.h33, h1, h2, h3, L.h28, hC, L.h37, hG, tkD, three3, h4, -getM, getM_hit, getM_miss, getM_none]; (repeat (simp (disch := first | omega | assumption | fail) only [if_pos, if_neg, wrap64]; try simp [List.zipIdx, h14', L.h33, h1, h2, h3, L.h28, hC, L.h37, hG, tkD, three3, h4, -getM, getM_hit, getM_miss, getM_none])))))) | (refine aw_cond (b := _) (by exact rfl) (fun h => ?_) (fun h => ?_) <;> (try simp at h)) | (refine aw_block ?_) | (refine aw_skip ?_; simp only [thenQ, blockQ, if_true]) | (refine aw_exit ?_; simp [thenQ, blockQ]) | (refine aw_ret ?_; simp only [thenQ, blockQ]) | (refine aw_round ?_) | (refine hK _ ?_; clear hK) | (clear hK; refine hK _ ?_; clear hK) | (clear hK; clear hK; refine hK _ ?_; clear hK) | (clear hK; clear hK; clear hK; refine hK _ ?_; clear hK))
            refine ⟨by simp, ?_⟩
            simp [leaves_iff, Try.f24, drows_nil]
            try (first | omega | (refine decide_eq_decide.2 ?_; omega) | (refine decide_eq_false ?_; omega) | (refine decide_eq_true ?_; omega))
    · rw [wrtR_m h0 fun h => h1 h.1]
      repeat' (first | (apply aw_seq_k; intro K hK) | (refine aw_run hc (by first | exact aw_nod | (intro _; rw [ordB_w hw]; kernel_rfl) | (intro _; rw [ordB_w0 hw0]; kernel_rfl) | (intro _; kernel_rfl)) ?_; simp [List.zipIdx, h14', L.h33, h1, -getM, getM_hit, getM_miss, getM_none]; (repeat (simp (disch := first | omega | assumption | fail) only [if_pos, if_neg, wrap64]; try simp [List.zipIdx, h14', L.h33, h1, -getM, getM_hit, getM_miss, getM_none])); try (repeat' (refine guardQ_split (fun h => ?_) (fun h => ?_) <;> simp at h <;> (simp [List.zipIdx, h14', L.h33, h1, -getM, getM_hit, getM_miss, getM_none]; (repeat (simp (disch := first | omega | assumption | fail) only [if_pos, if_neg, wrap64]; try simp [List.zipIdx, h14', L.h33, h1, -getM, getM_hit, getM_miss, getM_none])))))) | (refine aw_cond (b := _) (by exact rfl) (fun h => ?_) (fun h => ?_) <;> (try simp at h)) | (refine aw_block ?_) | (refine aw_skip ?_; simp only [thenQ, blockQ, if_true]) | (refine aw_exit ?_; simp [thenQ, blockQ]) | (refine aw_ret ?_; simp only [thenQ, blockQ]) | (refine aw_round ?_) | (refine hK _ ?_; clear hK) | (clear hK; refine hK _ ?_; clear hK) | (clear hK; clear hK; refine hK _ ?_; clear hK) | (clear hK; clear hK; clear hK; refine hK _ ?_; clear hK))
      refine ⟨by simp, ?_⟩
      simp [leaves_iff, Try.f24, drows_nil]
      try (first | omega | (refine decide_eq_decide.2 ?_; omega) | (refine decide_eq_false ?_; omega) | (refine decide_eq_true ?_; omega))
  · rw [wrtR_n h0]
    obtain ⟨c, hcc⟩ : ∃ c, c = chkD l := ⟨_, rfl⟩
    rw [← hcc] at h14' h0 ⊢
    repeat' (first | (apply aw_seq_k; intro K hK) | (refine aw_run hc (by first | exact aw_nod | (intro _; rw [ordB_w hw]; kernel_rfl) | (intro _; rw [ordB_w0 hw0]; kernel_rfl) | (intro _; kernel_rfl)) ?_; simp [List.zipIdx, h14', h0, -getM, getM_hit, getM_miss, getM_none]; (repeat (simp (disch := first | omega | assumption | fail) only [if_pos, if_neg, wrap64]; try simp [List.zipIdx, h14', h0, -getM, getM_hit, getM_miss, getM_none])); try (repeat' (refine guardQ_split (fun h => ?_) (fun h => ?_) <;> simp at h <;> (simp [List.zipIdx, h14', h0, -getM, getM_hit, getM_miss, getM_none]; (repeat (simp (disch := first | omega | assumption | fail) only [if_pos, if_neg, wrap64]; try simp [List.zipIdx, h14', h0, -getM, getM_hit, getM_miss, getM_none])))))) | (refine aw_cond (b := _) (by exact rfl) (fun h => ?_) (fun h => ?_) <;> (try simp at h)) | (refine aw_block ?_) | (refine aw_skip ?_; simp only [thenQ, blockQ, if_true]) | (refine aw_exit ?_; simp [thenQ, blockQ]) | (refine aw_ret ?_; simp only [thenQ, blockQ]) | (refine aw_round ?_) | (refine hK _ ?_; clear hK) | (clear hK; refine hK _ ?_; clear hK) | (clear hK; clear hK; refine hK _ ?_; clear hK) | (clear hK; clear hK; clear hK; refine hK _ ?_; clear hK))
    refine ⟨by simp, ?_⟩
    simp [leaves_iff, Try.f24, drows_nil]
    try (first | omega | (refine decide_eq_decide.2 ?_; omega) | (refine decide_eq_false ?_; omega) | (refine decide_eq_true ?_; omega))
end Go.AM
