/- buddy.clone, block, IsFree, Free. -/
import Derived.Test.YtjdahonmgfhpgaaBd19
import Derived.Test.YtjdahonmgfhpgaaBdS
import Derived.Test.YtjdahonmgfhpgaaBd14
set_option linter.all false

namespace Go.AM
open Go Go.Proofs

theorem cloF_at {l : List Int} (h : l.length ≤ 1000000) : cloF [.rd 1 (irows l)] = some (.ow 1 (irows l)) := by
  unfold cloF
  simp only [unI_irows]
  rw [if_pos h]

theorem s50 (X : AX) (hX : XOK Try.prog X) (hw : X.W wT) (h59 : X.call 59 = callP cloF) :
    PSound Try.prog 50 (specF (ι := {z : Zn // small z}) (fun z => [.agg z.1.cells]) fun z => retOf [.agg z.1.ocells]) := by
  refine psound_spec hX mixed Try.func50 rfl fun ⟨z, hz⟩ w0 G => ⟨by show 1 ≤ 17; decide, rfl, ?_⟩
  show AW ⟨Try.prog, X, 17, w0, .pure G⟩ _ _ _
  have hc : Cx.OK ⟨Try.prog, X, 17, w0, .pure G⟩ := ⟨hX, mixed⟩
  simp only at hz ⊢
  have c0 := cloF_at (l := z.f0) (by have h : z.f0.length ≤ 1000 := hz 0 (by omega); omega)
  have c1 := cloF_at (l := z.f1) (by have h : z.f1.length ≤ 1000 := hz 1 (by omega); omega)
  have c2 := cloF_at (l := z.f2) (by have h : z.f2.length ≤ 1000 := hz 2 (by omega); omega)
  have c3 := cloF_at (l := z.f3) (by have h : z.f3.length ≤ 1000 := hz 3 (by omega); omega)
  have c4 := cloF_at (l := z.f4) (by have h : z.f4.length ≤ 1000 := hz 4 (by omega); omega)
  simp only [Zn.cells]
  repeat' (first
    | (apply aw_seq_k; intro K hK)
    | (refine aw_run hc (by first | exact aw_nod | (intro _; rw [ordB_w hw]; kernel_rfl) | (intro _; kernel_rfl)) ?_; simp [List.zipIdx, -getM, getM_hit, getM_miss, getM_none]; (repeat (simp (disch := first | omega | assumption | fail) only [if_pos, if_neg, wrap64]; try simp [List.zipIdx, -getM, getM_hit, getM_miss, getM_none])); try (repeat' (refine guardQ_split (fun h => ?_) (fun h => ?_) <;> simp at h <;> (simp [List.zipIdx, -getM, getM_hit, getM_miss, getM_none]; (repeat (simp (disch := first | omega | assumption | fail) only [if_pos, if_neg, wrap64]; try simp [List.zipIdx, -getM, getM_hit, getM_miss, getM_none]))))))
    | (refine aw_cond (b := _) (by exact rfl) (fun h => ?_) (fun h => ?_) <;> (try simp at h))
    | (refine aw_block ?_)
    | (refine aw_skip ?_; simp only [thenQ, blockQ, if_true])
    | (refine aw_exit ?_; simp [thenQ, blockQ])
    | (refine aw_ret ?_; simp only [thenQ, blockQ])
    | (refine aw_round ?_)
    | (refine hK _ ?_; clear hK)
    | (clear hK; refine hK _ ?_; clear hK)
    | (clear hK; clear hK; refine hK _ ?_; clear hK)
    | (clear hK; clear hK; clear hK; refine hK _ ?_; clear hK))
  refine aw_rounds 6 (aw_round ?_)
  repeat' (first
    | (apply aw_seq_k; intro K hK)
    | (refine aw_run hc (by first | exact aw_nod | (intro _; rw [ordB_w hw]; kernel_rfl) | (intro _; kernel_rfl)) ?_; simp [List.zipIdx, h59, c0, c1, c2, c3, c4, -getM, getM_hit, getM_miss, getM_none]; (repeat (simp (disch := first | omega | assumption | fail) only [if_pos, if_neg, wrap64]; try simp [List.zipIdx, h59, c0, c1, c2, c3, c4, -getM, getM_hit, getM_miss, getM_none])); try (repeat' (refine guardQ_split (fun h => ?_) (fun h => ?_) <;> simp at h <;> (simp [List.zipIdx, h59, c0, c1, c2, c3, c4, -getM, getM_hit, getM_miss, getM_none]; (repeat (simp (disch := first | omega | assumption | fail) only [if_pos, if_neg, wrap64]; try simp [List.zipIdx, h59, c0, c1, c2, c3, c4, -getM, getM_hit, getM_miss, getM_none]))))))
    | (refine aw_cond (b := _) (by exact rfl) (fun h => ?_) (fun h => ?_) <;> (try simp at h))
    | (refine aw_block ?_)
    | (refine aw_skip ?_; simp only [thenQ, blockQ, if_true])
    | (refine aw_exit ?_; simp [thenQ, blockQ])
    | (refine aw_ret ?_; simp only [thenQ, blockQ])
    | (refine aw_round ?_)
    | (refine hK _ ?_; clear hK)
    | (clear hK; refine hK _ ?_; clear hK)
    | (clear hK; clear hK; refine hK _ ?_; clear hK)
    | (clear hK; clear hK; clear hK; refine hK _ ?_; clear hK))
  refine ⟨by simp, ?_⟩
  simp [leaves_iff, Try.f50, Zn.ocells, take_irows]
  try (first | omega | (refine decide_eq_decide.2 ?_; omega) | (refine decide_eq_false ?_; omega) | (refine decide_eq_true ?_; omega))

theorem andNot_all : ((List.range 256).all fun f => (List.range 5).all fun k => bitI .andNot .i64 (f : Int) (2 ^ k - 1) == (f : Int) - (f : Int) % 2 ^ k) = true := by kernel_rfl
theorem andNot_bs {f : Int} {k : Nat} (h0 : 0 ≤ f) (h : f < 256) (hk : k ≤ 4) : bitI .andNot .i64 f (2 ^ k - 1) = bs f k := by
  obtain ⟨n, rfl⟩ := Int.eq_ofNat_of_zero_le h0
  have := List.all_eq_true.1 andNot_all n (List.mem_range.2 (by omega))
  have := List.all_eq_true.1 this k (List.mem_range.2 (by omega))
  exact eq_of_beq this

theorem s52 (X : AX) (hX : XOK Try.prog X) (hw : X.W wT) (h43 : X.call 43 = callP F43) :
    PSound Try.prog 52 (specF (ι := {x : Zn × Int // (∀ k, k ≤ 4 → Sorted (x.1.fr k)) ∧ small x.1 ∧ 0 ≤ x.2 ∧ x.2 < 256}) (fun x => [.agg x.1.1.cells, I x.1.2]) fun x => retOf [I (blkR x.1.1 x.1.2).1, I (blkR x.1.1 x.1.2).2]) := by
  refine psound_spec hX mixed Try.func52 rfl fun ⟨⟨z, x⟩, hs, hz, h0, h1⟩ w0 G => ⟨by show 2 ≤ 31; decide, rfl, ?_⟩
  show AW ⟨Try.prog, X, 31, w0, .pure G⟩ _ _ _
  have hc : Cx.OK ⟨Try.prog, X, 31, w0, .pure G⟩ := ⟨hX, mixed⟩
  simp only at hs hz h0 h1 ⊢
  have c0 := F43_at (x := bs x 0) (hs 0 (by omega)) (by have := hz 0 (by omega); omega)
  have c1 := F43_at (x := bs x 1) (hs 1 (by omega)) (by have := hz 1 (by omega); omega)
  have c2 := F43_at (x := bs x 2) (hs 2 (by omega)) (by have := hz 2 (by omega); omega)
  have c3 := F43_at (x := bs x 3) (hs 3 (by omega)) (by have := hz 3 (by omega); omega)
  have c4 := F43_at (x := bs x 4) (hs 4 (by omega)) (by have := hz 4 (by omega); omega)
  have b0 : bitI .andNot .i64 x 0 = bs x 0 := andNot_bs (k := 0) h0 h1 (by omega)
  have b1 : bitI .andNot .i64 x 1 = bs x 1 := andNot_bs (k := 1) h0 h1 (by omega)
  have b2 : bitI .andNot .i64 x 3 = bs x 2 := andNot_bs (k := 2) h0 h1 (by omega)
  have b3 : bitI .andNot .i64 x 7 = bs x 3 := andNot_bs (k := 3) h0 h1 (by omega)
  have b4 : bitI .andNot .i64 x 15 = bs x 4 := andNot_bs (k := 4) h0 h1 (by omega)
  simp only [Zn.fr, List.getD_cons_zero, List.getD_cons_succ] at c0 c1 c2 c3 c4
  simp only [Zn.cells]
  repeat' (first
    | (apply aw_seq_k; intro K hK)
    | (refine aw_run hc (by first | exact aw_nod | (intro _; rw [ordB_w hw]; kernel_rfl) | (intro _; kernel_rfl)) ?_; simp [List.zipIdx, -getM, getM_hit, getM_miss, getM_none]; (repeat (simp (disch := first | omega | assumption | fail) only [if_pos, if_neg, wrap64]; try simp [List.zipIdx, -getM, getM_hit, getM_miss, getM_none])); try (repeat' (refine guardQ_split (fun h => ?_) (fun h => ?_) <;> simp at h <;> (simp [List.zipIdx, -getM, getM_hit, getM_miss, getM_none]; (repeat (simp (disch := first | omega | assumption | fail) only [if_pos, if_neg, wrap64]; try simp [List.zipIdx, -getM, getM_hit, getM_miss, getM_none]))))))
    | (refine aw_cond (b := _) (by exact rfl) (fun h => ?_) (fun h => ?_) <;> (try simp at h))
    | (refine aw_block ?_)
    | (refine aw_skip ?_; simp only [thenQ, blockQ, if_true])
    | (refine aw_exit ?_; simp [thenQ, blockQ])
    | (refine aw_ret ?_; simp only [thenQ, blockQ])
    | (refine aw_round ?_)
    | (refine hK _ ?_; clear hK)
    | (clear hK; refine hK _ ?_; clear hK)
    | (clear hK; clear hK; refine hK _ ?_; clear hK)
    | (clear hK; clear hK; clear hK; refine hK _ ?_; clear hK))
  refine aw_rounds 6 (aw_round ?_)
  repeat' (first
    | (apply aw_seq_k; intro K hK)
    | (refine aw_run hc (by first | exact aw_nod | (intro _; rw [ordB_w hw]; kernel_rfl) | (intro _; kernel_rfl)) ?_; simp [List.zipIdx, h43, c0, c1, c2, c3, c4, b0, b1, b2, b3, b4, bits64, -getM, getM_hit, getM_miss, getM_none]; (repeat (simp (disch := first | omega | assumption | fail) only [if_pos, if_neg, wrap64]; try simp [List.zipIdx, h43, c0, c1, c2, c3, c4, b0, b1, b2, b3, b4, bits64, -getM, getM_hit, getM_miss, getM_none])); try (repeat' (refine guardQ_split (fun h => ?_) (fun h => ?_) <;> simp at h <;> (simp [List.zipIdx, h43, c0, c1, c2, c3, c4, b0, b1, b2, b3, b4, bits64, -getM, getM_hit, getM_miss, getM_none]; (repeat (simp (disch := first | omega | assumption | fail) only [if_pos, if_neg, wrap64]; try simp [List.zipIdx, h43, c0, c1, c2, c3, c4, b0, b1, b2, b3, b4, bits64, -getM, getM_hit, getM_miss, getM_none]))))))
    | (refine aw_cond (b := _) (by exact rfl) (fun h => ?_) (fun h => ?_) <;> (try simp at h))
    | (refine aw_block ?_)
    | (refine aw_skip ?_; simp only [thenQ, blockQ, if_true])
    | (refine aw_exit ?_; simp [thenQ, blockQ])
    | (refine aw_ret ?_; simp only [thenQ, blockQ])
    | (refine aw_round ?_)
    | (refine hK _ ?_; clear hK)
    | (clear hK; refine hK _ ?_; clear hK)
    | (clear hK; clear hK; refine hK _ ?_; clear hK)
    | (clear hK; clear hK; clear hK; refine hK _ ?_; clear hK))
  all_goals
    simp only [blkR]
    refine ⟨by simp, ?_⟩
    simp [leaves_iff, Try.f52, *]
end Go.AM
