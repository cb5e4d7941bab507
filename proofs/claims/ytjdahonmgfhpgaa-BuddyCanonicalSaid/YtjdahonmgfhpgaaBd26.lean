/- buddy.clone, block, IsFree, Free. -/
import Derived.Test.YtjdahonmgfhpgaaBd19
import Derived.Test.YtjdahonmgfhpgaaBdR
import Derived.Test.YtjdahonmgfhpgaaBd14
set_option linter.all false

namespace Go.AM
open Go Go.Proofs

theorem cloF_at {l : List Int} (h : l.length ≤ 1000000) : cloF [.rd 1 (irows l)] = some (.ow 1 (irows l)) := by
  unfold cloF
  simp only [unI_irows]
  rw [if_pos h]

theorem s50 (X : AX) (hX : XOK Try.prog X) (hw : X.W wT) (h59 : X.call 59 = callP cloF) :
    PSound Try.prog 50 (specF (ι := {z : Zn // small z}) (fun z => [.agg z.1.cells]) fun z => retOf [.agg z.1.ocells]) := by
  refine psound_spec hX mixed Try.func50 rfl fun ⟨z, hz⟩ w0 G => ⟨by show 1 ≤ 17; decide, rfl, ?_⟩
  show AW ⟨Try.prog, X, 17, w0, .pure G⟩ _ _ _
  have hc : Cx.OK ⟨Try.prog, X, 17, w0, .pure G⟩ := ⟨hX, mixed⟩
  simp only at hz ⊢
  have c0 := cloF_at (l := z.f0) (by have h : z.f0.length ≤ 1000 := hz 0 (by omega); omega)
  have c1 := cloF_at (l := z.f1) (by have h : z.f1.length ≤ 1000 := hz 1 (by omega); omega)
  have c2 := cloF_at (l := z.f2) (by have h : z.f2.length ≤ 1000 := hz 2 (by omega); omega)
  have c3 := cloF_at (l := z.f3) (by have h : z.f3.length ≤ 1000 := hz 3 (by omega); omega)
  have c4 := cloF_at (l := z.f4) (by have h : z.f4.length ≤ 1000 := hz 4 (by omega); omega)
  simp only [Zn.cells]
  repeat' (first | (apply aw_seq_k; intro K hK) | (refine aw_run hc (by first | exact aw_nod | (intro _; rw [ordB_w hw]; kernel_rfl) | (intro _; kernel_rfl)) ?_; simp [List.zipIdx, -getM, getM_hit, getM_miss, getM_none]; (repeat (simp (disch := first | omega | assumption | fail) only [if_pos, if_neg, wrap64]; try simp [List.zipIdx, -getM, getM_hit, getM_miss, getM_none])); try (repeat' (refine guardQ_split (fun h => ?_) (fun h => ?_) <;> simp at h <;> (simp [List.zipIdx, -getM, getM_hit, getM_miss, getM_none]; (repeat (simp (disch := first | omega | assumption | fail) only [if_pos, if_neg, wrap64]; try simp [List.zipIdx, -getM, getM_hit, getM_miss, getM_none])))))) | (refine aw_cond (b := _) (by exact rfl) (fun h => ?_) (fun h => ?_) <;> (try simp at h)) | (refine aw_block ?_) | (refine aw_skip ?_; simp only [thenQ, blockQ, if_true]) | (refine aw_exit ?_; simp [thenQ, blockQ]) | (refine aw_ret ?_; simp only [thenQ, blockQ]) | (refine aw_round ?_) | (refine hK _ ?_; clear hK) | (clear hK; refine hK _ ?_; clear hK) | (clear hK; clear hK; refine hK _ ?_; clear hK) | (clear hK; clear hK; clear hK; refine hK _ ?_; clear hK))
  refine aw_rounds 6 (aw_round ?_)
  repeat' (first | (apply aw_seq_k; intro K hK) | (refine aw_run hc (by first | exact aw_nod | (intro _; rw [ordB_w hw]; kernel_rfl) | (intro _; kernel_rfl)) ?_; simp [List.zipIdx, h59, c0, c1, c2, c3, c4, -getM, getM_hit, getM_miss, getM_none]; (repeat (simp (disch := first | omega | assumption | fail) only [if_pos, if_neg, wrap64]; try simp [List.zipIdx, h59, c0, c1, c2, c3, c4, -getM, getM_hit, getM_miss, getM_none])); try (repeat' (refine guardQ_split (fun h => ?_) (fun h => ?_) <;> simp at h <;> (simp [List.zipIdx, h59, c0, c1, c2, c3, c4, -getM, getM_hit, getM_miss, getM_none]; (repeat (simp (disch := first | omega | assumption | fail) only [if_pos, if_neg, wrap64]; try simp [List.zipIdx, h59, c0, c1, c2, c3, c4, -getM, getM_hit, getM_miss, getM_none])))))) | (refine aw_cond (b := _) (by exact rfl) (fun h => ?_) (fun h => ?_) <;> (try simp at h)) | (refine aw_block ?_) | (refine aw_skip ?_; simp only [thenQ, blockQ, if_true]) | (refine aw_exit ?_; simp [thenQ, blockQ]) | (refine aw_ret ?_; simp only [thenQ, blockQ]) | (refine aw_round ?_) | (refine hK _ ?_; clear hK) | (clear hK; refine hK _ ?_; clear hK) | (clear hK; clear hK; refine hK _ ?_; clear hK) | (clear hK; clear hK; clear hK; refine hK _ ?_; clear hK))
  refine ⟨by simp, ?_⟩
  simp [leaves_iff, Try.f50, Zn.ocells, take_irows]
  try (first | omega | (refine decide_eq_decide.2 ?_; omega) | (refine decide_eq_false ?_; omega) | (refine decide_eq_true ?_; omega))

theorem andNot_all : ((List.range 256).all fun f => (List.range 5).all fun k => bitI .andNot .i64 (f : Int) (2 ^ k - 1) == (f : Int) - (f : Int) % 2 ^ k) = true := by kernel_rfl
theorem andNot_bs {f : Int} {k : Nat} (h0 : 0 ≤ f) (h : f < 256) (hk : k ≤ 4) : bitI .andNot .i64 f (2 ^ k - 1) = bs f k := by
  obtain ⟨n, rfl⟩ := Int.eq_ofNat_of_zero_le h0
  have := List.all_eq_true.1 andNot_all n (List.mem_range.2 (by omega))
  have := List.all_eq_true.1 this k (List.mem_range.2 (by omega))
  exact eq_of_beq this

theorem s52 (X : AX) (hX : XOK Try.prog X) (hw : X.W wT) (h43 : X.call 43 = callP F43) :
    PSound Try.prog 52 (specF (ι := {x : Zn × Int // (∀ k, k ≤ 4 → Sorted (x.1.fr k)) ∧ small x.1 ∧ 0 ≤ x.2 ∧ x.2 < 256}) (fun x => [.agg x.1.1.cells, I x.1.2]) fun x => retOf [I (blkR x.1.1 x.1.2).1, I (blkR x.1.1 x.1.2).2]) := by
  refine psound_spec hX mixed Try.func52 rfl fun ⟨⟨z, x⟩, hs, hz, h0, h1⟩ w0 G => ⟨by show 2 ≤ 31; decide, rfl, ?_⟩
  show AW ⟨Try.prog, X, 31, w0, .pure G⟩ _ _ _
  have hc : Cx.OK ⟨Try.prog, X, 31, w0, .pure G⟩ := ⟨hX, mixed⟩
  simp only at hs hz h0 h1 ⊢
  have c0 := F43_at (x := bs x 0) (hs 0 (by omega)) (by have := hz 0 (by omega); omega)
  have c1 := F43_at (x := bs x 1) (hs 1 (by omega)) (by have := hz 1 (by omega); omega)
  have c2 := F43_at (x := bs x 2) (hs 2 (by omega)) (by have := hz 2 (by omega); omega)
  have c3 := F43_at (x := bs x 3) (hs 3 (by omega)) (by have := hz 3 (by omega); omega)
  have c4 := F43_at (x := bs x 4) (hs 4 (by omega)) (by have := hz 4 (by omega); omega)
  have b0 : bitI .andNot .i64 x 0 = bs x 0 := andNot_bs (k := 0) h0 h1 (by omega)
  have b1 : bitI .andNot .i64 x 1 = bs x 1 := andNot_bs (k := 1) h0 h1 (by omega)
  have b2 : bitI .andNot .i64 x 3 = bs x 2 := andNot_bs (k := 2) h0 h1 (by omega)
  have b3 : bitI .andNot .i64 x 7 = bs x 3 := andNot_bs (k := 3) h0 h1 (by omega)
  have b4 : bitI .andNot .i64 x 15 = bs x 4 := andNot_bs (k := 4) h0 h1 (by omega)
  simp only [Zn.fr, List.getD_cons_zero, List.getD_cons_succ] at c0 c1 c2 c3 c4
  simp only [Zn.cells]
  repeat' (first | (apply aw_seq_k; intro K hK) | (refine aw_run hc (by first | exact aw_nod | (intro _; rw [ordB_w hw]; kernel_rfl) | (intro _; kernel_rfl)) ?_; simp [List.zipIdx, -getM, getM_hit, getM_miss, getM_none]; (repeat (simp (disch := first | omega | assumption | fail) only [if_pos, if_neg, wrap64]; try simp [List.zipIdx, -getM, getM_hit, getM_miss, getM_none])); try (repeat' (refine guardQ_split (fun h => ?_) (fun h => ?_) <;> simp at h <;> (simp [List.zipIdx, -getM, getM_hit, getM_miss, getM_none]; (repeat (simp (disch := first | omega | assumption | fail) only [if_pos, if_neg, wrap64]; try simp [List.zipIdx, -getM, getM_hit, getM_miss, getM_none])))))) | (refine aw_cond (b := _) (by exact rfl) (fun h => ?_) (fun h => ?_) <;> (try simp at h)) | (refine aw_block ?_) | (refine aw_skip ?_; simp only [thenQ, blockQ, if_true]) | (refine aw_exit ?_; simp [thenQ, blockQ]) | (refine aw_ret ?_; simp only [thenQ, blockQ]) | (refine aw_round ?_) | (refine hK _ ?_; clear hK) | (clear hK; refine hK _ ?_; clear hK) | (clear hK; clear hK; refine hK _ ?_; clear hK) | (clear hK; clear hK; clear hK; refine hK _ ?_; clear hK))
  refine aw_rounds 6 (aw_round ?_)
  repeat' (first | (apply aw_seq_k; intro K hK) | (refine aw_run hc (by first | exact aw_nod | (intro _; rw [ordB_w hw]; kernel_rfl) | (intro _; kernel_rfl)) ?_; simp [List.zipIdx, h43, c0, c1, c2, c3, c4, b0, b1, b2, b3, b4, bits64, -getM, getM_hit, getM_miss, getM_none]; (repeat (simp (disch := first | omega | assumption | fail) only [if_pos, if_neg, wrap64]; try simp [List.zipIdx, h43, c0, c1, c2, c3, c4, b0, b1, b2, b3, b4, bits64, -getM, getM_hit, getM_miss, getM_none])); try (repeat' (refine guardQ_split (fun h => ?_) (fun h => ?_) <;> simp at h <;> (simp [List.zipIdx, h43, c0, c1, c2, c3, c4, b0, b1, b2, b3, b4, bits64, -getM, getM_hit, getM_miss, getM_none]; (repeat (simp (disch := first | omega | assumption | fail) only [if_pos, if_neg, wrap64]; try simp [List.zipIdx, h43, c0, c1, c2, c3, c4, b0, b1, b2, b3, b4, bits64, -getM, getM_hit, getM_miss, getM_none])))))) | (refine aw_cond (b := _) (by exact rfl) (fun h => ?_) (fun h => ?_) <;> (try simp at h)) | (refine aw_block ?_) | (refine aw_skip ?_; simp only [thenQ, blockQ, if_true]) | (refine aw_exit ?_; simp [thenQ, blockQ]) | (refine aw_ret ?_; simp only [thenQ, blockQ]) | (refine aw_round ?_) | (refine hK _ ?_; clear hK) | (clear hK; refine hK _ ?_; clear hK) | (clear hK; clear hK; refine hK _ ?_; clear hK) | (clear hK; clear hK; clear hK; refine hK _ ?_; clear hK))
  all_goals
    simp only [blkR]
    refine ⟨by simp, ?_⟩
    simp [leaves_iff, Try.f52, *]
end Go.AM

/- buddy.IsFree, buddy.Free. -/
namespace Go.AM
open Go Go.Proofs

noncomputable def F50 : List AV → Option AV := specF (ι := {z : Zn // small z}) (fun z => [.agg z.1.cells]) fun z => retOf [.agg z.1.ocells]
theorem F50_at {z : Zn} (hz : small z) : F50 [.agg z.cells] = some (.agg z.ocells) :=
  specF_eq (ι := {z : Zn // small z}) (A := fun z => [.agg z.1.cells]) (R := fun z => retOf [.agg z.1.ocells]) ⟨z, hz⟩ (by
    rintro ⟨y, h⟩ e
    simp [Zn.cells_inj] at e
    subst e; rfl)

open Classical in
theorem s26 (X : AX) (hX : XOK Try.prog X) (hw : X.W wT) (h16 : ∀ z M n, small z → X.call 16 [.agg z.cells] M n = some (I (checkZ z), []))
    (h42 : ∀ (z : Zn) (f : Int) (k : Nat) M n, rangesZ z → k ≤ 5 → X.call 42 [.agg z.cells, I f, I (k : Int)] M n = some (B (insideZ z f k), []))
    (h52 : ∀ z x M n, Valid z → small z → 0 ≤ x → x < 256 → X.call 52 [.agg z.cells, I x] M n = some (.tup [I (blkR z x).1, I (blkR z x).2], [])) :
    PSound Try.prog 26 (specF (ι := {x : Zn × Int // small x.1}) (fun x => [.agg x.1.1.cells, I x.1.2]) fun x => retOf [B (decide (checkZ x.1.1 = 0 ∧ free x.1.1 x.1.2))]) := by
  refine psound_spec hX mixed Try.func26 rfl fun ⟨⟨z, g⟩, hz⟩ w0 G => ⟨by show 2 ≤ 24; decide, rfl, ?_⟩
  show AW ⟨Try.prog, X, 24, w0, .pure G⟩ _ _ _
  have hc : Cx.OK ⟨Try.prog, X, 24, w0, .pure G⟩ := ⟨hX, mixed⟩
  simp only at hz ⊢
  have h16z := fun M n => h16 z M n hz
  rcases Decidable.em (checkZ z = 0) with hc0 | hc0
  · obtain ⟨hr, hv⟩ := check_parts hc0
    rcases Decidable.em (insideZ z g 0) with hin | hin
    · have h42z : ∀ M n, X.call 42 [.agg z.cells, I g, I 0] M n = some (B true, []) := fun M n => by
        have := h42 z g 0 M n hr (by omega)
        rwa [decide_eq_true hin] at this
      have hb := inside_bounds hr hin
      have hf : g < 256 := by have := hb.2; simp at this; omega
      have h52z := fun M n => h52 z g M n hv hz hb.1 hf
      rcases blkR_cases hv g with ⟨hfr, he⟩ | ⟨k, hk, hm, hfr, he⟩
      · rw [he] at h52z
        repeat' (first | (apply aw_seq_k; intro K hK) | (refine aw_run hc (by first | exact aw_nod | (intro _; rw [ordB_w hw]; kernel_rfl) | (intro _; kernel_rfl)) ?_; simp [List.zipIdx, h16z, hc0, h42z, h52z, -getM, getM_hit, getM_miss, getM_none]; (repeat (simp (disch := first | omega | assumption | fail) only [if_pos, if_neg, wrap64]; try simp [List.zipIdx, h16z, hc0, h42z, h52z, -getM, getM_hit, getM_miss, getM_none])); try (repeat' (refine guardQ_split (fun h => ?_) (fun h => ?_) <;> simp at h <;> (simp [List.zipIdx, h16z, hc0, h42z, h52z, -getM, getM_hit, getM_miss, getM_none]; (repeat (simp (disch := first | omega | assumption | fail) only [if_pos, if_neg, wrap64]; try simp [List.zipIdx, h16z, hc0, h42z, h52z, -getM, getM_hit, getM_miss, getM_none])))))) | (refine aw_cond (b := _) (by exact rfl) (fun h => ?_) (fun h => ?_) <;> (try simp at h)) | (refine aw_block ?_) | (refine aw_skip ?_; simp only [thenQ, blockQ, if_true]) | (refine aw_exit ?_; simp [thenQ, blockQ]) | (refine aw_ret ?_; simp only [thenQ, blockQ]) | (refine aw_round ?_) | (refine hK _ ?_; clear hK) | (clear hK; refine hK _ ?_; clear hK) | (clear hK; clear hK; refine hK _ ?_; clear hK) | (clear hK; clear hK; clear hK; refine hK _ ?_; clear hK))
        refine ⟨by simp, ?_⟩
        simp [leaves_iff, Try.f26, hfr, hc0]
        try (first | omega | (refine decide_eq_decide.2 ?_; omega) | (refine decide_eq_false ?_; omega) | (refine decide_eq_true ?_; omega))
      · rw [he] at h52z
        have hki : (0 : Int) ≤ (k : Int) := by omega
        repeat' (first | (apply aw_seq_k; intro K hK) | (refine aw_run hc (by first | exact aw_nod | (intro _; rw [ordB_w hw]; kernel_rfl) | (intro _; kernel_rfl)) ?_; simp [List.zipIdx, h16z, hc0, h42z, h52z, hki, -getM, getM_hit, getM_miss, getM_none]; (repeat (simp (disch := first | omega | assumption | fail) only [if_pos, if_neg, wrap64]; try simp [List.zipIdx, h16z, hc0, h42z, h52z, hki, -getM, getM_hit, getM_miss, getM_none])); try (repeat' (refine guardQ_split (fun h => ?_) (fun h => ?_) <;> simp at h <;> (simp [List.zipIdx, h16z, hc0, h42z, h52z, hki, -getM, getM_hit, getM_miss, getM_none]; (repeat (simp (disch := first | omega | assumption | fail) only [if_pos, if_neg, wrap64]; try simp [List.zipIdx, h16z, hc0, h42z, h52z, hki, -getM, getM_hit, getM_miss, getM_none])))))) | (refine aw_cond (b := _) (by exact rfl) (fun h => ?_) (fun h => ?_) <;> (try simp at h)) | (refine aw_block ?_) | (refine aw_skip ?_; simp only [thenQ, blockQ, if_true]) | (refine aw_exit ?_; simp [thenQ, blockQ]) | (refine aw_ret ?_; simp only [thenQ, blockQ]) | (refine aw_round ?_) | (refine hK _ ?_; clear hK) | (clear hK; refine hK _ ?_; clear hK) | (clear hK; clear hK; refine hK _ ?_; clear hK) | (clear hK; clear hK; clear hK; refine hK _ ?_; clear hK))
        refine ⟨by simp, ?_⟩
        simp [leaves_iff, Try.f26, hfr, hc0]
        try (first | omega | (refine decide_eq_decide.2 ?_; omega) | (refine decide_eq_false ?_; omega) | (refine decide_eq_true ?_; omega))
    · have h42z : ∀ M n, X.call 42 [.agg z.cells, I g, I 0] M n = some (B false, []) := fun M n => by
        have := h42 z g 0 M n hr (by omega)
        rwa [decide_eq_false hin] at this
      have hfr : ¬ free z g := fun h => hin ((inside0 hr).2 (hv.inz g h))
      repeat' (first | (apply aw_seq_k; intro K hK) | (refine aw_run hc (by first | exact aw_nod | (intro _; rw [ordB_w hw]; kernel_rfl) | (intro _; kernel_rfl)) ?_; simp [List.zipIdx, h16z, hc0, h42z, -getM, getM_hit, getM_miss, getM_none]; (repeat (simp (disch := first | omega | assumption | fail) only [if_pos, if_neg, wrap64]; try simp [List.zipIdx, h16z, hc0, h42z, -getM, getM_hit, getM_miss, getM_none])); try (repeat' (refine guardQ_split (fun h => ?_) (fun h => ?_) <;> simp at h <;> (simp [List.zipIdx, h16z, hc0, h42z, -getM, getM_hit, getM_miss, getM_none]; (repeat (simp (disch := first | omega | assumption | fail) only [if_pos, if_neg, wrap64]; try simp [List.zipIdx, h16z, hc0, h42z, -getM, getM_hit, getM_miss, getM_none])))))) | (refine aw_cond (b := _) (by exact rfl) (fun h => ?_) (fun h => ?_) <;> (try simp at h)) | (refine aw_block ?_) | (refine aw_skip ?_; simp only [thenQ, blockQ, if_true]) | (refine aw_exit ?_; simp [thenQ, blockQ]) | (refine aw_ret ?_; simp only [thenQ, blockQ]) | (refine aw_round ?_) | (refine hK _ ?_; clear hK) | (clear hK; refine hK _ ?_; clear hK) | (clear hK; clear hK; refine hK _ ?_; clear hK) | (clear hK; clear hK; clear hK; refine hK _ ?_; clear hK))
      refine ⟨by simp, ?_⟩
      simp [leaves_iff, Try.f26, hfr]
      try (first | omega | (refine decide_eq_decide.2 ?_; omega) | (refine decide_eq_false ?_; omega) | (refine decide_eq_true ?_; omega))
  · repeat' (first | (apply aw_seq_k; intro K hK) | (refine aw_run hc (by first | exact aw_nod | (intro _; rw [ordB_w hw]; kernel_rfl) | (intro _; kernel_rfl)) ?_; simp [List.zipIdx, h16z, hc0, -getM, getM_hit, getM_miss, getM_none]; (repeat (simp (disch := first | omega | assumption | fail) only [if_pos, if_neg, wrap64]; try simp [List.zipIdx, h16z, hc0, -getM, getM_hit, getM_miss, getM_none])); try (repeat' (refine guardQ_split (fun h => ?_) (fun h => ?_) <;> simp at h <;> (simp [List.zipIdx, h16z, hc0, -getM, getM_hit, getM_miss, getM_none]; (repeat (simp (disch := first | omega | assumption | fail) only [if_pos, if_neg, wrap64]; try simp [List.zipIdx, h16z, hc0, -getM, getM_hit, getM_miss, getM_none])))))) | (refine aw_cond (b := _) (by exact rfl) (fun h => ?_) (fun h => ?_) <;> (try simp at h)) | (refine aw_block ?_) | (refine aw_skip ?_; simp only [thenQ, blockQ, if_true]) | (refine aw_exit ?_; simp [thenQ, blockQ]) | (refine aw_ret ?_; simp only [thenQ, blockQ]) | (refine aw_round ?_) | (refine hK _ ?_; clear hK) | (clear hK; refine hK _ ?_; clear hK) | (clear hK; clear hK; refine hK _ ?_; clear hK) | (clear hK; clear hK; clear hK; refine hK _ ?_; clear hK))
    refine ⟨by simp, ?_⟩
    simp [leaves_iff, Try.f26, hc0]
    try (first | omega | (refine decide_eq_decide.2 ?_; omega) | (refine decide_eq_false ?_; omega) | (refine decide_eq_true ?_; omega))

theorem s23 (X : AX) (hX : XOK Try.prog X) (hw : X.W wT) (h16 : ∀ z M n, small z → X.call 16 [.agg z.cells] M n = some (I (checkZ z), []))
    (h42 : ∀ (z : Zn) (f : Int) (k : Nat) M n, rangesZ z → k ≤ 5 → X.call 42 [.agg z.cells, I f, I (k : Int)] M n = some (B (insideZ z f k), []))
    (h48 : X.call 48 = callM false one1 F48) (h50 : X.call 50 = callP F50)
    (h52 : ∀ z x M n, Valid z → small z → 0 ≤ x → x < 256 → X.call 52 [.agg z.cells, I x] M n = some (.tup [I (blkR z x).1, I (blkR z x).2], [])) :
    PSound Try.prog 23 (specF (ι := {x : Zn × Int × Int // small x.1}) (fun x => [.agg x.1.1.cells, I x.1.2.1, I x.1.2.2]) fun x => retOf [.agg (freeR x.1.1 x.1.2.1 x.1.2.2).1.ocells, I (freeR x.1.1 x.1.2.1 x.1.2.2).2]) := by
  refine psound_spec hX mixed Try.func23 rfl fun ⟨⟨z, g, o⟩, hz⟩ w0 G => ⟨by show 3 ≤ 57; decide, rfl, ?_⟩
  show AW ⟨Try.prog, X, 57, w0, .pure G⟩ _ _ _
  have hc : Cx.OK ⟨Try.prog, X, 57, w0, .pure G⟩ := ⟨hX, mixed⟩
  simp only at hz ⊢
  have h16z := fun M n => h16 z M n hz
  rcases Decidable.em (checkZ z = 0) with hc0 | hc0
  · obtain ⟨hr, hv⟩ := check_parts hc0
    rcases Decidable.em (0 ≤ o ∧ o ≤ 4) with ho | ho
    · obtain ⟨o, rfl⟩ := Int.eq_ofNat_of_zero_le ho.1
      have ho4 : o ≤ 4 := by omega
      have ho1 : ¬ (4 : Int) < (o : Int) := by omega
      have ho2 : ¬ (o : Int) < 0 := by omega
      rcases Decidable.em (insideZ z g o) with hin | hin
      · have h42z : ∀ M n, X.call 42 [.agg z.cells, I g, I (o : Int)] M n = some (B true, []) := fun M n => by
          have := h42 z g o M n hr (by omega)
          rwa [decide_eq_true hin] at this
        have hb := inside_bounds hr hin
        obtain ⟨f, rfl⟩ := Int.eq_ofNat_of_zero_le hb.1
        obtain ⟨w, hw1, hw2⟩ : ∃ w : Nat, (2 : Int) ^ o = w ∧ 2 ^ o = w := ⟨2 ^ o, by simp, rfl⟩
        have hw5 : w ≤ 16 := by
          rw [← hw2]
          rcases le4 ho4 with rfl | rfl | rfl | rfl | rfl <;> simp
        have hw0 : 1 ≤ w := by rw [← hw2]; exact Nat.one_le_two_pow
        rw [hw1] at hb
        have hsh : min o 64 = o := Nat.min_eq_left (by omega)
        have hwp := wrap_pow (show o ≤ 62 by omega)
        repeat' (first | (apply aw_seq_k; intro K hK) | (refine aw_run hc (by first | exact aw_nod | (intro _; rw [ordB_w hw]; kernel_rfl) | (intro _; kernel_rfl)) ?_; simp [List.zipIdx, h16z, hc0, h42z, ho1, ho2, -getM, getM_hit, getM_miss, getM_none]; (repeat (simp (disch := first | omega | assumption | fail) only [if_pos, if_neg, wrap64]; try simp [List.zipIdx, h16z, hc0, h42z, ho1, ho2, -getM, getM_hit, getM_miss, getM_none])); try (repeat' (refine guardQ_split (fun h => ?_) (fun h => ?_) <;> simp at h <;> (simp [List.zipIdx, h16z, hc0, h42z, ho1, ho2, -getM, getM_hit, getM_miss, getM_none]; (repeat (simp (disch := first | omega | assumption | fail) only [if_pos, if_neg, wrap64]; try simp [List.zipIdx, h16z, hc0, h42z, ho1, ho2, -getM, getM_hit, getM_miss, getM_none])))))) | (refine aw_cond (b := _) (by exact rfl) (fun h => ?_) (fun h => ?_) <;> (try simp at h)) | (refine aw_block ?_) | (refine aw_skip ?_; simp only [thenQ, blockQ, if_true]) | (refine aw_exit ?_; simp [thenQ, blockQ]) | (refine aw_ret ?_; simp only [thenQ, blockQ]) | (refine aw_round ?_) | (refine hK _ ?_; clear hK) | (clear hK; refine hK _ ?_; clear hK) | (clear hK; clear hK; refine hK _ ?_; clear hK) | (clear hK; clear hK; clear hK; refine hK _ ?_; clear hK))
        refine aw_loopK (s0 := ?lps1) (m0 := ?lpm1) (ι := {i : Nat // i ≤ w ∧ ∀ y : Int, (f : Int) ≤ y → y < (f : Int) + (i : Nat) → ¬ free z y}) [1, 2, 3, 6] (fun i => [(9, I ((f : Int) + (i.1 : Int)))]) (fun _ => []) (fun i => w - i.1) ⟨0, by omega, by intro y h1 h2; omega⟩ ?lhs1 ?lhm1 ?_ ?_
        case lhs1 => first | (simp [keepS]; done) | (simp [keepS]; rfl)
        case lhm1 => first | rfl | (simp; done) | (simp; rfl)
        · exact le_of2 (by simp) (by simp [AVle, AV.under, AV.underL] <;> omega) (by simp [AOle, AO.under, AV.underL, AV.under] <;> omega)
        · rintro ⟨i, hi, hnf⟩
          simp only
          rcases Decidable.em (i < w) with hiw | hiw
          · have hiwI : (i : Int) < (w : Int) := by omega
            have h52z := fun M n => h52 z ((f : Int) + (i : Int)) M n hv hz (by omega) (by omega)
            rcases blkR_cases hv ((f : Int) + (i : Int)) with ⟨hfr, he⟩ | ⟨k, hk, hm, hfr, he⟩
            · rw [he] at h52z
              repeat' (first | (apply aw_seq_k; intro K hK) | (refine aw_run hc (by first | exact aw_nod | (intro _; rw [ordB_w hw]; kernel_rfl) | (intro _; kernel_rfl)) ?_; simp [List.zipIdx, hiwI, h52z, hsh, hwp, hw1, bits64, -getM, getM_hit, getM_miss, getM_none]; (repeat (simp (disch := first | omega | assumption | fail) only [if_pos, if_neg, wrap64, wrapU64]; try simp [List.zipIdx, hiwI, h52z, hsh, hwp, hw1, bits64, -getM, getM_hit, getM_miss, getM_none])); try (repeat' (refine guardQ_split (fun h => ?_) (fun h => ?_) <;> simp at h <;> (simp [List.zipIdx, hiwI, h52z, hsh, hwp, hw1, bits64, -getM, getM_hit, getM_miss, getM_none]; (repeat (simp (disch := first | omega | assumption | fail) only [if_pos, if_neg, wrap64, wrapU64]; try simp [List.zipIdx, hiwI, h52z, hsh, hwp, hw1, bits64, -getM, getM_hit, getM_miss, getM_none])))))) | (refine aw_cond (b := _) (by exact rfl) (fun h => ?_) (fun h => ?_) <;> (try simp at h)) | (refine aw_block ?_) | (refine aw_skip ?_; simp only [thenQ, blockQ, if_true]) | (refine aw_exit ?_; simp [thenQ, blockQ]) | (refine aw_ret ?_; simp only [thenQ, blockQ]) | (refine aw_round ?_) | (refine hK _ ?_; clear hK) | (clear hK; refine hK _ ?_; clear hK) | (clear hK; clear hK; refine hK _ ?_; clear hK) | (clear hK; clear hK; clear hK; refine hK _ ?_; clear hK))
              refine ⟨i + 1, ?_, ⟨by omega, fun y h1 h2 => ?_⟩, by omega⟩
              · exact le_of2 (by simp) (by simp [AVle, AV.under, AV.underL] <;> omega) (by simp [AOle, AO.under, AV.underL, AV.under] <;> omega)
              · by_cases e : y = (f : Int) + (i : Int)
                · rw [e]; exact hfr
                · exact hnf y h1 (by omega)
            · rw [he] at h52z
              have hki : (0 : Int) ≤ (k : Int) := by omega
              have hal := freeR_some hc0 ho4 hin (y := (f : Int) + (i : Int)) (by omega) hfr
              repeat' (first | (apply aw_seq_k; intro K hK) | (refine aw_run hc (by first | exact aw_nod | (intro _; rw [ordB_w hw]; kernel_rfl) | (intro _; kernel_rfl)) ?_; simp [List.zipIdx, hiwI, h52z, hki, hsh, hwp, hw1, bits64, -getM, getM_hit, getM_miss, getM_none]; (repeat (simp (disch := first | omega | assumption | fail) only [if_pos, if_neg, wrap64, wrapU64]; try simp [List.zipIdx, hiwI, h52z, hki, hsh, hwp, hw1, bits64, -getM, getM_hit, getM_miss, getM_none])); try (repeat' (refine guardQ_split (fun h => ?_) (fun h => ?_) <;> simp at h <;> (simp [List.zipIdx, hiwI, h52z, hki, hsh, hwp, hw1, bits64, -getM, getM_hit, getM_miss, getM_none]; (repeat (simp (disch := first | omega | assumption | fail) only [if_pos, if_neg, wrap64, wrapU64]; try simp [List.zipIdx, hiwI, h52z, hki, hsh, hwp, hw1, bits64, -getM, getM_hit, getM_miss, getM_none])))))) | (refine aw_cond (b := _) (by exact rfl) (fun h => ?_) (fun h => ?_) <;> (try simp at h)) | (refine aw_block ?_) | (refine aw_skip ?_; simp only [thenQ, blockQ, if_true]) | (refine aw_exit ?_; simp [thenQ, blockQ]) | (refine aw_ret ?_; simp only [thenQ, blockQ]) | (refine aw_round ?_) | (refine hK _ ?_; clear hK) | (clear hK; refine hK _ ?_; clear hK) | (clear hK; clear hK; refine hK _ ?_; clear hK) | (clear hK; clear hK; clear hK; refine hK _ ?_; clear hK))
              refine ⟨by simp, ?_⟩
              simp [leaves_iff, Try.f23, hal, zeroZ, Zn.ocells, irows]
              try (first | omega | (refine decide_eq_decide.2 ?_; omega) | (refine decide_eq_false ?_; omega) | (refine decide_eq_true ?_; omega))
          · obtain rfl : i = w := by omega
            have hal := freeR_ok hc0 ho4 hin (by rw [hw1]; exact hnf)
            have hpc := put_canon ho4 hv hin (by rw [hw1]; exact hnf)
            have h48z := F48_at (z := z) (f := (f : Int)) (k := o) ⟨hr, fun k hk => hv.sorted k hk, hz⟩ (by omega) (by omega) hin.2.1 ho4
            rw [hpc] at h48z
            obtain ⟨y, hy⟩ : ∃ y, y = canon z fun y => free z y ∨ ((f : Int) ≤ y ∧ y < (f : Int) + 2 ^ o) := ⟨_, rfl⟩
            rw [← hy] at h48z hal
            have h50z := F50_at hz
            simp only [Zn.ocells] at h48z
            repeat' (first | (apply aw_seq_k; intro K hK) | (refine aw_run hc (by first | exact aw_nod | (intro _; rw [ordB_w hw]; kernel_rfl) | (intro _; kernel_rfl)) ?_; simp [List.zipIdx, h48, h48z, h50, h50z, hsh, hwp, hw1, bits64, Zn.ocells, callM, giveArg, takeArg, take_irows, one1, -getM, getM_hit, getM_miss, getM_none]; (repeat (simp (disch := first | omega | assumption | fail) only [if_pos, if_neg, wrap64, wrapU64]; try simp [List.zipIdx, h48, h48z, h50, h50z, hsh, hwp, hw1, bits64, Zn.ocells, callM, giveArg, takeArg, take_irows, one1, -getM, getM_hit, getM_miss, getM_none])); try (repeat' (refine guardQ_split (fun h => ?_) (fun h => ?_) <;> simp at h <;> (simp [List.zipIdx, h48, h48z, h50, h50z, hsh, hwp, hw1, bits64, Zn.ocells, callM, giveArg, takeArg, take_irows, one1, -getM, getM_hit, getM_miss, getM_none]; (repeat (simp (disch := first | omega | assumption | fail) only [if_pos, if_neg, wrap64, wrapU64]; try simp [List.zipIdx, h48, h48z, h50, h50z, hsh, hwp, hw1, bits64, Zn.ocells, callM, giveArg, takeArg, take_irows, one1, -getM, getM_hit, getM_miss, getM_none])))))) | (refine aw_cond (b := _) (by exact rfl) (fun h => ?_) (fun h => ?_) <;> (try simp at h)) | (refine aw_block ?_) | (refine aw_skip ?_; simp only [thenQ, blockQ, if_true]) | (refine aw_exit ?_; simp [thenQ, blockQ]) | (refine aw_ret ?_; simp only [thenQ, blockQ]) | (refine aw_round ?_) | (refine hK _ ?_; clear hK) | (clear hK; refine hK _ ?_; clear hK) | (clear hK; clear hK; refine hK _ ?_; clear hK) | (clear hK; clear hK; clear hK; refine hK _ ?_; clear hK))
            refine ⟨by simp, ?_⟩
            simp [leaves_iff, Try.f23, hal, Zn.ocells, take_irows]
            try (first | omega | (refine decide_eq_decide.2 ?_; omega) | (refine decide_eq_false ?_; omega) | (refine decide_eq_true ?_; omega))
      · have h42z : ∀ M n, X.call 42 [.agg z.cells, I g, I (o : Int)] M n = some (B false, []) := fun M n => by
          have := h42 z g o M n hr (by omega)
          rwa [decide_eq_false hin] at this
        have hal := freeR_range (f := g) (o := (o : Int)) hc0 fun h => hin (by simpa using h.2.2)
        repeat' (first | (apply aw_seq_k; intro K hK) | (refine aw_run hc (by first | exact aw_nod | (intro _; rw [ordB_w hw]; kernel_rfl) | (intro _; kernel_rfl)) ?_; simp [List.zipIdx, h16z, hc0, h42z, ho1, ho2, -getM, getM_hit, getM_miss, getM_none]; (repeat (simp (disch := first | omega | assumption | fail) only [if_pos, if_neg, wrap64]; try simp [List.zipIdx, h16z, hc0, h42z, ho1, ho2, -getM, getM_hit, getM_miss, getM_none])); try (repeat' (refine guardQ_split (fun h => ?_) (fun h => ?_) <;> simp at h <;> (simp [List.zipIdx, h16z, hc0, h42z, ho1, ho2, -getM, getM_hit, getM_miss, getM_none]; (repeat (simp (disch := first | omega | assumption | fail) only [if_pos, if_neg, wrap64]; try simp [List.zipIdx, h16z, hc0, h42z, ho1, ho2, -getM, getM_hit, getM_miss, getM_none])))))) | (refine aw_cond (b := _) (by exact rfl) (fun h => ?_) (fun h => ?_) <;> (try simp at h)) | (refine aw_block ?_) | (refine aw_skip ?_; simp only [thenQ, blockQ, if_true]) | (refine aw_exit ?_; simp [thenQ, blockQ]) | (refine aw_ret ?_; simp only [thenQ, blockQ]) | (refine aw_round ?_) | (refine hK _ ?_; clear hK) | (clear hK; refine hK _ ?_; clear hK) | (clear hK; clear hK; refine hK _ ?_; clear hK) | (clear hK; clear hK; clear hK; refine hK _ ?_; clear hK))
        refine ⟨by simp, ?_⟩
        simp [leaves_iff, Try.f23, hal, zeroZ, Zn.ocells, irows]
        try (first | omega | (refine decide_eq_decide.2 ?_; omega) | (refine decide_eq_false ?_; omega) | (refine decide_eq_true ?_; omega))
    · have hal := freeR_range (f := g) (o := o) hc0 fun h => ho ⟨h.1, h.2.1⟩
      rcases Decidable.em (o < 0) with ho1 | ho1
      · repeat' (first | (apply aw_seq_k; intro K hK) | (refine aw_run hc (by first | exact aw_nod | (intro _; rw [ordB_w hw]; kernel_rfl) | (intro _; kernel_rfl)) ?_; simp [List.zipIdx, h16z, hc0, ho1, -getM, getM_hit, getM_miss, getM_none]; (repeat (simp (disch := first | omega | assumption | fail) only [if_pos, if_neg, wrap64]; try simp [List.zipIdx, h16z, hc0, ho1, -getM, getM_hit, getM_miss, getM_none])); try (repeat' (refine guardQ_split (fun h => ?_) (fun h => ?_) <;> simp at h <;> (simp [List.zipIdx, h16z, hc0, ho1, -getM, getM_hit, getM_miss, getM_none]; (repeat (simp (disch := first | omega | assumption | fail) only [if_pos, if_neg, wrap64]; try simp [List.zipIdx, h16z, hc0, ho1, -getM, getM_hit, getM_miss, getM_none])))))) | (refine aw_cond (b := _) (by exact rfl) (fun h => ?_) (fun h => ?_) <;> (try simp at h)) | (refine aw_block ?_) | (refine aw_skip ?_; simp only [thenQ, blockQ, if_true]) | (refine aw_exit ?_; simp [thenQ, blockQ]) | (refine aw_ret ?_; simp only [thenQ, blockQ]) | (refine aw_round ?_) | (refine hK _ ?_; clear hK) | (clear hK; refine hK _ ?_; clear hK) | (clear hK; clear hK; refine hK _ ?_; clear hK) | (clear hK; clear hK; clear hK; refine hK _ ?_; clear hK))
        refine ⟨by simp, ?_⟩
        simp [leaves_iff, Try.f23, hal, zeroZ, Zn.ocells, irows]
        try (first | omega | (refine decide_eq_decide.2 ?_; omega) | (refine decide_eq_false ?_; omega) | (refine decide_eq_true ?_; omega))
      · have ho2 : 4 < o := by omega
        repeat' (first | (apply aw_seq_k; intro K hK) | (refine aw_run hc (by first | exact aw_nod | (intro _; rw [ordB_w hw]; kernel_rfl) | (intro _; kernel_rfl)) ?_; simp [List.zipIdx, h16z, hc0, ho1, ho2, -getM, getM_hit, getM_miss, getM_none]; (repeat (simp (disch := first | omega | assumption | fail) only [if_pos, if_neg, wrap64]; try simp [List.zipIdx, h16z, hc0, ho1, ho2, -getM, getM_hit, getM_miss, getM_none])); try (repeat' (refine guardQ_split (fun h => ?_) (fun h => ?_) <;> simp at h <;> (simp [List.zipIdx, h16z, hc0, ho1, ho2, -getM, getM_hit, getM_miss, getM_none]; (repeat (simp (disch := first | omega | assumption | fail) only [if_pos, if_neg, wrap64]; try simp [List.zipIdx, h16z, hc0, ho1, ho2, -getM, getM_hit, getM_miss, getM_none])))))) | (refine aw_cond (b := _) (by exact rfl) (fun h => ?_) (fun h => ?_) <;> (try simp at h)) | (refine aw_block ?_) | (refine aw_skip ?_; simp only [thenQ, blockQ, if_true]) | (refine aw_exit ?_; simp [thenQ, blockQ]) | (refine aw_ret ?_; simp only [thenQ, blockQ]) | (refine aw_round ?_) | (refine hK _ ?_; clear hK) | (clear hK; refine hK _ ?_; clear hK) | (clear hK; clear hK; refine hK _ ?_; clear hK) | (clear hK; clear hK; clear hK; refine hK _ ?_; clear hK))
        refine ⟨by simp, ?_⟩
        simp [leaves_iff, Try.f23, hal, zeroZ, Zn.ocells, irows]
        try (first | omega | (refine decide_eq_decide.2 ?_; omega) | (refine decide_eq_false ?_; omega) | (refine decide_eq_true ?_; omega))
  · have hal := freeR_bad (f := g) (o := o) hc0
    repeat' (first | (apply aw_seq_k; intro K hK) | (refine aw_run hc (by first | exact aw_nod | (intro _; rw [ordB_w hw]; kernel_rfl) | (intro _; kernel_rfl)) ?_; simp [List.zipIdx, h16z, hc0, -getM, getM_hit, getM_miss, getM_none]; (repeat (simp (disch := first | omega | assumption | fail) only [if_pos, if_neg, wrap64]; try simp [List.zipIdx, h16z, hc0, -getM, getM_hit, getM_miss, getM_none])); try (repeat' (refine guardQ_split (fun h => ?_) (fun h => ?_) <;> simp at h <;> (simp [List.zipIdx, h16z, hc0, -getM, getM_hit, getM_miss, getM_none]; (repeat (simp (disch := first | omega | assumption | fail) only [if_pos, if_neg, wrap64]; try simp [List.zipIdx, h16z, hc0, -getM, getM_hit, getM_miss, getM_none])))))) | (refine aw_cond (b := _) (by exact rfl) (fun h => ?_) (fun h => ?_) <;> (try simp at h)) | (refine aw_block ?_) | (refine aw_skip ?_; simp only [thenQ, blockQ, if_true]) | (refine aw_exit ?_; simp [thenQ, blockQ]) | (refine aw_ret ?_; simp only [thenQ, blockQ]) | (refine aw_round ?_) | (refine hK _ ?_; clear hK) | (clear hK; refine hK _ ?_; clear hK) | (clear hK; clear hK; refine hK _ ?_; clear hK) | (clear hK; clear hK; clear hK; refine hK _ ?_; clear hK))
    refine ⟨by simp, ?_⟩
    simp [leaves_iff, Try.f23, hal, zeroZ, Zn.ocells, irows]
    try (first | omega | (refine decide_eq_decide.2 ?_; omega) | (refine decide_eq_false ?_; omega) | (refine decide_eq_true ?_; omega))
end Go.AM
