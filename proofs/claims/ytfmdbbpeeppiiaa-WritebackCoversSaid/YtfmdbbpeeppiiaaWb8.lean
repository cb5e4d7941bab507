/- Writeback: library functions on rows of three integers. -/
import Derived.Test.YtfmdbbpeeppiiaaWb7
import Derived.Test.YtfmdbbpeeppiiaaAmQ
import Derived.Test.YtfmdbbpeeppiiaaAmZd
set_option linter.all false

namespace Go.AM
open Go Go.Proofs

theorem drows_cons (x : Tp) (r : List Tp) : drows (x :: r) = [I x.1, I x.2.1, I x.2.2] :: drows r := rfl

theorem s28 (X : AX) (hX : XOK Try.prog X) : PSound Try.prog 28 (specF (ι := {x : List Tp // x.length ≤ 1000000}) (fun x => [.rd 3 (drows x.1)]) fun x => retOf [.ow 3 (drows x.1)]) := by
  refine psound_spec hX mixed Try.func28 rfl fun ⟨l, hl⟩ w0 G => ⟨by show 1 ≤ 8; decide, rfl, ?_⟩
  show AW ⟨Try.prog, X, 8, w0, .pure G⟩ _ _ _
  have hc : Cx.OK ⟨Try.prog, X, 8, w0, .pure G⟩ := ⟨hX, mixed⟩
  cases l with
  | nil =>
    refine aw_cases_nil 0 3 rfl ?_ fun p n => ?_
    · repeat' (first | (apply aw_seq_k; intro K hK) | (refine aw_run hc (by first | exact aw_nod | (intro _; rw [ordB_w hw]; kernel_rfl) | (intro _; rw [ordB_w0 hw0]; kernel_rfl) | (intro _; kernel_rfl)) ?_; simp (disch := first | omega | assumption | (simp; done) | fail) [if_pos, if_neg, List.zipIdx]; try (repeat' (refine guardQ_split (fun h => ?_) (fun h => ?_) <;> simp at h <;> simp (disch := first | omega | assumption | (simp; done) | fail) [if_pos, if_neg, List.zipIdx]))) | (refine aw_cond (b := _) (by exact rfl) (fun h => ?_) (fun h => ?_) <;> (try simp at h)) | (refine aw_block ?_) | (refine aw_skip ?_; simp only [thenQ, blockQ, if_true]) | (refine aw_exit ?_; simp [thenQ, blockQ]) | (refine aw_ret ?_; simp only [thenQ, blockQ]) | (refine hK _ ?_; clear hK) | (clear hK; refine hK _ ?_; clear hK) | (clear hK; clear hK; refine hK _ ?_; clear hK) | (clear hK; clear hK; clear hK; refine hK _ ?_; clear hK))
      refine ⟨by simp, ?_⟩
      simp [leaves_iff, Try.f28, drows]
      try (first | omega | (refine decide_eq_decide.2 ?_; omega) | (refine decide_eq_false ?_; omega) | (refine decide_eq_true ?_; omega))
    · repeat' (first | (apply aw_seq_k; intro K hK) | (refine aw_run hc (by first | exact aw_nod | (intro _; rw [ordB_w hw]; kernel_rfl) | (intro _; rw [ordB_w0 hw0]; kernel_rfl) | (intro _; kernel_rfl)) ?_; simp (disch := first | omega | assumption | (simp; done) | fail) [if_pos, if_neg, List.zipIdx]; try (repeat' (refine guardQ_split (fun h => ?_) (fun h => ?_) <;> simp at h <;> simp (disch := first | omega | assumption | (simp; done) | fail) [if_pos, if_neg, List.zipIdx]))) | (refine aw_cond (b := _) (by exact rfl) (fun h => ?_) (fun h => ?_) <;> (try simp at h)) | (refine aw_block ?_) | (refine aw_skip ?_; simp only [thenQ, blockQ, if_true]) | (refine aw_exit ?_; simp [thenQ, blockQ]) | (refine aw_ret ?_; simp only [thenQ, blockQ]) | (refine hK _ ?_; clear hK) | (clear hK; refine hK _ ?_; clear hK) | (clear hK; clear hK; refine hK _ ?_; clear hK) | (clear hK; clear hK; clear hK; refine hK _ ?_; clear hK))
      refine ⟨by simp, ?_⟩
      simp [leaves_iff, Try.f28, drows]
      try (first | omega | (refine decide_eq_decide.2 ?_; omega) | (refine decide_eq_false ?_; omega) | (refine decide_eq_true ?_; omega))
  | cons x r =>
    simp at hl
    repeat' (first | (apply aw_seq_k; intro K hK) | (refine aw_run hc (by first | exact aw_nod | (intro _; rw [ordB_w hw]; kernel_rfl) | (intro _; rw [ordB_w0 hw0]; kernel_rfl) | (intro _; kernel_rfl)) ?_; simp (disch := first | omega | assumption | (simp; done) | fail) [if_pos, if_neg, List.zipIdx, drows]; try (repeat' (refine guardQ_split (fun h => ?_) (fun h => ?_) <;> simp at h <;> simp (disch := first | omega | assumption | (simp; done) | fail) [if_pos, if_neg, List.zipIdx, drows]))) | (refine aw_cond (b := _) (by exact rfl) (fun h => ?_) (fun h => ?_) <;> (try simp at h)) | (refine aw_block ?_) | (refine aw_skip ?_; simp only [thenQ, blockQ, if_true]) | (refine aw_exit ?_; simp [thenQ, blockQ]) | (refine aw_ret ?_; simp only [thenQ, blockQ]) | (refine hK _ ?_; clear hK) | (clear hK; refine hK _ ?_; clear hK) | (clear hK; clear hK; refine hK _ ?_; clear hK) | (clear hK; clear hK; clear hK; refine hK _ ?_; clear hK))
    refine ⟨by simp, ?_⟩
    simp [leaves_iff, Try.f28, drows]
    try (first | omega | (refine decide_eq_decide.2 ?_; omega) | (refine decide_eq_false ?_; omega) | (refine decide_eq_true ?_; omega))
    rw [List.take_of_length_le (by simp)]

theorem s26 (X : AX) (hX : XOK Try.prog X) : PSound Try.prog 26 (specF (ι := {x : List Tp // x.length ≤ 1000000}) (fun x => [.rd 3 (drows x.1)]) fun x => retOf [.ow 3 (drows x.1)]) := by
  refine psound_spec hX mixed Try.func26 rfl fun ⟨l, hl⟩ w0 G => ⟨by show 1 ≤ 8; decide, rfl, ?_⟩
  show AW ⟨Try.prog, X, 8, w0, .pure G⟩ _ _ _
  have hc : Cx.OK ⟨Try.prog, X, 8, w0, .pure G⟩ := ⟨hX, mixed⟩
  cases l with
  | nil =>
    refine aw_cases_nil 0 3 rfl ?_ fun p n => ?_
    · repeat' (first | (apply aw_seq_k; intro K hK) | (refine aw_run hc (by first | exact aw_nod | (intro _; rw [ordB_w hw]; kernel_rfl) | (intro _; rw [ordB_w0 hw0]; kernel_rfl) | (intro _; kernel_rfl)) ?_; simp (disch := first | omega | assumption | (simp; done) | fail) [if_pos, if_neg, List.zipIdx]; try (repeat' (refine guardQ_split (fun h => ?_) (fun h => ?_) <;> simp at h <;> simp (disch := first | omega | assumption | (simp; done) | fail) [if_pos, if_neg, List.zipIdx]))) | (refine aw_cond (b := _) (by exact rfl) (fun h => ?_) (fun h => ?_) <;> (try simp at h)) | (refine aw_block ?_) | (refine aw_skip ?_; simp only [thenQ, blockQ, if_true]) | (refine aw_exit ?_; simp [thenQ, blockQ]) | (refine aw_ret ?_; simp only [thenQ, blockQ]) | (refine hK _ ?_; clear hK) | (clear hK; refine hK _ ?_; clear hK) | (clear hK; clear hK; refine hK _ ?_; clear hK) | (clear hK; clear hK; clear hK; refine hK _ ?_; clear hK))
      refine ⟨by simp, ?_⟩
      simp [leaves_iff, Try.f26, drows]
      try (first | omega | (refine decide_eq_decide.2 ?_; omega) | (refine decide_eq_false ?_; omega) | (refine decide_eq_true ?_; omega))
    · repeat' (first | (apply aw_seq_k; intro K hK) | (refine aw_run hc (by first | exact aw_nod | (intro _; rw [ordB_w hw]; kernel_rfl) | (intro _; rw [ordB_w0 hw0]; kernel_rfl) | (intro _; kernel_rfl)) ?_; simp (disch := first | omega | assumption | (simp; done) | fail) [if_pos, if_neg, List.zipIdx]; try (repeat' (refine guardQ_split (fun h => ?_) (fun h => ?_) <;> simp at h <;> simp (disch := first | omega | assumption | (simp; done) | fail) [if_pos, if_neg, List.zipIdx]))) | (refine aw_cond (b := _) (by exact rfl) (fun h => ?_) (fun h => ?_) <;> (try simp at h)) | (refine aw_block ?_) | (refine aw_skip ?_; simp only [thenQ, blockQ, if_true]) | (refine aw_exit ?_; simp [thenQ, blockQ]) | (refine aw_ret ?_; simp only [thenQ, blockQ]) | (refine hK _ ?_; clear hK) | (clear hK; refine hK _ ?_; clear hK) | (clear hK; clear hK; refine hK _ ?_; clear hK) | (clear hK; clear hK; clear hK; refine hK _ ?_; clear hK))
      refine ⟨by simp, ?_⟩
      simp [leaves_iff, Try.f26, drows]
      try (first | omega | (refine decide_eq_decide.2 ?_; omega) | (refine decide_eq_false ?_; omega) | (refine decide_eq_true ?_; omega))
  | cons x r =>
    simp at hl
    repeat' (first | (apply aw_seq_k; intro K hK) | (refine aw_run hc (by first | exact aw_nod | (intro _; rw [ordB_w hw]; kernel_rfl) | (intro _; rw [ordB_w0 hw0]; kernel_rfl) | (intro _; kernel_rfl)) ?_; simp (disch := first | omega | assumption | (simp; done) | fail) [if_pos, if_neg, List.zipIdx, drows]; try (repeat' (refine guardQ_split (fun h => ?_) (fun h => ?_) <;> simp at h <;> simp (disch := first | omega | assumption | (simp; done) | fail) [if_pos, if_neg, List.zipIdx, drows]))) | (refine aw_cond (b := _) (by exact rfl) (fun h => ?_) (fun h => ?_) <;> (try simp at h)) | (refine aw_block ?_) | (refine aw_skip ?_; simp only [thenQ, blockQ, if_true]) | (refine aw_exit ?_; simp [thenQ, blockQ]) | (refine aw_ret ?_; simp only [thenQ, blockQ]) | (refine hK _ ?_; clear hK) | (clear hK; refine hK _ ?_; clear hK) | (clear hK; clear hK; refine hK _ ?_; clear hK) | (clear hK; clear hK; clear hK; refine hK _ ?_; clear hK))
    refine ⟨by simp, ?_⟩
    simp [leaves_iff, Try.f26, drows]
    try (first | omega | (refine decide_eq_decide.2 ?_; omega) | (refine decide_eq_false ?_; omega) | (refine decide_eq_true ?_; omega))
    rw [List.take_of_length_le (by simp)]

theorem s18 (X : AX) (hX : XOK Try.prog X) (hw : X.W wT) (he : X.eqs 30 = true) :
    PSound Try.prog 18 (specF (ι := {x : List Tp × List Tp // x.1.length ≤ 1000000}) (fun x => [.rd 3 (drows x.1.1), .rd 3 (drows x.1.2)]) fun x => retOf [B (decide (x.1.1 = x.1.2))]) := by
  refine psound_spec hX mixed Try.func18 rfl fun ⟨⟨l, k⟩, hl⟩ w0 G => ⟨by show 2 ≤ 26; decide, rfl, ?_⟩
  show AW ⟨Try.prog, X, 26, w0, .pure G⟩ _ _ _
  have hc : Cx.OK ⟨Try.prog, X, 26, w0, .pure G⟩ := ⟨hX, mixed⟩
  simp only at hl ⊢
  rcases Decidable.em ((l.length : Int) = (k.length : Int)) with hlk | hlk
  · have hlk2 : l.length = k.length := by omega
    repeat' (first | (apply aw_seq_k; intro K hK) | (refine aw_run hc (by first | exact aw_nod | (intro _; rw [ordB_w hw]; kernel_rfl) | (intro _; rw [ordB_w0 hw0]; kernel_rfl) | (intro _; kernel_rfl)) ?_; simp [List.zipIdx, hlk, hlk2, -getM, getM_hit, getM_miss, getM_none]; (repeat (simp (disch := first | omega | assumption | fail) only [if_pos, if_neg, wrap64]; try simp [List.zipIdx, hlk, hlk2, -getM, getM_hit, getM_miss, getM_none])); try (repeat' (refine guardQ_split (fun h => ?_) (fun h => ?_) <;> simp at h <;> (simp [List.zipIdx, hlk, hlk2, -getM, getM_hit, getM_miss, getM_none]; (repeat (simp (disch := first | omega | assumption | fail) only [if_pos, if_neg, wrap64]; try simp [List.zipIdx, hlk, hlk2, -getM, getM_hit, getM_miss, getM_none])))))) | (refine aw_cond (b := _) (by exact rfl) (fun h => ?_) (fun h => ?_) <;> (try simp at h)) | (refine aw_block ?_) | (refine aw_skip ?_; simp only [thenQ, blockQ, if_true]) | (refine aw_exit ?_; simp [thenQ, blockQ]) | (refine aw_ret ?_; simp only [thenQ, blockQ]) | (refine aw_round ?_) | (refine hK _ ?_; clear hK) | (clear hK; refine hK _ ?_; clear hK) | (clear hK; clear hK; refine hK _ ?_; clear hK) | (clear hK; clear hK; clear hK; refine hK _ ?_; clear hK))
    refine aw_loopK (s0 := ?lps1) (m0 := ?lpm1) (ι := {i : Nat // i ≤ l.length ∧ ∀ j, j < i → gd l j = gd k j}) [0, 1, 12] (fun i => [(13, I i.1)]) (fun _ => []) (fun i => l.length - i.1) ⟨0, by omega, by omega⟩ ?lhs1 ?lhm1 ?_ ?_
    case lhs1 => first | (simp [keepS]; done) | (simp [keepS]; rfl)
    case lhm1 => first | rfl | (simp; done) | (simp; rfl)
    · first
        | exact le_of2 (by simp) (by simp [AVle, AV.under, AV.underL] <;> omega) (by simp [AOle, AO.under, AV.underL, AV.under] <;> omega)
        | (rw [hlk2]; exact le_of2 (by simp) (by simp [AVle, AV.under, AV.underL] <;> omega) (by simp [AOle, AO.under, AV.underL, AV.under] <;> omega))
    · rintro ⟨i, hi, hinv⟩
      simp only
      rcases Decidable.em (i < l.length) with hil | hil
      · have hilI : (i : Int) < (l.length : Int) := by omega
        have hikI : (i : Int) < (k.length : Int) := by omega
        have hg := drows_gi hil
        have hgE := drows_gE hil
        have hik : i < k.length := by omega
        have hk := drows_gi hik
        have hkE := drows_gE hik
        have hne : gd l i ≠ gd k i → l ≠ k := fun h e => h (by rw [e])
        have hnx : gd l i = gd k i → ∀ j, j < i + 1 → gd l j = gd k j := fun h j hj => by
          rcases Nat.lt_succ_iff_lt_or_eq.1 hj with h2 | rfl
          · exact hinv j h2
          · exact h
        obtain ⟨⟨x, y, z⟩, hm⟩ : ∃ m, m = gd l i := ⟨_, rfl⟩
        obtain ⟨⟨u, v, w⟩, hm2⟩ : ∃ m, m = gd k i := ⟨_, rfl⟩
        rw [← hm] at hg hgE hne hnx
        rw [← hm2] at hk hkE hne hnx
        simp only at hg hgE hk hkE
        rcases Decidable.em (x = u ∧ y = v ∧ z = w) with hv | hv
        · obtain ⟨rfl, rfl, rfl⟩ := hv
          repeat' (first | (apply aw_seq_k; intro K hK) | (refine aw_run hc (by first | exact aw_nod | (intro _; rw [ordB_w hw]; kernel_rfl) | (intro _; rw [ordB_w0 hw0]; kernel_rfl) | (intro _; kernel_rfl)) ?_; simp [List.zipIdx, hilI, hikI, hg, hgE, hk, hkE, he, eqL, -getM, getM_hit, getM_miss, getM_none]; (repeat (simp (disch := first | omega | assumption | fail) only [if_pos, if_neg, wrap64]; try simp [List.zipIdx, hilI, hikI, hg, hgE, hk, hkE, he, eqL, -getM, getM_hit, getM_miss, getM_none])); try (repeat' (refine guardQ_split (fun h => ?_) (fun h => ?_) <;> simp at h <;> (simp [List.zipIdx, hilI, hikI, hg, hgE, hk, hkE, he, eqL, -getM, getM_hit, getM_miss, getM_none]; (repeat (simp (disch := first | omega | assumption | fail) only [if_pos, if_neg, wrap64]; try simp [List.zipIdx, hilI, hikI, hg, hgE, hk, hkE, he, eqL, -getM, getM_hit, getM_miss, getM_none])))))) | (refine aw_cond (b := _) (by exact rfl) (fun h => ?_) (fun h => ?_) <;> (try simp at h)) | (refine aw_block ?_) | (refine aw_skip ?_; simp only [thenQ, blockQ, if_true]) | (refine aw_exit ?_; simp [thenQ, blockQ]) | (refine aw_ret ?_; simp only [thenQ, blockQ]) | (refine aw_round ?_) | (refine hK _ ?_; clear hK) | (clear hK; refine hK _ ?_; clear hK) | (clear hK; clear hK; refine hK _ ?_; clear hK) | (clear hK; clear hK; clear hK; refine hK _ ?_; clear hK))
          refine ⟨i + 1, ?_, ⟨by omega, hnx rfl⟩, by omega⟩
          exact le_of2 (by simp) (by simp [AVle, AV.under, AV.underL] <;> omega) (by simp [AOle, AO.under, AV.underL, AV.under] <;> omega)
        · have hv' : (decide (x = u) && (decide (y = v) && decide (z = w))) = false := by simpa using hv
          have hn : l ≠ k := hne (by simpa using hv)
          repeat' (first | (apply aw_seq_k; intro K hK) | (refine aw_run hc (by first | exact aw_nod | (intro _; rw [ordB_w hw]; kernel_rfl) | (intro _; rw [ordB_w0 hw0]; kernel_rfl) | (intro _; kernel_rfl)) ?_; simp [List.zipIdx, hilI, hikI, hg, hgE, hk, hkE, hv', he, eqL, -getM, getM_hit, getM_miss, getM_none]; (repeat (simp (disch := first | omega | assumption | fail) only [if_pos, if_neg, wrap64]; try simp [List.zipIdx, hilI, hikI, hg, hgE, hk, hkE, hv', he, eqL, -getM, getM_hit, getM_miss, getM_none])); try (repeat' (refine guardQ_split (fun h => ?_) (fun h => ?_) <;> simp at h <;> (simp [List.zipIdx, hilI, hikI, hg, hgE, hk, hkE, hv', he, eqL, -getM, getM_hit, getM_miss, getM_none]; (repeat (simp (disch := first | omega | assumption | fail) only [if_pos, if_neg, wrap64]; try simp [List.zipIdx, hilI, hikI, hg, hgE, hk, hkE, hv', he, eqL, -getM, getM_hit, getM_miss, getM_none])))))) | (refine aw_cond (b := _) (by exact rfl) (fun h => ?_) (fun h => ?_) <;> (try simp at h)) | (refine aw_block ?_) | (refine aw_skip ?_; simp only [thenQ, blockQ, if_true]) | (refine aw_exit ?_; simp [thenQ, blockQ]) | (refine aw_ret ?_; simp only [thenQ, blockQ]) | (refine aw_round ?_) | (refine hK _ ?_; clear hK) | (clear hK; refine hK _ ?_; clear hK) | (clear hK; clear hK; refine hK _ ?_; clear hK) | (clear hK; clear hK; clear hK; refine hK _ ?_; clear hK))
          refine ⟨by simp, ?_⟩
          simp [leaves_iff, Try.f18, hn]
          try (first | omega | (refine decide_eq_decide.2 ?_; omega) | (refine decide_eq_false ?_; omega) | (refine decide_eq_true ?_; omega))
      · obtain rfl : i = l.length := by omega
        have e : l = k := by
          refine List.ext_getElem hlk2 fun j h1 h2 => ?_
          have := hinv j h1
          rwa [gd_eq h1, gd_eq h2] at this
        repeat' (first | (apply aw_seq_k; intro K hK) | (refine aw_run hc (by first | exact aw_nod | (intro _; rw [ordB_w hw]; kernel_rfl) | (intro _; rw [ordB_w0 hw0]; kernel_rfl) | (intro _; kernel_rfl)) ?_; simp [List.zipIdx, hlk, hlk2, -getM, getM_hit, getM_miss, getM_none]; (repeat (simp (disch := first | omega | assumption | fail) only [if_pos, if_neg, wrap64]; try simp [List.zipIdx, hlk, hlk2, -getM, getM_hit, getM_miss, getM_none])); try (repeat' (refine guardQ_split (fun h => ?_) (fun h => ?_) <;> simp at h <;> (simp [List.zipIdx, hlk, hlk2, -getM, getM_hit, getM_miss, getM_none]; (repeat (simp (disch := first | omega | assumption | fail) only [if_pos, if_neg, wrap64]; try simp [List.zipIdx, hlk, hlk2, -getM, getM_hit, getM_miss, getM_none])))))) | (refine aw_cond (b := _) (by exact rfl) (fun h => ?_) (fun h => ?_) <;> (try simp at h)) | (refine aw_block ?_) | (refine aw_skip ?_; simp only [thenQ, blockQ, if_true]) | (refine aw_exit ?_; simp [thenQ, blockQ]) | (refine aw_ret ?_; simp only [thenQ, blockQ]) | (refine aw_round ?_) | (refine hK _ ?_; clear hK) | (clear hK; refine hK _ ?_; clear hK) | (clear hK; clear hK; refine hK _ ?_; clear hK) | (clear hK; clear hK; clear hK; refine hK _ ?_; clear hK))
        refine ⟨by simp, ?_⟩
        simp [leaves_iff, Try.f18, e]
        try (first | omega | (refine decide_eq_decide.2 ?_; omega) | (refine decide_eq_false ?_; omega) | (refine decide_eq_true ?_; omega))
  · have hn : l ≠ k := fun h => hlk (by rw [h])
    repeat' (first | (apply aw_seq_k; intro K hK) | (refine aw_run hc (by first | exact aw_nod | (intro _; rw [ordB_w hw]; kernel_rfl) | (intro _; rw [ordB_w0 hw0]; kernel_rfl) | (intro _; kernel_rfl)) ?_; simp [List.zipIdx, hlk, -getM, getM_hit, getM_miss, getM_none]; (repeat (simp (disch := first | omega | assumption | fail) only [if_pos, if_neg, wrap64]; try simp [List.zipIdx, hlk, -getM, getM_hit, getM_miss, getM_none])); try (repeat' (refine guardQ_split (fun h => ?_) (fun h => ?_) <;> simp at h <;> (simp [List.zipIdx, hlk, -getM, getM_hit, getM_miss, getM_none]; (repeat (simp (disch := first | omega | assumption | fail) only [if_pos, if_neg, wrap64]; try simp [List.zipIdx, hlk, -getM, getM_hit, getM_miss, getM_none])))))) | (refine aw_cond (b := _) (by exact rfl) (fun h => ?_) (fun h => ?_) <;> (try simp at h)) | (refine aw_block ?_) | (refine aw_skip ?_; simp only [thenQ, blockQ, if_true]) | (refine aw_exit ?_; simp [thenQ, blockQ]) | (refine aw_ret ?_; simp only [thenQ, blockQ]) | (refine aw_round ?_) | (refine hK _ ?_; clear hK) | (clear hK; refine hK _ ?_; clear hK) | (clear hK; clear hK; refine hK _ ?_; clear hK) | (clear hK; clear hK; clear hK; refine hK _ ?_; clear hK))
    refine ⟨by simp, ?_⟩
    simp [leaves_iff, Try.f18, hn]
    try (first | omega | (refine decide_eq_decide.2 ?_; omega) | (refine decide_eq_false ?_; omega) | (refine decide_eq_true ?_; omega))

theorem s23 (X : AX) (hX : XOK Try.prog X) (hw : X.W wT) (he : X.eqs 38 = true) :
    PSound Try.prog 23 (specF (ι := {x : List Tp × List Tp // x.1.length ≤ 1000000}) (fun x => [.rd 3 (drows x.1.1), .rd 3 (drows x.1.2)]) fun x => retOf [B (decide (x.1.1 = x.1.2))]) := by
  refine psound_spec hX mixed Try.func23 rfl fun ⟨⟨l, k⟩, hl⟩ w0 G => ⟨by show 2 ≤ 26; decide, rfl, ?_⟩
  show AW ⟨Try.prog, X, 26, w0, .pure G⟩ _ _ _
  have hc : Cx.OK ⟨Try.prog, X, 26, w0, .pure G⟩ := ⟨hX, mixed⟩
  simp only at hl ⊢
  rcases Decidable.em ((l.length : Int) = (k.length : Int)) with hlk | hlk
  · have hlk2 : l.length = k.length := by omega
    repeat' (first | (apply aw_seq_k; intro K hK) | (refine aw_run hc (by first | exact aw_nod | (intro _; rw [ordB_w hw]; kernel_rfl) | (intro _; rw [ordB_w0 hw0]; kernel_rfl) | (intro _; kernel_rfl)) ?_; simp [List.zipIdx, hlk, hlk2, -getM, getM_hit, getM_miss, getM_none]; (repeat (simp (disch := first | omega | assumption | fail) only [if_pos, if_neg, wrap64]; try simp [List.zipIdx, hlk, hlk2, -getM, getM_hit, getM_miss, getM_none])); try (repeat' (refine guardQ_split (fun h => ?_) (fun h => ?_) <;> simp at h <;> (simp [List.zipIdx, hlk, hlk2, -getM, getM_hit, getM_miss, getM_none]; (repeat (simp (disch := first | omega | assumption | fail) only [if_pos, if_neg, wrap64]; try simp [List.zipIdx, hlk, hlk2, -getM, getM_hit, getM_miss, getM_none])))))) | (refine aw_cond (b := _) (by exact rfl) (fun h => ?_) (fun h => ?_) <;> (try simp at h)) | (refine aw_block ?_) | (refine aw_skip ?_; simp only [thenQ, blockQ, if_true]) | (refine aw_exit ?_; simp [thenQ, blockQ]) | (refine aw_ret ?_; simp only [thenQ, blockQ]) | (refine aw_round ?_) | (refine hK _ ?_; clear hK) | (clear hK; refine hK _ ?_; clear hK) | (clear hK; clear hK; refine hK _ ?_; clear hK) | (clear hK; clear hK; clear hK; refine hK _ ?_; clear hK))
    refine aw_loopK (s0 := ?lps2) (m0 := ?lpm2) (ι := {i : Nat // i ≤ l.length ∧ ∀ j, j < i → gd l j = gd k j}) [0, 1, 12] (fun i => [(13, I i.1)]) (fun _ => []) (fun i => l.length - i.1) ⟨0, by omega, by omega⟩ ?lhs2 ?lhm2 ?_ ?_
    case lhs2 => first | (simp [keepS]; done) | (simp [keepS]; rfl)
    case lhm2 => first | rfl | (simp; done) | (simp; rfl)
    · first
        | exact le_of2 (by simp) (by simp [AVle, AV.under, AV.underL] <;> omega) (by simp [AOle, AO.under, AV.underL, AV.under] <;> omega)
        | (rw [hlk2]; exact le_of2 (by simp) (by simp [AVle, AV.under, AV.underL] <;> omega) (by simp [AOle, AO.under, AV.underL, AV.under] <;> omega))
    · rintro ⟨i, hi, hinv⟩
      simp only
      rcases Decidable.em (i < l.length) with hil | hil
      · have hilI : (i : Int) < (l.length : Int) := by omega
        have hikI : (i : Int) < (k.length : Int) := by omega
        have hg := drows_gi hil
        have hgE := drows_gE hil
        have hik : i < k.length := by omega
        have hk := drows_gi hik
        have hkE := drows_gE hik
        have hne : gd l i ≠ gd k i → l ≠ k := fun h e => h (by rw [e])
        have hnx : gd l i = gd k i → ∀ j, j < i + 1 → gd l j = gd k j := fun h j hj => by
          rcases Nat.lt_succ_iff_lt_or_eq.1 hj with h2 | rfl
          · exact hinv j h2
          · exact h
        obtain ⟨⟨x, y, z⟩, hm⟩ : ∃ m, m = gd l i := ⟨_, rfl⟩
        obtain ⟨⟨u, v, w⟩, hm2⟩ : ∃ m, m = gd k i := ⟨_, rfl⟩
        rw [← hm] at hg hgE hne hnx
        rw [← hm2] at hk hkE hne hnx
        simp only at hg hgE hk hkE
        rcases Decidable.em (x = u ∧ y = v ∧ z = w) with hv | hv
        · obtain ⟨rfl, rfl, rfl⟩ := hv
          repeat' (first | (apply aw_seq_k; intro K hK) | (refine aw_run hc (by first | exact aw_nod | (intro _; rw [ordB_w hw]; kernel_rfl) | (intro _; rw [ordB_w0 hw0]; kernel_rfl) | (intro _; kernel_rfl)) ?_; simp [List.zipIdx, hilI, hikI, hg, hgE, hk, hkE, he, eqL, -getM, getM_hit, getM_miss, getM_none]; (repeat (simp (disch := first | omega | assumption | fail) only [if_pos, if_neg, wrap64]; try simp [List.zipIdx, hilI, hikI, hg, hgE, hk, hkE, he, eqL, -getM, getM_hit, getM_miss, getM_none])); try (repeat' (refine guardQ_split (fun h => ?_) (fun h => ?_) <;> simp at h <;> (simp [List.zipIdx, hilI, hikI, hg, hgE, hk, hkE, he, eqL, -getM, getM_hit, getM_miss, getM_none]; (repeat (simp (disch := first | omega | assumption | fail) only [if_pos, if_neg, wrap64]; try simp [List.zipIdx, hilI, hikI, hg, hgE, hk, hkE, he, eqL, -getM, getM_hit, getM_miss, getM_none])))))) | (refine aw_cond (b := _) (by exact rfl) (fun h => ?_) (fun h => ?_) <;> (try simp at h)) | (refine aw_block ?_) | (refine aw_skip ?_; simp only [thenQ, blockQ, if_true]) | (refine aw_exit ?_; simp [thenQ, blockQ]) | (refine aw_ret ?_; simp only [thenQ, blockQ]) | (refine aw_round ?_) | (refine hK _ ?_; clear hK) | (clear hK; refine hK _ ?_; clear hK) | (clear hK; clear hK; refine hK _ ?_; clear hK) | (clear hK; clear hK; clear hK; refine hK _ ?_; clear hK))
          refine ⟨i + 1, ?_, ⟨by omega, hnx rfl⟩, by omega⟩
          exact le_of2 (by simp) (by simp [AVle, AV.under, AV.underL] <;> omega) (by simp [AOle, AO.under, AV.underL, AV.under] <;> omega)
        · have hv' : (decide (x = u) && (decide (y = v) && decide (z = w))) = false := by simpa using hv
          have hn : l ≠ k := hne (by simpa using hv)
          repeat' (first | (apply aw_seq_k; intro K hK) | (refine aw_run hc (by first | exact aw_nod | (intro _; rw [ordB_w hw]; kernel_rfl) | (intro _; rw [ordB_w0 hw0]; kernel_rfl) | (intro _; kernel_rfl)) ?_; simp [List.zipIdx, hilI, hikI, hg, hgE, hk, hkE, hv', he, eqL, -getM, getM_hit, getM_miss, getM_none]; (repeat (simp (disch := first | omega | assumption | fail) only [if_pos, if_neg, wrap64]; try simp [List.zipIdx, hilI, hikI, hg, hgE, hk, hkE, hv', he, eqL, -getM, getM_hit, getM_miss, getM_none])); try (repeat' (refine guardQ_split (fun h => ?_) (fun h => ?_) <;> simp at h <;> (simp [List.zipIdx, hilI, hikI, hg, hgE, hk, hkE, hv', he, eqL, -getM, getM_hit, getM_miss, getM_none]; (repeat (simp (disch := first | omega | assumption | fail) only [if_pos, if_neg, wrap64]; try simp [List.zipIdx, hilI, hikI, hg, hgE, hk, hkE, hv', he, eqL, -getM, getM_hit, getM_miss, getM_none])))))) | (refine aw_cond (b := _) (by exact rfl) (fun h => ?_) (fun h => ?_) <;> (try simp at h)) | (refine aw_block ?_) | (refine aw_skip ?_; simp only [thenQ, blockQ, if_true]) | (refine aw_exit ?_; simp [thenQ, blockQ]) | (refine aw_ret ?_; simp only [thenQ, blockQ]) | (refine aw_round ?_) | (refine hK _ ?_; clear hK) | (clear hK; refine hK _ ?_; clear hK) | (clear hK; clear hK; refine hK _ ?_; clear hK) | (clear hK; clear hK; clear hK; refine hK _ ?_; clear hK))
          refine ⟨by simp, ?_⟩
          simp [leaves_iff, Try.f23, hn]
          try (first | omega | (refine decide_eq_decide.2 ?_; omega) | (refine decide_eq_false ?_; omega) | (refine decide_eq_true ?_; omega))
      · obtain rfl : i = l.length := by omega
        have e : l = k := by
          refine List.ext_getElem hlk2 fun j h1 h2 => ?_
          have := hinv j h1
          rwa [gd_eq h1, gd_eq h2] at this
        repeat' (first | (apply aw_seq_k; intro K hK) | (refine aw_run hc (by first | exact aw_nod | (intro _; rw [ordB_w hw]; kernel_rfl) | (intro _; rw [ordB_w0 hw0]; kernel_rfl) | (intro _; kernel_rfl)) ?_; simp [List.zipIdx, hlk, hlk2, -getM, getM_hit, getM_miss, getM_none]; (repeat (simp (disch := first | omega | assumption | fail) only [if_pos, if_neg, wrap64]; try simp [List.zipIdx, hlk, hlk2, -getM, getM_hit, getM_miss, getM_none])); try (repeat' (refine guardQ_split (fun h => ?_) (fun h => ?_) <;> simp at h <;> (simp [List.zipIdx, hlk, hlk2, -getM, getM_hit, getM_miss, getM_none]; (repeat (simp (disch := first | omega | assumption | fail) only [if_pos, if_neg, wrap64]; try simp [List.zipIdx, hlk, hlk2, -getM, getM_hit, getM_miss, getM_none])))))) | (refine aw_cond (b := _) (by exact rfl) (fun h => ?_) (fun h => ?_) <;> (try simp at h)) | (refine aw_block ?_) | (refine aw_skip ?_; simp only [thenQ, blockQ, if_true]) | (refine aw_exit ?_; simp [thenQ, blockQ]) | (refine aw_ret ?_; simp only [thenQ, blockQ]) | (refine aw_round ?_) | (refine hK _ ?_; clear hK) | (clear hK; refine hK _ ?_; clear hK) | (clear hK; clear hK; refine hK _ ?_; clear hK) | (clear hK; clear hK; clear hK; refine hK _ ?_; clear hK))
        refine ⟨by simp, ?_⟩
        simp [leaves_iff, Try.f23, e]
        try (first | omega | (refine decide_eq_decide.2 ?_; omega) | (refine decide_eq_false ?_; omega) | (refine decide_eq_true ?_; omega))
  · have hn : l ≠ k := fun h => hlk (by rw [h])
    repeat' (first | (apply aw_seq_k; intro K hK) | (refine aw_run hc (by first | exact aw_nod | (intro _; rw [ordB_w hw]; kernel_rfl) | (intro _; rw [ordB_w0 hw0]; kernel_rfl) | (intro _; kernel_rfl)) ?_; simp [List.zipIdx, hlk, -getM, getM_hit, getM_miss, getM_none]; (repeat (simp (disch := first | omega | assumption | fail) only [if_pos, if_neg, wrap64]; try simp [List.zipIdx, hlk, -getM, getM_hit, getM_miss, getM_none])); try (repeat' (refine guardQ_split (fun h => ?_) (fun h => ?_) <;> simp at h <;> (simp [List.zipIdx, hlk, -getM, getM_hit, getM_miss, getM_none]; (repeat (simp (disch := first | omega | assumption | fail) only [if_pos, if_neg, wrap64]; try simp [List.zipIdx, hlk, -getM, getM_hit, getM_miss, getM_none])))))) | (refine aw_cond (b := _) (by exact rfl) (fun h => ?_) (fun h => ?_) <;> (try simp at h)) | (refine aw_block ?_) | (refine aw_skip ?_; simp only [thenQ, blockQ, if_true]) | (refine aw_exit ?_; simp [thenQ, blockQ]) | (refine aw_ret ?_; simp only [thenQ, blockQ]) | (refine aw_round ?_) | (refine hK _ ?_; clear hK) | (clear hK; refine hK _ ?_; clear hK) | (clear hK; clear hK; refine hK _ ?_; clear hK) | (clear hK; clear hK; clear hK; refine hK _ ?_; clear hK))
    refine ⟨by simp, ?_⟩
    simp [leaves_iff, Try.f23, hn]
    try (first | omega | (refine decide_eq_decide.2 ?_; omega) | (refine decide_eq_false ?_; omega) | (refine decide_eq_true ?_; omega))

theorem drows_replicate (n : Nat) : List.replicate n [AV.v (.int .i64 0), AV.v (.int .i64 0), AV.v (.int .i64 0)] = drows (List.replicate n (0, 0, 0)) := by simp [drows, I]
theorem s29 (X : AX) (hX : XOK Try.prog X) (hw : X.W wT) : MSound Try.prog 29 (specM (ι := {x : List Tp × Nat × Nat // x.2.1 ≤ x.2.2 ∧ x.2.2 ≤ x.1.length ∧ x.1.length ≤ 1000000}) (fun x => .ow 3 (drows x.1.1)) (fun x => [I x.1.2.1, I x.1.2.2]) (fun x => retOf [.ow 3 (drows (x.1.1.take x.1.2.1 ++ x.1.1.drop x.1.2.2))]) fun _ => .any) := by
  refine msound_spec Try.func29 rfl X fun ⟨⟨l, i, j⟩, hij, hj, hl⟩ w0 bl E => ⟨by show 3 ≤ 33; decide, rfl, ?_⟩
  simp only at hij hj hl
  show AW ⟨Try.prog, X, 33, w0, ⟨bl, E, 1⟩⟩ _ _ _
  have hc : Cx.OK ⟨Try.prog, X, 33, w0, ⟨bl, E, 1⟩⟩ := ⟨hX, mixed⟩
  repeat' (first | (apply aw_seq_k; intro K hK) | (refine aw_run hc (by first | exact aw_nod | (intro _; rw [ordB_w hw]; kernel_rfl) | (intro _; rw [ordB_w0 hw0]; kernel_rfl) | (intro _; kernel_rfl)) ?_; simp (disch := first | omega | assumption | (simp; done) | fail) [if_pos, if_neg, List.zipIdx, Int.ofNat_inj]; try (repeat' (refine guardQ_split (fun h => ?_) (fun h => ?_) <;> simp at h <;> simp (disch := first | omega | assumption | (simp; done) | fail) [if_pos, if_neg, List.zipIdx, Int.ofNat_inj]))) | (refine aw_cond (b := _) (by exact rfl) (fun h => ?_) (fun h => ?_) <;> (try simp at h)) | (refine aw_block ?_) | (refine aw_skip ?_; simp only [thenQ, blockQ, if_true]) | (refine aw_exit ?_; simp [thenQ, blockQ]) | (refine aw_ret ?_; simp only [thenQ, blockQ]) | (refine hK _ ?_; clear hK) | (clear hK; refine hK _ ?_; clear hK) | (clear hK; clear hK; refine hK _ ?_; clear hK) | (clear hK; clear hK; clear hK; refine hK _ ?_; clear hK))
  · refine ⟨by simp, leavesM_any ?_⟩
    simp (disch := first | omega | assumption | (simp; done) | fail) [if_pos, if_neg, leaves_iff, Try.f29]
    subst h
    simp [List.take_of_length_le]
  · refine ⟨by simp, leavesM_any ?_⟩
    simp (disch := first | omega | assumption | (simp; done) | fail) [if_pos, if_neg, leaves_iff, Try.f29, drows_take, drows_drop, drows_append, drows_replicate]
    have e1 : l.take i ++ ((l.drop j).take (l.length - j) ++ l.drop (i + (l.length - j))) = (l.take i ++ l.drop j) ++ l.drop (i + (l.length - j)) := by
      rw [List.take_of_length_le (l := l.drop j) (by simp), List.append_assoc]
    have e2 : (l.take i ++ l.drop j).length = i + (l.length - j) := by simp; omega
    have key : ∀ (A B C : List Tp) n, A.length = n → A = ((A ++ B).take n ++ C).take n := by
      intro A B C n h
      subst h
      simp
    rw [e1]
    exact congrArg drows (key _ _ _ _ e2)

theorem gd_app_at {a b : List Tp} {m : Tp} {k : Nat} (h : a.length = k) : gd (a ++ m :: b) k = m := by
  unfold gd; subst h; simp [List.getD_eq_getElem?_getD]
theorem drop_gd {l : List Tp} {j : Nat} (h : j < l.length) : l.drop j = gd l j :: l.drop (j + 1) := by
  rw [List.drop_eq_getElem_cons h, gd_eq h]
theorem drows_set (l : List Tp) (n : Nat) (a b c : Int) : (drows l).set n [I a, I b, I c] = drows (l.set n (a, b, c)) := by simp [drows, List.map_set]
theorem set_mid (F : List Tp) (g v : Tp) (G : List Tp) : (F ++ g :: G).set F.length v = F ++ v :: G := by
  rw [List.set_append_right _ _ (Nat.le_refl _)]; simp

/-! The functions that are handed in: not expired yet, in a run -/
def fnK : Sum (Int × Int) Tp → AV
  | .inl x => .fn 38 [.rp [I x.1], .rp [I x.2]]
  | .inr r => .fn 46 [.rp [I r.1, I r.2.1, I r.2.2]]
def fkB : Sum (Int × Int) Tp → Tp → Bool
  | .inl x, p => expB x.1 x.2 p
  | .inr r, p => inR r p
def okK : Sum (Int × Int) Tp → Prop
  | .inl _ => True
  | .inr r => (0 ≤ r.2.1 ∧ r.2.1 < 16) ∧ 0 ≤ r.2.2 ∧ r.2.2 ≤ 16
def dropK (k : Sum (Int × Int) Tp) (l : List Tp) : List Tp := l.filter fun p => !fkB k p
theorem dropK_snoc (k : Sum (Int × Int) Tp) (l : List Tp) (x : Tp) : dropK k (l ++ [x]) = if fkB k x = true then dropK k l else dropK k l ++ [x] := by
  unfold dropK
  rw [filter_snoc]
  by_cases h : fkB k x = true <;> simp [h]
theorem dropK_none {k : Sum (Int × Int) Tp} {l : List Tp} (h : ∀ j, j < l.length → fkB k (gd l j) = false) : dropK k l = l := by
  unfold dropK
  rw [List.filter_eq_self]
  intro m hm
  obtain ⟨j, hj, rfl⟩ := List.getElem_of_mem hm
  have := h j hj
  rw [gd_eq hj] at this
  simpa using this
theorem fnK_inj {a b : Sum (Int × Int) Tp} : fnK a = fnK b ↔ a = b := by
  rcases a with ⟨a1, a2⟩ | ⟨a1, a2, a3⟩ <;> rcases b with ⟨b1, b2⟩ | ⟨b1, b2, b3⟩ <;> simp [fnK, I]
structure FnX (X : AX) : Prop where
  h38 : ∀ a b c n g M k, X.call 38 [.agg [I a, I b, I c], .rp [I n], .rp [I g]] M k = some (B (expB n g (a, b, c)), [])
  h46 : ∀ a b c f i n, (0 ≤ i ∧ i < 16) → 0 ≤ n → n ≤ 16 → ∀ M k, X.call 46 [.agg [I a, I b, I c], .rp [I f, I i, I n]] M k = some (B (inR (f, i, n) (a, b, c)), [])
noncomputable def F49 : List AV → Option AV := specF (ι := {x : List Tp × Sum (Int × Int) Tp // x.1.length ≤ 1000000 ∧ okK x.2}) (fun x => [.rd 3 (drows x.1.1), fnK x.1.2]) fun x => retOf [I (fstD (fkB x.1.2) x.1.1)]
theorem F49_at (l : List Tp) (o : Sum (Int × Int) Tp) (h : l.length ≤ 1000000 ∧ okK o) : F49 [.rd 3 (drows l), fnK o] = some (I (fstD (fkB o) l)) :=
  specF_eq (ι := {x : List Tp × Sum (Int × Int) Tp // x.1.length ≤ 1000000 ∧ okK x.2}) (A := fun x => [.rd 3 (drows x.1.1), fnK x.1.2]) (R := fun x => retOf [I (fstD (fkB x.1.2) x.1.1)]) ⟨(l, o), h⟩ (by
    rintro ⟨⟨k, c⟩, h⟩ e
    simp [drows_inj, fnK_inj] at e
    obtain ⟨rfl, rfl⟩ := e; rfl)
noncomputable def F37 : AV → List AV → Option (AV × AV) := specM (ι := {x : List Tp × Sum (Int × Int) Tp // x.1.length ≤ 1000000 ∧ okK x.2}) (fun x => .ow 3 (drows x.1.1)) (fun x => [fnK x.1.2]) (fun x => retOf [.ow 3 (drows (dropK x.1.2 x.1.1))]) fun _ => .any
theorem F37_at (l : List Tp) (o : Sum (Int × Int) Tp) (h : l.length ≤ 1000000 ∧ okK o) : F37 (.ow 3 (drows l)) [fnK o] = some (.ow 3 (drows (dropK o l)), .any) :=
  specM_eq (A0 := fun x : {x : List Tp × Sum (Int × Int) Tp // x.1.length ≤ 1000000 ∧ okK x.2} => AV.ow 3 (drows x.1.1)) (A := fun x => [fnK x.1.2]) (R := fun x => retOf [.ow 3 (drows (dropK x.1.2 x.1.1))]) (O := fun _ => .any) ⟨(l, o), h⟩ (by
    rintro ⟨⟨l', s'⟩, h1⟩ e1 e2
    simp only [AV.ow.injEq, drows_inj, true_and] at e1
    simp only [List.cons.injEq, and_true, fnK_inj] at e2
    subst e1 e2
    exact ⟨rfl, rfl⟩)

theorem s49 (X : AX) (hX : XOK Try.prog X) (hw : X.W wT) (fx : FnX X) : PSound Try.prog 49 F49 := by
  refine psound_spec hX mixed Try.func49 rfl fun ⟨⟨l, o⟩, hl, ho⟩ w0 G => ⟨by show 2 ≤ 19; decide, rfl, ?_⟩
  show AW ⟨Try.prog, X, 19, w0, .pure G⟩ _ _ _
  have hc : Cx.OK ⟨Try.prog, X, 19, w0, .pure G⟩ := ⟨hX, mixed⟩
  simp only at hl ho ⊢
  rcases o with ⟨n, g⟩ | ⟨f, a, n⟩
  · skip
    skip
    unfold fnK
    repeat' (first | (apply aw_seq_k; intro K hK) | (refine aw_run hc (by first | exact aw_nod | (intro _; rw [ordB_w hw]; kernel_rfl) | (intro _; rw [ordB_w0 hw0]; kernel_rfl) | (intro _; kernel_rfl)) ?_; simp [List.zipIdx, -getM, getM_hit, getM_miss, getM_none]; (repeat (simp (disch := first | omega | assumption | fail) only [if_pos, if_neg, wrap64]; try simp [List.zipIdx, -getM, getM_hit, getM_miss, getM_none])); try (repeat' (refine guardQ_split (fun h => ?_) (fun h => ?_) <;> simp at h <;> (simp [List.zipIdx, -getM, getM_hit, getM_miss, getM_none]; (repeat (simp (disch := first | omega | assumption | fail) only [if_pos, if_neg, wrap64]; try simp [List.zipIdx, -getM, getM_hit, getM_miss, getM_none])))))) | (refine aw_cond (b := _) (by exact rfl) (fun h => ?_) (fun h => ?_) <;> (try simp at h)) | (refine aw_block ?_) | (refine aw_skip ?_; simp only [thenQ, blockQ, if_true]) | (refine aw_exit ?_; simp [thenQ, blockQ]) | (refine aw_ret ?_; simp only [thenQ, blockQ]) | (refine aw_round ?_) | (refine hK _ ?_; clear hK) | (clear hK; refine hK _ ?_; clear hK) | (clear hK; clear hK; refine hK _ ?_; clear hK) | (clear hK; clear hK; clear hK; refine hK _ ?_; clear hK))
    refine aw_loopK (s0 := ?lps3) (m0 := ?lpm3) (ι := {i : Nat // i ≤ l.length ∧ ∀ j, j < i → fkB (.inl (n, g)) (gd l j) = false}) [0, 1, 7] (fun i => [(8, I i.1)]) (fun _ => []) (fun i => l.length - i.1) ⟨0, by omega, by omega⟩ ?lhs3 ?lhm3 ?_ ?_
    case lhs3 => first | (simp [keepS]; done) | (simp [keepS]; rfl)
    case lhm3 => first | rfl | (simp; done) | (simp; rfl)
    · exact le_of2 (by simp) (by simp [AVle, AV.under, AV.underL] <;> omega) (by simp [AOle, AO.under, AV.underL, AV.under] <;> omega)
    · rintro ⟨i, hi, hinv⟩
      simp only
      rcases Decidable.em (i < l.length) with hil | hil
      · have hilI : (i : Int) < (l.length : Int) := by omega
        have hg := drows_gi hil
        have hgE := drows_gE hil
        have hat := fun h => fstD_at (p := fkB (.inl (n, g))) hil h hinv
        have hnx : fkB (.inl (n, g)) (gd l i) = false → ∀ j, j < i + 1 → fkB (.inl (n, g)) (gd l j) = false := fun h j hj => by
          rcases Nat.lt_succ_iff_lt_or_eq.1 hj with h2 | rfl
          · exact hinv j h2
          · exact h
        obtain ⟨⟨x, y, z⟩, hm⟩ : ∃ m, m = gd l i := ⟨_, rfl⟩
        rw [← hm] at hg hgE hat hnx
        simp only [fkB] at hg hgE hat hnx
        have hcl := fun M k => fx.h38 x y z n g M k
        cases hb : expB n g (x, y, z) with
        | true =>
          rw [hb] at hcl
          repeat' (first | (apply aw_seq_k; intro K hK) | (refine aw_run hc (by first | exact aw_nod | (intro _; rw [ordB_w hw]; kernel_rfl) | (intro _; rw [ordB_w0 hw0]; kernel_rfl) | (intro _; kernel_rfl)) ?_; simp [List.zipIdx, hilI, hg, hgE, hcl, -getM, getM_hit, getM_miss, getM_none]; (repeat (simp (disch := first | omega | assumption | fail) only [if_pos, if_neg, wrap64]; try simp [List.zipIdx, hilI, hg, hgE, hcl, -getM, getM_hit, getM_miss, getM_none])); try (repeat' (refine guardQ_split (fun h => ?_) (fun h => ?_) <;> simp at h <;> (simp [List.zipIdx, hilI, hg, hgE, hcl, -getM, getM_hit, getM_miss, getM_none]; (repeat (simp (disch := first | omega | assumption | fail) only [if_pos, if_neg, wrap64]; try simp [List.zipIdx, hilI, hg, hgE, hcl, -getM, getM_hit, getM_miss, getM_none])))))) | (refine aw_cond (b := _) (by exact rfl) (fun h => ?_) (fun h => ?_) <;> (try simp at h)) | (refine aw_block ?_) | (refine aw_skip ?_; simp only [thenQ, blockQ, if_true]) | (refine aw_exit ?_; simp [thenQ, blockQ]) | (refine aw_ret ?_; simp only [thenQ, blockQ]) | (refine aw_round ?_) | (refine hK _ ?_; clear hK) | (clear hK; refine hK _ ?_; clear hK) | (clear hK; clear hK; refine hK _ ?_; clear hK) | (clear hK; clear hK; clear hK; refine hK _ ?_; clear hK))
          have e := hat hb
          refine ⟨by simp, ?_⟩
          simp [leaves_iff, Try.f49, e]
          try (first | omega | (refine decide_eq_decide.2 ?_; omega) | (refine decide_eq_false ?_; omega) | (refine decide_eq_true ?_; omega))
        | false =>
          rw [hb] at hcl
          repeat' (first | (apply aw_seq_k; intro K hK) | (refine aw_run hc (by first | exact aw_nod | (intro _; rw [ordB_w hw]; kernel_rfl) | (intro _; rw [ordB_w0 hw0]; kernel_rfl) | (intro _; kernel_rfl)) ?_; simp [List.zipIdx, hilI, hg, hgE, hcl, -getM, getM_hit, getM_miss, getM_none]; (repeat (simp (disch := first | omega | assumption | fail) only [if_pos, if_neg, wrap64]; try simp [List.zipIdx, hilI, hg, hgE, hcl, -getM, getM_hit, getM_miss, getM_none])); try (repeat' (refine guardQ_split (fun h => ?_) (fun h => ?_) <;> simp at h <;> (simp [List.zipIdx, hilI, hg, hgE, hcl, -getM, getM_hit, getM_miss, getM_none]; (repeat (simp (disch := first | omega | assumption | fail) only [if_pos, if_neg, wrap64]; try simp [List.zipIdx, hilI, hg, hgE, hcl, -getM, getM_hit, getM_miss, getM_none])))))) | (refine aw_cond (b := _) (by exact rfl) (fun h => ?_) (fun h => ?_) <;> (try simp at h)) | (refine aw_block ?_) | (refine aw_skip ?_; simp only [thenQ, blockQ, if_true]) | (refine aw_exit ?_; simp [thenQ, blockQ]) | (refine aw_ret ?_; simp only [thenQ, blockQ]) | (refine aw_round ?_) | (refine hK _ ?_; clear hK) | (clear hK; refine hK _ ?_; clear hK) | (clear hK; clear hK; refine hK _ ?_; clear hK) | (clear hK; clear hK; clear hK; refine hK _ ?_; clear hK))
          refine ⟨i + 1, ?_, ⟨by omega, by simpa only [fkB] using hnx hb⟩, by omega⟩
          exact le_of2 (by simp) (by simp [AVle, AV.under, AV.underL] <;> omega) (by simp [AOle, AO.under, AV.underL, AV.under] <;> omega)
      · obtain rfl : i = l.length := by omega
        have e := fstD_not hinv
        repeat' (first | (apply aw_seq_k; intro K hK) | (refine aw_run hc (by first | exact aw_nod | (intro _; rw [ordB_w hw]; kernel_rfl) | (intro _; rw [ordB_w0 hw0]; kernel_rfl) | (intro _; kernel_rfl)) ?_; simp [List.zipIdx, -getM, getM_hit, getM_miss, getM_none]; (repeat (simp (disch := first | omega | assumption | fail) only [if_pos, if_neg, wrap64]; try simp [List.zipIdx, -getM, getM_hit, getM_miss, getM_none])); try (repeat' (refine guardQ_split (fun h => ?_) (fun h => ?_) <;> simp at h <;> (simp [List.zipIdx, -getM, getM_hit, getM_miss, getM_none]; (repeat (simp (disch := first | omega | assumption | fail) only [if_pos, if_neg, wrap64]; try simp [List.zipIdx, -getM, getM_hit, getM_miss, getM_none])))))) | (refine aw_cond (b := _) (by exact rfl) (fun h => ?_) (fun h => ?_) <;> (try simp at h)) | (refine aw_block ?_) | (refine aw_skip ?_; simp only [thenQ, blockQ, if_true]) | (refine aw_exit ?_; simp [thenQ, blockQ]) | (refine aw_ret ?_; simp only [thenQ, blockQ]) | (refine aw_round ?_) | (refine hK _ ?_; clear hK) | (clear hK; refine hK _ ?_; clear hK) | (clear hK; clear hK; refine hK _ ?_; clear hK) | (clear hK; clear hK; clear hK; refine hK _ ?_; clear hK))
        refine ⟨by simp, ?_⟩
        simp [leaves_iff, Try.f49, e]
        try (first | omega | (refine decide_eq_decide.2 ?_; omega) | (refine decide_eq_false ?_; omega) | (refine decide_eq_true ?_; omega))
  · obtain ⟨h1, h2, h3⟩ := ho
    simp only at h1 h2 h3
    unfold fnK
    repeat' (first | (apply aw_seq_k; intro K hK) | (refine aw_run hc (by first | exact aw_nod | (intro _; rw [ordB_w hw]; kernel_rfl) | (intro _; rw [ordB_w0 hw0]; kernel_rfl) | (intro _; kernel_rfl)) ?_; simp [List.zipIdx, -getM, getM_hit, getM_miss, getM_none]; (repeat (simp (disch := first | omega | assumption | fail) only [if_pos, if_neg, wrap64]; try simp [List.zipIdx, -getM, getM_hit, getM_miss, getM_none])); try (repeat' (refine guardQ_split (fun h => ?_) (fun h => ?_) <;> simp at h <;> (simp [List.zipIdx, -getM, getM_hit, getM_miss, getM_none]; (repeat (simp (disch := first | omega | assumption | fail) only [if_pos, if_neg, wrap64]; try simp [List.zipIdx, -getM, getM_hit, getM_miss, getM_none])))))) | (refine aw_cond (b := _) (by exact rfl) (fun h => ?_) (fun h => ?_) <;> (try simp at h)) | (refine aw_block ?_) | (refine aw_skip ?_; simp only [thenQ, blockQ, if_true]) | (refine aw_exit ?_; simp [thenQ, blockQ]) | (refine aw_ret ?_; simp only [thenQ, blockQ]) | (refine aw_round ?_) | (refine hK _ ?_; clear hK) | (clear hK; refine hK _ ?_; clear hK) | (clear hK; clear hK; refine hK _ ?_; clear hK) | (clear hK; clear hK; clear hK; refine hK _ ?_; clear hK))
    refine aw_loopK (s0 := ?lps4) (m0 := ?lpm4) (ι := {i : Nat // i ≤ l.length ∧ ∀ j, j < i → fkB (.inr (f, a, n)) (gd l j) = false}) [0, 1, 7] (fun i => [(8, I i.1)]) (fun _ => []) (fun i => l.length - i.1) ⟨0, by omega, by omega⟩ ?lhs4 ?lhm4 ?_ ?_
    case lhs4 => first | (simp [keepS]; done) | (simp [keepS]; rfl)
    case lhm4 => first | rfl | (simp; done) | (simp; rfl)
    · exact le_of2 (by simp) (by simp [AVle, AV.under, AV.underL] <;> omega) (by simp [AOle, AO.under, AV.underL, AV.under] <;> omega)
    · rintro ⟨i, hi, hinv⟩
      simp only
      rcases Decidable.em (i < l.length) with hil | hil
      · have hilI : (i : Int) < (l.length : Int) := by omega
        have hg := drows_gi hil
        have hgE := drows_gE hil
        have hat := fun h => fstD_at (p := fkB (.inr (f, a, n))) hil h hinv
        have hnx : fkB (.inr (f, a, n)) (gd l i) = false → ∀ j, j < i + 1 → fkB (.inr (f, a, n)) (gd l j) = false := fun h j hj => by
          rcases Nat.lt_succ_iff_lt_or_eq.1 hj with h2 | rfl
          · exact hinv j h2
          · exact h
        obtain ⟨⟨x, y, z⟩, hm⟩ : ∃ m, m = gd l i := ⟨_, rfl⟩
        rw [← hm] at hg hgE hat hnx
        simp only [fkB] at hg hgE hat hnx
        have hcl := fun M k => fx.h46 x y z f a n h1 h2 h3 M k
        cases hb : inR (f, a, n) (x, y, z) with
        | true =>
          rw [hb] at hcl
          repeat' (first | (apply aw_seq_k; intro K hK) | (refine aw_run hc (by first | exact aw_nod | (intro _; rw [ordB_w hw]; kernel_rfl) | (intro _; rw [ordB_w0 hw0]; kernel_rfl) | (intro _; kernel_rfl)) ?_; simp [List.zipIdx, hilI, hg, hgE, hcl, -getM, getM_hit, getM_miss, getM_none]; (repeat (simp (disch := first | omega | assumption | fail) only [if_pos, if_neg, wrap64]; try simp [List.zipIdx, hilI, hg, hgE, hcl, -getM, getM_hit, getM_miss, getM_none])); try (repeat' (refine guardQ_split (fun h => ?_) (fun h => ?_) <;> simp at h <;> (simp [List.zipIdx, hilI, hg, hgE, hcl, -getM, getM_hit, getM_miss, getM_none]; (repeat (simp (disch := first | omega | assumption | fail) only [if_pos, if_neg, wrap64]; try simp [List.zipIdx, hilI, hg, hgE, hcl, -getM, getM_hit, getM_miss, getM_none])))))) | (refine aw_cond (b := _) (by exact rfl) (fun h => ?_) (fun h => ?_) <;> (try simp at h)) | (refine aw_block ?_) | (refine aw_skip ?_; simp only [thenQ, blockQ, if_true]) | (refine aw_exit ?_; simp [thenQ, blockQ]) | (refine aw_ret ?_; simp only [thenQ, blockQ]) | (refine aw_round ?_) | (refine hK _ ?_; clear hK) | (clear hK; refine hK _ ?_; clear hK) | (clear hK; clear hK; refine hK _ ?_; clear hK) | (clear hK; clear hK; clear hK; refine hK _ ?_; clear hK))
          have e := hat hb
          refine ⟨by simp, ?_⟩
          simp [leaves_iff, Try.f49, e]
          try (first | omega | (refine decide_eq_decide.2 ?_; omega) | (refine decide_eq_false ?_; omega) | (refine decide_eq_true ?_; omega))
        | false =>
          rw [hb] at hcl
          repeat' (first | (apply aw_seq_k; intro K hK) | (refine aw_run hc (by first | exact aw_nod | (intro _; rw [ordB_w hw]; kernel_rfl) | (intro _; rw [ordB_w0 hw0]; kernel_rfl) | (intro _; kernel_rfl)) ?_; simp [List.zipIdx, hilI, hg, hgE, hcl, -getM, getM_hit, getM_miss, getM_none]; (repeat (simp (disch := first | omega | assumption | fail) only [if_pos, if_neg, wrap64]; try simp [List.zipIdx, hilI, hg, hgE, hcl, -getM, getM_hit, getM_miss, getM_none])); try (repeat' (refine guardQ_split (fun h => ?_) (fun h => ?_) <;> simp at h <;> (simp [List.zipIdx, hilI, hg, hgE, hcl, -getM, getM_hit, getM_miss, getM_none]; (repeat (simp (disch := first | omega | assumption | fail) only [if_pos, if_neg, wrap64]; try simp [List.zipIdx, hilI, hg, hgE, hcl, -getM, getM_hit, getM_miss, getM_none])))))) | (refine aw_cond (b := _) (by exact rfl) (fun h => ?_) (fun h => ?_) <;> (try simp at h)) | (refine aw_block ?_) | (refine aw_skip ?_; simp only [thenQ, blockQ, if_true]) | (refine aw_exit ?_; simp [thenQ, blockQ]) | (refine aw_ret ?_; simp only [thenQ, blockQ]) | (refine aw_round ?_) | (refine hK _ ?_; clear hK) | (clear hK; refine hK _ ?_; clear hK) | (clear hK; clear hK; refine hK _ ?_; clear hK) | (clear hK; clear hK; clear hK; refine hK _ ?_; clear hK))
          refine ⟨i + 1, ?_, ⟨by omega, by simpa only [fkB] using hnx hb⟩, by omega⟩
          exact le_of2 (by simp) (by simp [AVle, AV.under, AV.underL] <;> omega) (by simp [AOle, AO.under, AV.underL, AV.under] <;> omega)
      · obtain rfl : i = l.length := by omega
        have e := fstD_not hinv
        repeat' (first | (apply aw_seq_k; intro K hK) | (refine aw_run hc (by first | exact aw_nod | (intro _; rw [ordB_w hw]; kernel_rfl) | (intro _; rw [ordB_w0 hw0]; kernel_rfl) | (intro _; kernel_rfl)) ?_; simp [List.zipIdx, -getM, getM_hit, getM_miss, getM_none]; (repeat (simp (disch := first | omega | assumption | fail) only [if_pos, if_neg, wrap64]; try simp [List.zipIdx, -getM, getM_hit, getM_miss, getM_none])); try (repeat' (refine guardQ_split (fun h => ?_) (fun h => ?_) <;> simp at h <;> (simp [List.zipIdx, -getM, getM_hit, getM_miss, getM_none]; (repeat (simp (disch := first | omega | assumption | fail) only [if_pos, if_neg, wrap64]; try simp [List.zipIdx, -getM, getM_hit, getM_miss, getM_none])))))) | (refine aw_cond (b := _) (by exact rfl) (fun h => ?_) (fun h => ?_) <;> (try simp at h)) | (refine aw_block ?_) | (refine aw_skip ?_; simp only [thenQ, blockQ, if_true]) | (refine aw_exit ?_; simp [thenQ, blockQ]) | (refine aw_ret ?_; simp only [thenQ, blockQ]) | (refine aw_round ?_) | (refine hK _ ?_; clear hK) | (clear hK; refine hK _ ?_; clear hK) | (clear hK; clear hK; refine hK _ ?_; clear hK) | (clear hK; clear hK; clear hK; refine hK _ ?_; clear hK))
        refine ⟨by simp, ?_⟩
        simp [leaves_iff, Try.f49, e]
        try (first | omega | (refine decide_eq_decide.2 ?_; omega) | (refine decide_eq_false ?_; omega) | (refine decide_eq_true ?_; omega))

set_option maxHeartbeats 1000000 in
theorem s37 (X : AX) (hX : XOK Try.prog X) (hw : X.W wT) (h49 : X.call 49 = callP F49) (fx : FnX X) : MSound Try.prog 37 F37 := by
  refine msound_spec Try.func37 rfl X fun ⟨⟨l, o⟩, hl, ho⟩ w0 bl E => ⟨by show 2 ≤ 42; decide, rfl, ?_⟩
  simp only at hl ho
  show AW ⟨Try.prog, X, 42, w0, ⟨bl, E, 1⟩⟩ _ _ _
  have hc : Cx.OK ⟨Try.prog, X, 42, w0, ⟨bl, E, 1⟩⟩ := ⟨hX, mixed⟩
  have hF := F49_at l o ⟨hl, ho⟩
  rcases o with ⟨n, g⟩ | ⟨f, a, n⟩ <;> simp only [fnK] at hF ⊢
  · skip
    rcases fstD_cases (fkB (.inl (n, g))) l with ⟨h1, h2⟩ | ⟨k, hk, h1, h2, h3⟩
    · rw [h1] at hF
      have hD := dropK_none h2
      repeat' (first | (apply aw_seq_k; intro K hK) | (refine aw_run hc (by first | exact aw_nod | (intro _; rw [ordB_w hw]; kernel_rfl) | (intro _; rw [ordB_w0 hw0]; kernel_rfl) | (intro _; kernel_rfl)) ?_; simp [List.zipIdx, h49, hF, tkD, -getM, getM_hit, getM_miss, getM_none]; (repeat (simp (disch := first | omega | assumption | fail) only [if_pos, if_neg, wrap64]; try simp [List.zipIdx, h49, hF, tkD, -getM, getM_hit, getM_miss, getM_none])); try (repeat' (refine guardQ_split (fun h => ?_) (fun h => ?_) <;> simp at h <;> (simp [List.zipIdx, h49, hF, tkD, -getM, getM_hit, getM_miss, getM_none]; (repeat (simp (disch := first | omega | assumption | fail) only [if_pos, if_neg, wrap64]; try simp [List.zipIdx, h49, hF, tkD, -getM, getM_hit, getM_miss, getM_none])))))) | (refine aw_cond (b := _) (by exact rfl) (fun h => ?_) (fun h => ?_) <;> (try simp at h)) | (refine aw_block ?_) | (refine aw_skip ?_; simp only [thenQ, blockQ, if_true]) | (refine aw_exit ?_; simp [thenQ, blockQ]) | (refine aw_ret ?_; simp only [thenQ, blockQ]) | (refine aw_round ?_) | (refine hK _ ?_; clear hK) | (clear hK; refine hK _ ?_; clear hK) | (clear hK; clear hK; refine hK _ ?_; clear hK) | (clear hK; clear hK; clear hK; refine hK _ ?_; clear hK))
      refine ⟨by simp, leavesM_any ?_⟩
      simp (disch := first | omega | assumption | (simp; done) | fail) [if_pos, if_neg, leaves_iff, Try.f37]
      rw [hD]
    · rw [h1] at hF
      repeat' (first | (apply aw_seq_k; intro K hK) | (refine aw_run hc (by first | exact aw_nod | (intro _; rw [ordB_w hw]; kernel_rfl) | (intro _; rw [ordB_w0 hw0]; kernel_rfl) | (intro _; kernel_rfl)) ?_; simp [List.zipIdx, h49, hF, tkD, -getM, getM_hit, getM_miss, getM_none]; (repeat (simp (disch := first | omega | assumption | fail) only [if_pos, if_neg, wrap64]; try simp [List.zipIdx, h49, hF, tkD, -getM, getM_hit, getM_miss, getM_none])); try (repeat' (refine guardQ_split (fun h => ?_) (fun h => ?_) <;> simp at h <;> (simp [List.zipIdx, h49, hF, tkD, -getM, getM_hit, getM_miss, getM_none]; (repeat (simp (disch := first | omega | assumption | fail) only [if_pos, if_neg, wrap64]; try simp [List.zipIdx, h49, hF, tkD, -getM, getM_hit, getM_miss, getM_none])))))) | (refine aw_cond (b := _) (by exact rfl) (fun h => ?_) (fun h => ?_) <;> (try simp at h)) | (refine aw_block ?_) | (refine aw_skip ?_; simp only [thenQ, blockQ, if_true]) | (refine aw_exit ?_; simp [thenQ, blockQ]) | (refine aw_ret ?_; simp only [thenQ, blockQ]) | (refine aw_round ?_) | (refine hK _ ?_; clear hK) | (clear hK; refine hK _ ?_; clear hK) | (clear hK; clear hK; refine hK _ ?_; clear hK) | (clear hK; clear hK; clear hK; refine hK _ ?_; clear hK))
      have htk : dropK (.inl (n, g)) (l.take k) = l.take k := dropK_none fun j hj => by
        rw [List.length_take] at hj
        have := h3 j (by omega)
        rw [gd_eq (by omega)] at this
        rw [gd_eq (by rw [List.length_take]; omega), List.getElem_take]
        exact this
      have hD0 : dropK (.inl (n, g)) (l.take (k + 1)) = l.take k := by rw [take_succ_gd hk, dropK_snoc, if_pos h2, htk]
      have hlk : (l.take k).length = k := by rw [List.length_take]; omega
      have hW0 : l.take k ++ [gd l k] ++ l.drop (k + 1) = l := by rw [← take_succ_gd hk, List.take_append_drop]
      refine aw_loopK (s0 := ?lps5) (m0 := ?lpm5) (ι := {x : Nat × List Tp // x.1 ≤ l.length ∧ (dropK (.inl (n, g)) (l.take x.1)).length + x.2.length = x.1 ∧ 1 ≤ x.2.length}) [0, 1] (fun x => [(6, I x.1.1), (5, I (dropK (.inl (n, g)) (l.take x.1.1)).length)]) (fun x => [(0, .vec 1 3 false (drows (dropK (.inl (n, g)) (l.take x.1.1) ++ x.1.2 ++ l.drop x.1.1)))]) (fun x => l.length - x.1.1) ⟨(k + 1, [gd l k]), by simp only [hD0, hlk]; simp; omega⟩ ?lhs5 ?lhm5 ?_ ?_
      case lhs5 => first | (simp [keepS]; done) | (simp [keepS]; rfl)
      case lhm5 => first | rfl | (simp; done) | (simp; rfl)
      · simp only [hD0, hlk, hW0]
        exact le_of2 (by simp) (by simp [AVle, AV.under, AV.underL] <;> omega) (by simp [AOle, AO.under, AV.underL, AV.under] <;> omega)
      · rintro ⟨⟨j, G⟩, hj, hFG, hG1⟩
        simp only at hj hFG hG1 ⊢
        obtain ⟨F, hFe⟩ : ∃ F, F = dropK (.inl (n, g)) (l.take j) := ⟨_, rfl⟩
        rw [← hFe] at hFG ⊢
        rcases Decidable.em (j < l.length) with hjl | hjl
        · have hjI : (j : Int) < (l.length : Int) := by omega
          have hdr := drop_gd hjl
          have hins := dropK_snoc (.inl (n, g)) (l.take j) (gd l j)
          rw [← take_succ_gd hjl, ← hFe] at hins
          obtain ⟨⟨x, y, z⟩, hm⟩ : ∃ m, m = gd l j := ⟨_, rfl⟩
          rw [← hm] at hdr hins
          simp only [fkB] at hins
          obtain ⟨W, hW⟩ : ∃ W, W = F ++ G ++ l.drop j := ⟨_, rfl⟩
          have hWl : W.length = l.length := by rw [hW]; simp; omega
          have hWj : gd W j = (x, y, z) := by rw [hW, hdr]; exact gd_app_at (by rw [List.length_append]; exact hFG)
          have hFl : F.length < W.length := by omega
          have hFI : (F.length : Int) < (W.length : Int) := by omega
          have hFI2 : (F.length : Int) < (l.length : Int) := by omega
          have hFL2 : F.length < l.length := by omega
          have hg := drows_gi (l := W) (n := j) (by omega)
          have hgE := drows_gE (l := W) (n := j) (by omega)
          rw [hWj] at hg hgE
          simp only at hg hgE
          have hgF := drows_gi hFl
          have hgFE := drows_gE hFl
          have hFb : F.length ≤ 1000000 := by omega
          have hcl := fun M k => fx.h38 x y z n g M k
          rw [← hW]
          cases hb : expB n g (x, y, z) with
          | true =>
            rw [hb] at hcl
            simp only [hb, if_true] at hins
            repeat' (first | (apply aw_seq_k; intro K hK) | (refine aw_run hc (by first | exact aw_nod | (intro _; rw [ordB_w hw]; kernel_rfl) | (intro _; rw [ordB_w0 hw0]; kernel_rfl) | (intro _; kernel_rfl)) ?_; simp [List.zipIdx, hjI, hg, hgE, hWl, hcl, -getM, getM_hit, getM_miss, getM_none]; (repeat (simp (disch := first | omega | assumption | fail) only [if_pos, if_neg, wrap64]; try simp [List.zipIdx, hjI, hg, hgE, hWl, hcl, -getM, getM_hit, getM_miss, getM_none])); try (repeat' (refine guardQ_split (fun h => ?_) (fun h => ?_) <;> simp at h <;> (simp [List.zipIdx, hjI, hg, hgE, hWl, hcl, -getM, getM_hit, getM_miss, getM_none]; (repeat (simp (disch := first | omega | assumption | fail) only [if_pos, if_neg, wrap64]; try simp [List.zipIdx, hjI, hg, hgE, hWl, hcl, -getM, getM_hit, getM_miss, getM_none])))))) | (refine aw_cond (b := _) (by exact rfl) (fun h => ?_) (fun h => ?_) <;> (try simp at h)) | (refine aw_block ?_) | (refine aw_skip ?_; simp only [thenQ, blockQ, if_true]) | (refine aw_exit ?_; simp [thenQ, blockQ]) | (refine aw_ret ?_; simp only [thenQ, blockQ]) | (refine aw_round ?_) | (refine hK _ ?_; clear hK) | (clear hK; refine hK _ ?_; clear hK) | (clear hK; clear hK; refine hK _ ?_; clear hK) | (clear hK; clear hK; clear hK; refine hK _ ?_; clear hK))
            have hWe : F ++ (G ++ [(x, y, z)] ++ l.drop (j + 1)) = W := by rw [hW, hdr]; simp
            refine ⟨j + 1, G ++ [(x, y, z)], ?_, ⟨by first | omega | (simp only; omega) | (simp; omega), by rw [hins]; simp; omega, by simp⟩, by first | omega | (simp only; omega) | (simp; omega)⟩
            simp only [hins, hWe, List.append_assoc] at hWe ⊢
            simp only [hWe]
            refine le_turn (s1 := ?tus6) (m1 := ?tum6) [] [0, 1, 5, 6] [0] ?tua6 ?tub6 ?tuc6 ?tud6 ?tue6 ?tuf6 ?tug6
            case tua6 => first | (simp [keepS]; done) | (simp [keepS]; rfl)
            case tub6 => first | (simp; done) | (simp; rfl)
            case tuc6 => simp
            case tud6 => simp
            case tue6 => simp
            case tuf6 => simp
            case tug6 =>
              simp [swp, vr]
              exact le_of2 (by simp) (by simp [AVle, AV.under, AV.underL] <;> omega) (by simp [AOle, AO.under, AV.underL, AV.under] <;> omega)
          | false =>
            rw [hb] at hcl
            simp only [hb, Bool.false_eq_true, if_false] at hins
            repeat' (first | (apply aw_seq_k; intro K hK) | (refine aw_run hc (by first | exact aw_nod | (intro _; rw [ordB_w hw]; kernel_rfl) | (intro _; rw [ordB_w0 hw0]; kernel_rfl) | (intro _; kernel_rfl)) ?_; simp [List.zipIdx, hjI, hg, hgE, hWl, hcl, hgF, hgFE, hFI, hFI2, hFL2, drows_set, -getM, getM_hit, getM_miss, getM_none]; (repeat (simp (disch := first | omega | assumption | fail) only [if_pos, if_neg, wrap64]; try simp [List.zipIdx, hjI, hg, hgE, hWl, hcl, hgF, hgFE, hFI, hFI2, hFL2, drows_set, -getM, getM_hit, getM_miss, getM_none])); try (repeat' (refine guardQ_split (fun h => ?_) (fun h => ?_) <;> simp at h <;> (simp [List.zipIdx, hjI, hg, hgE, hWl, hcl, hgF, hgFE, hFI, hFI2, hFL2, drows_set, -getM, getM_hit, getM_miss, getM_none]; (repeat (simp (disch := first | omega | assumption | fail) only [if_pos, if_neg, wrap64]; try simp [List.zipIdx, hjI, hg, hgE, hWl, hcl, hgF, hgFE, hFI, hFI2, hFL2, drows_set, -getM, getM_hit, getM_miss, getM_none])))))) | (refine aw_cond (b := _) (by exact rfl) (fun h => ?_) (fun h => ?_) <;> (try simp at h)) | (refine aw_block ?_) | (refine aw_skip ?_; simp only [thenQ, blockQ, if_true]) | (refine aw_exit ?_; simp [thenQ, blockQ]) | (refine aw_ret ?_; simp only [thenQ, blockQ]) | (refine aw_round ?_) | (refine hK _ ?_; clear hK) | (clear hK; refine hK _ ?_; clear hK) | (clear hK; clear hK; refine hK _ ?_; clear hK) | (clear hK; clear hK; clear hK; refine hK _ ?_; clear hK))
            obtain ⟨g', G', rfl⟩ : ∃ g G', G = g :: G' := by
              cases G with
              | nil => simp at hG1
              | cons g G' => exact ⟨g, G', rfl⟩
            have hWs : (F ++ [(x, y, z)]) ++ (G' ++ [(x, y, z)] ++ l.drop (j + 1)) = W.set F.length (x, y, z) := by
              have e := set_mid F g' (x, y, z) (G' ++ l.drop j)
              have e2 : F ++ g' :: (G' ++ l.drop j) = W := by rw [hW]; simp
              rw [e2] at e
              rw [e, hdr]; simp
            simp only [List.length_cons] at hFG
            refine ⟨j + 1, G' ++ [(x, y, z)], ?_, ⟨by first | omega | (simp only; omega) | (simp; omega), by rw [hins]; simp; omega, by simp⟩, by first | omega | (simp only; omega) | (simp; omega)⟩
            simp only [hins, hWs]
            refine le_turn (s1 := ?tus7) (m1 := ?tum7) [] [0, 1, 5, 6] [0] ?tua7 ?tub7 ?tuc7 ?tud7 ?tue7 ?tuf7 ?tug7
            case tua7 => first | (simp [keepS]; done) | (simp [keepS]; rfl)
            case tub7 => first | (simp; done) | (simp; rfl)
            case tuc7 => simp
            case tud7 => simp
            case tue7 => simp
            case tuf7 => simp
            case tug7 =>
              simp [swp, vr]
              exact le_of2 (by simp) (by simp [AVle, AV.under, AV.underL] <;> omega) (by simp [AOle, AO.under, AV.underL, AV.under] <;> omega)
        · obtain rfl : j = l.length := by omega
          rw [List.take_length] at hFe
          have hnil : l.drop l.length = [] := List.drop_eq_nil_of_le (Nat.le_refl _)
          rw [hnil]
          repeat' (first | (apply aw_seq_k; intro K hK) | (refine aw_run hc (by first | exact aw_nod | (intro _; rw [ordB_w hw]; kernel_rfl) | (intro _; rw [ordB_w0 hw0]; kernel_rfl) | (intro _; kernel_rfl)) ?_; simp [List.zipIdx, tkD, hFG, -getM, getM_hit, getM_miss, getM_none]; (repeat (simp (disch := first | omega | assumption | fail) only [if_pos, if_neg, wrap64]; try simp [List.zipIdx, tkD, hFG, -getM, getM_hit, getM_miss, getM_none])); try (repeat' (refine guardQ_split (fun h => ?_) (fun h => ?_) <;> simp at h <;> (simp [List.zipIdx, tkD, hFG, -getM, getM_hit, getM_miss, getM_none]; (repeat (simp (disch := first | omega | assumption | fail) only [if_pos, if_neg, wrap64]; try simp [List.zipIdx, tkD, hFG, -getM, getM_hit, getM_miss, getM_none])))))) | (refine aw_cond (b := _) (by exact rfl) (fun h => ?_) (fun h => ?_) <;> (try simp at h)) | (refine aw_block ?_) | (refine aw_skip ?_; simp only [thenQ, blockQ, if_true]) | (refine aw_exit ?_; simp [thenQ, blockQ]) | (refine aw_ret ?_; simp only [thenQ, blockQ]) | (refine aw_round ?_) | (refine hK _ ?_; clear hK) | (clear hK; refine hK _ ?_; clear hK) | (clear hK; clear hK; refine hK _ ?_; clear hK) | (clear hK; clear hK; clear hK; refine hK _ ?_; clear hK))
          refine ⟨by simp, leavesM_any ?_⟩
          simp (disch := first | omega | assumption | (simp; done) | fail) [if_pos, if_neg, leaves_iff, Try.f37]
          rw [← hFe, drows_take]
          simp
  · obtain ⟨q1, q2, q3⟩ := ho
    rcases fstD_cases (fkB (.inr (f, a, n))) l with ⟨h1, h2⟩ | ⟨k, hk, h1, h2, h3⟩
    · rw [h1] at hF
      have hD := dropK_none h2
      repeat' (first | (apply aw_seq_k; intro K hK) | (refine aw_run hc (by first | exact aw_nod | (intro _; rw [ordB_w hw]; kernel_rfl) | (intro _; rw [ordB_w0 hw0]; kernel_rfl) | (intro _; kernel_rfl)) ?_; simp [List.zipIdx, h49, hF, tkD, -getM, getM_hit, getM_miss, getM_none]; (repeat (simp (disch := first | omega | assumption | fail) only [if_pos, if_neg, wrap64]; try simp [List.zipIdx, h49, hF, tkD, -getM, getM_hit, getM_miss, getM_none])); try (repeat' (refine guardQ_split (fun h => ?_) (fun h => ?_) <;> simp at h <;> (simp [List.zipIdx, h49, hF, tkD, -getM, getM_hit, getM_miss, getM_none]; (repeat (simp (disch := first | omega | assumption | fail) only [if_pos, if_neg, wrap64]; try simp [List.zipIdx, h49, hF, tkD, -getM, getM_hit, getM_miss, getM_none])))))) | (refine aw_cond (b := _) (by exact rfl) (fun h => ?_) (fun h => ?_) <;> (try simp at h)) | (refine aw_block ?_) | (refine aw_skip ?_; simp only [thenQ, blockQ, if_true]) | (refine aw_exit ?_; simp [thenQ, blockQ]) | (refine aw_ret ?_; simp only [thenQ, blockQ]) | (refine aw_round ?_) | (refine hK _ ?_; clear hK) | (clear hK; refine hK _ ?_; clear hK) | (clear hK; clear hK; refine hK _ ?_; clear hK) | (clear hK; clear hK; clear hK; refine hK _ ?_; clear hK))
      refine ⟨by simp, leavesM_any ?_⟩
      simp (disch := first | omega | assumption | (simp; done) | fail) [if_pos, if_neg, leaves_iff, Try.f37]
      rw [hD]
    · rw [h1] at hF
      repeat' (first | (apply aw_seq_k; intro K hK) | (refine aw_run hc (by first | exact aw_nod | (intro _; rw [ordB_w hw]; kernel_rfl) | (intro _; rw [ordB_w0 hw0]; kernel_rfl) | (intro _; kernel_rfl)) ?_; simp [List.zipIdx, h49, hF, tkD, -getM, getM_hit, getM_miss, getM_none]; (repeat (simp (disch := first | omega | assumption | fail) only [if_pos, if_neg, wrap64]; try simp [List.zipIdx, h49, hF, tkD, -getM, getM_hit, getM_miss, getM_none])); try (repeat' (refine guardQ_split (fun h => ?_) (fun h => ?_) <;> simp at h <;> (simp [List.zipIdx, h49, hF, tkD, -getM, getM_hit, getM_miss, getM_none]; (repeat (simp (disch := first | omega | assumption | fail) only [if_pos, if_neg, wrap64]; try simp [List.zipIdx, h49, hF, tkD, -getM, getM_hit, getM_miss, getM_none])))))) | (refine aw_cond (b := _) (by exact rfl) (fun h => ?_) (fun h => ?_) <;> (try simp at h)) | (refine aw_block ?_) | (refine aw_skip ?_; simp only [thenQ, blockQ, if_true]) | (refine aw_exit ?_; simp [thenQ, blockQ]) | (refine aw_ret ?_; simp only [thenQ, blockQ]) | (refine aw_round ?_) | (refine hK _ ?_; clear hK) | (clear hK; refine hK _ ?_; clear hK) | (clear hK; clear hK; refine hK _ ?_; clear hK) | (clear hK; clear hK; clear hK; refine hK _ ?_; clear hK))
      have htk : dropK (.inr (f, a, n)) (l.take k) = l.take k := dropK_none fun j hj => by
        rw [List.length_take] at hj
        have := h3 j (by omega)
        rw [gd_eq (by omega)] at this
        rw [gd_eq (by rw [List.length_take]; omega), List.getElem_take]
        exact this
      have hD0 : dropK (.inr (f, a, n)) (l.take (k + 1)) = l.take k := by rw [take_succ_gd hk, dropK_snoc, if_pos h2, htk]
      have hlk : (l.take k).length = k := by rw [List.length_take]; omega
      have hW0 : l.take k ++ [gd l k] ++ l.drop (k + 1) = l := by rw [← take_succ_gd hk, List.take_append_drop]
      refine aw_loopK (s0 := ?lps8) (m0 := ?lpm8) (ι := {x : Nat × List Tp // x.1 ≤ l.length ∧ (dropK (.inr (f, a, n)) (l.take x.1)).length + x.2.length = x.1 ∧ 1 ≤ x.2.length}) [0, 1] (fun x => [(6, I x.1.1), (5, I (dropK (.inr (f, a, n)) (l.take x.1.1)).length)]) (fun x => [(0, .vec 1 3 false (drows (dropK (.inr (f, a, n)) (l.take x.1.1) ++ x.1.2 ++ l.drop x.1.1)))]) (fun x => l.length - x.1.1) ⟨(k + 1, [gd l k]), by simp only [hD0, hlk]; simp; omega⟩ ?lhs8 ?lhm8 ?_ ?_
      case lhs8 => first | (simp [keepS]; done) | (simp [keepS]; rfl)
      case lhm8 => first | rfl | (simp; done) | (simp; rfl)
      · simp only [hD0, hlk, hW0]
        exact le_of2 (by simp) (by simp [AVle, AV.under, AV.underL] <;> omega) (by simp [AOle, AO.under, AV.underL, AV.under] <;> omega)
      · rintro ⟨⟨j, G⟩, hj, hFG, hG1⟩
        simp only at hj hFG hG1 ⊢
        obtain ⟨F, hFe⟩ : ∃ F, F = dropK (.inr (f, a, n)) (l.take j) := ⟨_, rfl⟩
        rw [← hFe] at hFG ⊢
        rcases Decidable.em (j < l.length) with hjl | hjl
        · have hjI : (j : Int) < (l.length : Int) := by omega
          have hdr := drop_gd hjl
          have hins := dropK_snoc (.inr (f, a, n)) (l.take j) (gd l j)
          rw [← take_succ_gd hjl, ← hFe] at hins
          obtain ⟨⟨x, y, z⟩, hm⟩ : ∃ m, m = gd l j := ⟨_, rfl⟩
          rw [← hm] at hdr hins
          simp only [fkB] at hins
          obtain ⟨W, hW⟩ : ∃ W, W = F ++ G ++ l.drop j := ⟨_, rfl⟩
          have hWl : W.length = l.length := by rw [hW]; simp; omega
          have hWj : gd W j = (x, y, z) := by rw [hW, hdr]; exact gd_app_at (by rw [List.length_append]; exact hFG)
          have hFl : F.length < W.length := by omega
          have hFI : (F.length : Int) < (W.length : Int) := by omega
          have hFI2 : (F.length : Int) < (l.length : Int) := by omega
          have hFL2 : F.length < l.length := by omega
          have hg := drows_gi (l := W) (n := j) (by omega)
          have hgE := drows_gE (l := W) (n := j) (by omega)
          rw [hWj] at hg hgE
          simp only at hg hgE
          have hgF := drows_gi hFl
          have hgFE := drows_gE hFl
          have hFb : F.length ≤ 1000000 := by omega
          have hcl := fun M k => fx.h46 x y z f a n q1 q2 q3 M k
          rw [← hW]
          cases hb : inR (f, a, n) (x, y, z) with
          | true =>
            rw [hb] at hcl
            simp only [hb, if_true] at hins
            repeat' (first | (apply aw_seq_k; intro K hK) | (refine aw_run hc (by first | exact aw_nod | (intro _; rw [ordB_w hw]; kernel_rfl) | (intro _; rw [ordB_w0 hw0]; kernel_rfl) | (intro _; kernel_rfl)) ?_; simp [List.zipIdx, hjI, hg, hgE, hWl, hcl, -getM, getM_hit, getM_miss, getM_none]; (repeat (simp (disch := first | omega | assumption | fail) only [if_pos, if_neg, wrap64]; try simp [List.zipIdx, hjI, hg, hgE, hWl, hcl, -getM, getM_hit, getM_miss, getM_none])); try (repeat' (refine guardQ_split (fun h => ?_) (fun h => ?_) <;> simp at h <;> (simp [List.zipIdx, hjI, hg, hgE, hWl, hcl, -getM, getM_hit, getM_miss, getM_none]; (repeat (simp (disch := first | omega | assumption | fail) only [if_pos, if_neg, wrap64]; try simp [List.zipIdx, hjI, hg, hgE, hWl, hcl, -getM, getM_hit, getM_miss, getM_none])))))) | (refine aw_cond (b := _) (by exact rfl) (fun h => ?_) (fun h => ?_) <;> (try simp at h)) | (refine aw_block ?_) | (refine aw_skip ?_; simp only [thenQ, blockQ, if_true]) | (refine aw_exit ?_; simp [thenQ, blockQ]) | (refine aw_ret ?_; simp only [thenQ, blockQ]) | (refine aw_round ?_) | (refine hK _ ?_; clear hK) | (clear hK; refine hK _ ?_; clear hK) | (clear hK; clear hK; refine hK _ ?_; clear hK) | (clear hK; clear hK; clear hK; refine hK _ ?_; clear hK))
            have hWe : F ++ (G ++ [(x, y, z)] ++ l.drop (j + 1)) = W := by rw [hW, hdr]; simp
            refine ⟨j + 1, G ++ [(x, y, z)], ?_, ⟨by first | omega | (simp only; omega) | (simp; omega), by rw [hins]; simp; omega, by simp⟩, by first | omega | (simp only; omega) | (simp; omega)⟩
            simp only [hins, hWe, List.append_assoc] at hWe ⊢
            simp only [hWe]
            refine le_turn (s1 := ?tus9) (m1 := ?tum9) [] [0, 1, 5, 6] [0] ?tua9 ?tub9 ?tuc9 ?tud9 ?tue9 ?tuf9 ?tug9
            case tua9 => first | (simp [keepS]; done) | (simp [keepS]; rfl)
            case tub9 => first | (simp; done) | (simp; rfl)
            case tuc9 => simp
            case tud9 => simp
            case tue9 => simp
            case tuf9 => simp
            case tug9 =>
              simp [swp, vr]
              exact le_of2 (by simp) (by simp [AVle, AV.under, AV.underL] <;> omega) (by simp [AOle, AO.under, AV.underL, AV.under] <;> omega)
          | false =>
            rw [hb] at hcl
            simp only [hb, Bool.false_eq_true, if_false] at hins
            repeat' (first | (apply aw_seq_k; intro K hK) | (refine aw_run hc (by first | exact aw_nod | (intro _; rw [ordB_w hw]; kernel_rfl) | (intro _; rw [ordB_w0 hw0]; kernel_rfl) | (intro _; kernel_rfl)) ?_; simp [List.zipIdx, hjI, hg, hgE, hWl, hcl, hgF, hgFE, hFI, hFI2, hFL2, drows_set, -getM, getM_hit, getM_miss, getM_none]; (repeat (simp (disch := first | omega | assumption | fail) only [if_pos, if_neg, wrap64]; try simp [List.zipIdx, hjI, hg, hgE, hWl, hcl, hgF, hgFE, hFI, hFI2, hFL2, drows_set, -getM, getM_hit, getM_miss, getM_none])); try (repeat' (refine guardQ_split (fun h => ?_) (fun h => ?_) <;> simp at h <;> (simp [List.zipIdx, hjI, hg, hgE, hWl, hcl, hgF, hgFE, hFI, hFI2, hFL2, drows_set, -getM, getM_hit, getM_miss, getM_none]; (repeat (simp (disch := first | omega | assumption | fail) only [if_pos, if_neg, wrap64]; try simp [List.zipIdx, hjI, hg, hgE, hWl, hcl, hgF, hgFE, hFI, hFI2, hFL2, drows_set, -getM, getM_hit, getM_miss, getM_none])))))) | (refine aw_cond (b := _) (by exact rfl) (fun h => ?_) (fun h => ?_) <;> (try simp at h)) | (refine aw_block ?_) | (refine aw_skip ?_; simp only [thenQ, blockQ, if_true]) | (refine aw_exit ?_; simp [thenQ, blockQ]) | (refine aw_ret ?_; simp only [thenQ, blockQ]) | (refine aw_round ?_) | (refine hK _ ?_; clear hK) | (clear hK; refine hK _ ?_; clear hK) | (clear hK; clear hK; refine hK _ ?_; clear hK) | (clear hK; clear hK; clear hK; refine hK _ ?_; clear hK))
            obtain ⟨g', G', rfl⟩ : ∃ g G', G = g :: G' := by
              cases G with
              | nil => simp at hG1
              | cons g G' => exact ⟨g, G', rfl⟩
            have hWs : (F ++ [(x, y, z)]) ++ (G' ++ [(x, y, z)] ++ l.drop (j + 1)) = W.set F.length (x, y, z) := by
              have e := set_mid F g' (x, y, z) (G' ++ l.drop j)
              have e2 : F ++ g' :: (G' ++ l.drop j) = W := by rw [hW]; simp
              rw [e2] at e
              rw [e, hdr]; simp
            simp only [List.length_cons] at hFG
            refine ⟨j + 1, G' ++ [(x, y, z)], ?_, ⟨by first | omega | (simp only; omega) | (simp; omega), by rw [hins]; simp; omega, by simp⟩, by first | omega | (simp only; omega) | (simp; omega)⟩
            simp only [hins, hWs]
            refine le_turn (s1 := ?tus10) (m1 := ?tum10) [] [0, 1, 5, 6] [0] ?tua10 ?tub10 ?tuc10 ?tud10 ?tue10 ?tuf10 ?tug10
            case tua10 => first | (simp [keepS]; done) | (simp [keepS]; rfl)
            case tub10 => first | (simp; done) | (simp; rfl)
            case tuc10 => simp
            case tud10 => simp
            case tue10 => simp
            case tuf10 => simp
            case tug10 =>
              simp [swp, vr]
              exact le_of2 (by simp) (by simp [AVle, AV.under, AV.underL] <;> omega) (by simp [AOle, AO.under, AV.underL, AV.under] <;> omega)
        · obtain rfl : j = l.length := by omega
          rw [List.take_length] at hFe
          have hnil : l.drop l.length = [] := List.drop_eq_nil_of_le (Nat.le_refl _)
          rw [hnil]
          repeat' (first | (apply aw_seq_k; intro K hK) | (refine aw_run hc (by first | exact aw_nod | (intro _; rw [ordB_w hw]; kernel_rfl) | (intro _; rw [ordB_w0 hw0]; kernel_rfl) | (intro _; kernel_rfl)) ?_; simp [List.zipIdx, tkD, hFG, -getM, getM_hit, getM_miss, getM_none]; (repeat (simp (disch := first | omega | assumption | fail) only [if_pos, if_neg, wrap64]; try simp [List.zipIdx, tkD, hFG, -getM, getM_hit, getM_miss, getM_none])); try (repeat' (refine guardQ_split (fun h => ?_) (fun h => ?_) <;> simp at h <;> (simp [List.zipIdx, tkD, hFG, -getM, getM_hit, getM_miss, getM_none]; (repeat (simp (disch := first | omega | assumption | fail) only [if_pos, if_neg, wrap64]; try simp [List.zipIdx, tkD, hFG, -getM, getM_hit, getM_miss, getM_none])))))) | (refine aw_cond (b := _) (by exact rfl) (fun h => ?_) (fun h => ?_) <;> (try simp at h)) | (refine aw_block ?_) | (refine aw_skip ?_; simp only [thenQ, blockQ, if_true]) | (refine aw_exit ?_; simp [thenQ, blockQ]) | (refine aw_ret ?_; simp only [thenQ, blockQ]) | (refine aw_round ?_) | (refine hK _ ?_; clear hK) | (clear hK; refine hK _ ?_; clear hK) | (clear hK; clear hK; refine hK _ ?_; clear hK) | (clear hK; clear hK; clear hK; refine hK _ ?_; clear hK))
          refine ⟨by simp, leavesM_any ?_⟩
          simp (disch := first | omega | assumption | (simp; done) | fail) [if_pos, if_neg, leaves_iff, Try.f37]
          rw [← hFe, drows_take]
          simp
end Go.AM
