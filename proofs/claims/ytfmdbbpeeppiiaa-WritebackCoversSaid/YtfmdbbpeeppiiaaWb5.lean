/- Writeback: Next of the reference, MinFunc, Index. -/
import Derived.Test.YtfmdbbpeeppiiaaWbP
set_option linter.all false

namespace Go.AM
open Go Go.Proofs

theorem cmpI_neg {a b : Int} : cmpI a b < 0 ↔ a < b := by
  unfold cmpI
  split
  · simp [*]
  · split <;> simp [*]
theorem cmpI_zero {a b : Int} : cmpI a b = 0 ↔ a = b := by
  unfold cmpI
  split
  · constructor
    · intro h; simp at h
    · intro h; omega
  · split
    · constructor
      · intro h; simp at h
      · intro h; omega
    · constructor
      · intro _; omega
      · intro _; rfl
theorem cmpD_neg {a b : Tp} : cmpD a b < 0 ↔ ltD a b := by
  unfold cmpD ltD
  simp only [orL]
  have h1 := cmpI_neg (a := a.2.2) (b := b.2.2)
  have h2 := cmpI_zero (a := a.2.2) (b := b.2.2)
  have h3 := cmpI_neg (a := a.1) (b := b.1)
  have h4 := cmpI_zero (a := a.1) (b := b.1)
  have h5 := cmpI_neg (a := a.2.1) (b := b.2.1)
  have h6 := cmpI_zero (a := a.2.1) (b := b.2.1)
  split
  · split
    · split <;> omega
    · omega
  · omega
theorem cmpP_neg {a b : Mp} : cmpP a b < 0 ↔ ltP a b := by
  unfold cmpP ltP
  simp only [orL]
  have h3 := cmpI_neg (a := a.1) (b := b.1)
  have h4 := cmpI_zero (a := a.1) (b := b.1)
  have h5 := cmpI_neg (a := a.2) (b := b.2)
  have h6 := cmpI_zero (a := a.2) (b := b.2)
  split
  · split <;> omega
  · omega

theorem mnP_new {l : List Tp} {i : Nat} (h : ltD (gd l (i + 1)) (mnP l i)) : mnP l (i + 1) = gd l (i + 1) := by simp only [mnP, mnD]; rw [if_pos h]
theorem mnP_old {l : List Tp} {i : Nat} (h : ¬ ltD (gd l (i + 1)) (mnP l i)) : mnP l (i + 1) = mnP l i := by simp only [mnP, mnD]; rw [if_neg h]

theorem s17 (X : AX) (hX : XOK Try.prog X) (hw : X.W wT) (h15 : ∀ l : List Tp, l.length ≤ 9223372036854775807 → ∀ M n, X.call 15 [.rd 3 (drows l)] M n = some (I (chkD l), []))
    (h32 : ∀ a b c d e f M n, X.call 32 [.agg [I a, I b, I c], .agg [I d, I e, I f]] M n = some (B (decide (ltD (a, b, c) (d, e, f))), [])) :
    PSound Try.prog 17 (specF (ι := {l : List Tp // l.length ≤ 9223372036854775807}) (fun x => [.rd 3 (drows x.1)]) fun x => retOf [I (nxtR x.1)]) := by
  refine psound_spec hX mixed Try.func17 rfl fun ⟨l, hl⟩ w0 G => ⟨by show 1 ≤ 29; decide, rfl, ?_⟩
  show AW ⟨Try.prog, X, 29, w0, .pure G⟩ _ _ _
  have hc : Cx.OK ⟨Try.prog, X, 29, w0, .pure G⟩ := ⟨hX, mixed⟩
  simp only at hl ⊢
  have h15' := h15 l hl
  obtain ⟨c, hcc⟩ : ∃ c, c = chkD l := ⟨_, rfl⟩
  rw [← hcc] at h15'
  rcases Decidable.em (c = 0) with h0 | h0
  · have hz : chkD l = 0 := hcc.symm.trans h0
    have hlen := chk_len hz
    repeat' (first | (apply aw_seq_k; intro K hK) | (refine aw_run hc (by first | exact aw_nod | (intro _; rw [ordB_w hw]; kernel_rfl) | (intro _; rw [ordB_w0 hw0]; kernel_rfl) | (intro _; kernel_rfl)) ?_; simp [List.zipIdx, h15', h0, -getM, getM_hit, getM_miss, getM_none]; (repeat (simp (disch := first | omega | assumption | fail) only [if_pos, if_neg, wrap64]; try simp [List.zipIdx, h15', h0, -getM, getM_hit, getM_miss, getM_none])); try (repeat' (refine guardQ_split (fun h => ?_) (fun h => ?_) <;> simp at h <;> (simp [List.zipIdx, h15', h0, -getM, getM_hit, getM_miss, getM_none]; (repeat (simp (disch := first | omega | assumption | fail) only [if_pos, if_neg, wrap64]; try simp [List.zipIdx, h15', h0, -getM, getM_hit, getM_miss, getM_none])))))) | (refine aw_cond (b := _) (by exact rfl) (fun h => ?_) (fun h => ?_) <;> (try simp at h)) | (refine aw_block ?_) | (refine aw_skip ?_; simp only [thenQ, blockQ, if_true]) | (refine aw_exit ?_; simp [thenQ, blockQ]) | (refine aw_ret ?_; simp only [thenQ, blockQ]) | (refine aw_round ?_) | (refine hK _ ?_; clear hK) | (clear hK; refine hK _ ?_; clear hK) | (clear hK; clear hK; refine hK _ ?_; clear hK) | (clear hK; clear hK; clear hK; refine hK _ ?_; clear hK))
    refine aw_loopK (s0 := ?lps1) (m0 := ?lpm1) (ι := {x : Nat × Int // x.1 ≤ l.length ∧ (x.1 = 0 → x.2 = -1) ∧ (1 ≤ x.1 → ∃ a : Nat, x.2 = a ∧ a < x.1 ∧ gd l a = mnP l (x.1 - 1) ∧ ∀ j, j < a → gd l j ≠ mnP l (x.1 - 1))}) [0, 9, 10] (fun x => [(11, I x.1.1), (3, I x.1.2)]) (fun _ => []) (fun x => l.length - x.1.1) ⟨(0, -1), by simp⟩ ?lhs1 ?lhm1 ?_ ?_
    case lhs1 => first | (simp [keepS]; done) | (simp [keepS]; rfl)
    case lhm1 => first | rfl | (simp; done) | (simp; rfl)
    · exact le_of2 (by simp) (by simp [AVle, AV.under, AV.underL] <;> omega) (by simp [AOle, AO.under, AV.underL, AV.under] <;> omega)
    · rintro ⟨⟨i, q⟩, hi, hq0, hq1⟩
      simp only at hi hq0 hq1 ⊢
      rcases Decidable.em (i < l.length) with hil | hil
      · have hilI : (i : Int) < (l.length : Int) := by omega
        have hg := drows_gi hil
        have hgE := drows_gE hil
        obtain ⟨⟨x, y, z⟩, hm⟩ : ∃ m, m = gd l i := ⟨_, rfl⟩
        rw [← hm] at hg hgE
        simp only at hg hgE
        cases i with
        | zero =>
          obtain rfl := hq0 rfl
          have hilZ : (0 : Int) < (l.length : Int) := by omega
          repeat' (first | (apply aw_seq_k; intro K hK) | (refine aw_run hc (by first | exact aw_nod | (intro _; rw [ordB_w hw]; kernel_rfl) | (intro _; rw [ordB_w0 hw0]; kernel_rfl) | (intro _; kernel_rfl)) ?_; simp [List.zipIdx, hil, hilZ, hg, hgE, -getM, getM_hit, getM_miss, getM_none]; (repeat (simp (disch := first | omega | assumption | fail) only [if_pos, if_neg, wrap64]; try simp [List.zipIdx, hil, hilZ, hg, hgE, -getM, getM_hit, getM_miss, getM_none])); try (repeat' (refine guardQ_split (fun h => ?_) (fun h => ?_) <;> simp at h <;> (simp [List.zipIdx, hil, hilZ, hg, hgE, -getM, getM_hit, getM_miss, getM_none]; (repeat (simp (disch := first | omega | assumption | fail) only [if_pos, if_neg, wrap64]; try simp [List.zipIdx, hil, hilZ, hg, hgE, -getM, getM_hit, getM_miss, getM_none])))))) | (refine aw_cond (b := _) (by exact rfl) (fun h => ?_) (fun h => ?_) <;> (try simp at h)) | (refine aw_block ?_) | (refine aw_skip ?_; simp only [thenQ, blockQ, if_true]) | (refine aw_exit ?_; simp [thenQ, blockQ]) | (refine aw_ret ?_; simp only [thenQ, blockQ]) | (refine aw_round ?_) | (refine hK _ ?_; clear hK) | (clear hK; refine hK _ ?_; clear hK) | (clear hK; clear hK; refine hK _ ?_; clear hK) | (clear hK; clear hK; clear hK; refine hK _ ?_; clear hK))
          refine ⟨1, 0, ?_, ⟨by first | omega | (simp only; omega) | (simp; omega), by simp, fun _ => ⟨0, rfl, by omega, rfl, by omega⟩⟩, by first | omega | (simp only; omega) | (simp; omega)⟩
          exact le_of2 (by simp) (by simp [AVle, AV.under, AV.underL] <;> omega) (by simp [AOle, AO.under, AV.underL, AV.under] <;> omega)
        | succ i =>
          obtain ⟨a, rfl, hai, ha, hj⟩ := hq1 (by omega)
          have hilS : (i : Int) + 1 < (l.length : Int) := by omega
          have eiS : ((i : Int) + 1).toNat = i + 1 := by omega
          simp only [Nat.add_sub_cancel] at ha hj
          have hal : a < l.length := by omega
          have halI : (a : Int) < (l.length : Int) := by omega
          have ha0 : ¬ (a : Int) < 0 := by omega
          have hga := drows_gi hal
          have hgaE := drows_gE hal
          obtain ⟨⟨u, v, w⟩, hma⟩ : ∃ m, m = gd l a := ⟨_, rfl⟩
          rw [← hma] at hga hgaE
          simp only at hga hgaE
          rcases Decidable.em (ltD (x, y, z) (u, v, w)) with hv | hv
          · repeat' (first | (apply aw_seq_k; intro K hK) | (refine aw_run hc (by first | exact aw_nod | (intro _; rw [ordB_w hw]; kernel_rfl) | (intro _; rw [ordB_w0 hw0]; kernel_rfl) | (intro _; kernel_rfl)) ?_; simp [List.zipIdx, hilS, eiS, hg, hgE, hga, hgaE, halI, ha0, h32, hv, -getM, getM_hit, getM_miss, getM_none]; (repeat (simp (disch := first | omega | assumption | fail) only [if_pos, if_neg, wrap64]; try simp [List.zipIdx, hilS, eiS, hg, hgE, hga, hgaE, halI, ha0, h32, hv, -getM, getM_hit, getM_miss, getM_none])); try (repeat' (refine guardQ_split (fun h => ?_) (fun h => ?_) <;> simp at h <;> (simp [List.zipIdx, hilS, eiS, hg, hgE, hga, hgaE, halI, ha0, h32, hv, -getM, getM_hit, getM_miss, getM_none]; (repeat (simp (disch := first | omega | assumption | fail) only [if_pos, if_neg, wrap64]; try simp [List.zipIdx, hilS, eiS, hg, hgE, hga, hgaE, halI, ha0, h32, hv, -getM, getM_hit, getM_miss, getM_none])))))) | (refine aw_cond (b := _) (by exact rfl) (fun h => ?_) (fun h => ?_) <;> (try simp at h)) | (refine aw_block ?_) | (refine aw_skip ?_; simp only [thenQ, blockQ, if_true]) | (refine aw_exit ?_; simp [thenQ, blockQ]) | (refine aw_ret ?_; simp only [thenQ, blockQ]) | (refine aw_round ?_) | (refine hK _ ?_; clear hK) | (clear hK; refine hK _ ?_; clear hK) | (clear hK; clear hK; refine hK _ ?_; clear hK) | (clear hK; clear hK; clear hK; refine hK _ ?_; clear hK))
            have hlt : ltD (gd l (i + 1)) (mnP l i) := by rw [← ha, ← hma, ← hm]; exact hv
            refine ⟨i + 2, ((i + 1 : Nat) : Int), ?_, ⟨by first | omega | (simp only; omega) | (simp; omega), by simp, fun _ => ⟨i + 1, rfl, by simp, (mnP_new hlt).symm, fun j hj2 => ?_⟩⟩, by first | omega | (simp only; omega) | (simp; omega)⟩
            · exact le_of2 (by simp) (by simp [AVle, AV.under, AV.underL] <;> omega) (by simp [AOle, AO.under, AV.underL, AV.under] <;> omega)
            · show gd l j ≠ mnP l (i + 1)
              rw [mnP_new hlt]
              intro e
              exact mnP_le l (i := i) (j := j) (by omega) (e ▸ hlt)
          · repeat' (first | (apply aw_seq_k; intro K hK) | (refine aw_run hc (by first | exact aw_nod | (intro _; rw [ordB_w hw]; kernel_rfl) | (intro _; rw [ordB_w0 hw0]; kernel_rfl) | (intro _; kernel_rfl)) ?_; simp [List.zipIdx, hilS, eiS, hg, hgE, hga, hgaE, halI, ha0, h32, hv, -getM, getM_hit, getM_miss, getM_none]; (repeat (simp (disch := first | omega | assumption | fail) only [if_pos, if_neg, wrap64]; try simp [List.zipIdx, hilS, eiS, hg, hgE, hga, hgaE, halI, ha0, h32, hv, -getM, getM_hit, getM_miss, getM_none])); try (repeat' (refine guardQ_split (fun h => ?_) (fun h => ?_) <;> simp at h <;> (simp [List.zipIdx, hilS, eiS, hg, hgE, hga, hgaE, halI, ha0, h32, hv, -getM, getM_hit, getM_miss, getM_none]; (repeat (simp (disch := first | omega | assumption | fail) only [if_pos, if_neg, wrap64]; try simp [List.zipIdx, hilS, eiS, hg, hgE, hga, hgaE, halI, ha0, h32, hv, -getM, getM_hit, getM_miss, getM_none])))))) | (refine aw_cond (b := _) (by exact rfl) (fun h => ?_) (fun h => ?_) <;> (try simp at h)) | (refine aw_block ?_) | (refine aw_skip ?_; simp only [thenQ, blockQ, if_true]) | (refine aw_exit ?_; simp [thenQ, blockQ]) | (refine aw_ret ?_; simp only [thenQ, blockQ]) | (refine aw_round ?_) | (refine hK _ ?_; clear hK) | (clear hK; refine hK _ ?_; clear hK) | (clear hK; clear hK; refine hK _ ?_; clear hK) | (clear hK; clear hK; clear hK; refine hK _ ?_; clear hK))
            have hlt : ¬ ltD (gd l (i + 1)) (mnP l i) := by rw [← ha, ← hma, ← hm]; exact hv
            refine ⟨i + 2, (a : Int), ?_, ⟨by first | omega | (simp only; omega) | (simp; omega), by simp, fun _ => ⟨a, rfl, by first | omega | (simp only; omega) | (simp; omega), ?_, fun j hj2 => ?_⟩⟩, by first | omega | (simp only; omega) | (simp; omega)⟩
            · exact le_of2 (by simp) (by simp [AVle, AV.under, AV.underL] <;> omega) (by simp [AOle, AO.under, AV.underL, AV.under] <;> omega)
            · show gd l a = mnP l (i + 1)
              rw [mnP_old hlt]; exact ha
            · show gd l j ≠ mnP l (i + 1)
              rw [mnP_old hlt]; exact hj j hj2
      · obtain rfl : i = l.length := by omega
        repeat' (first | (apply aw_seq_k; intro K hK) | (refine aw_run hc (by first | exact aw_nod | (intro _; rw [ordB_w hw]; kernel_rfl) | (intro _; rw [ordB_w0 hw0]; kernel_rfl) | (intro _; kernel_rfl)) ?_; simp [List.zipIdx, -getM, getM_hit, getM_miss, getM_none]; (repeat (simp (disch := first | omega | assumption | fail) only [if_pos, if_neg, wrap64]; try simp [List.zipIdx, -getM, getM_hit, getM_miss, getM_none])); try (repeat' (refine guardQ_split (fun h => ?_) (fun h => ?_) <;> simp at h <;> (simp [List.zipIdx, -getM, getM_hit, getM_miss, getM_none]; (repeat (simp (disch := first | omega | assumption | fail) only [if_pos, if_neg, wrap64]; try simp [List.zipIdx, -getM, getM_hit, getM_miss, getM_none])))))) | (refine aw_cond (b := _) (by exact rfl) (fun h => ?_) (fun h => ?_) <;> (try simp at h)) | (refine aw_block ?_) | (refine aw_skip ?_; simp only [thenQ, blockQ, if_true]) | (refine aw_exit ?_; simp [thenQ, blockQ]) | (refine aw_ret ?_; simp only [thenQ, blockQ]) | (refine aw_round ?_) | (refine hK _ ?_; clear hK) | (clear hK; refine hK _ ?_; clear hK) | (clear hK; clear hK; refine hK _ ?_; clear hK) | (clear hK; clear hK; clear hK; refine hK _ ?_; clear hK))
        have hres : q = nxtR l := by
          rcases Nat.eq_zero_or_pos l.length with h1 | h1
          · have : l = [] := List.eq_nil_of_length_eq_zero h1
            rw [hq0 h1, this, nxtR_e]
          · obtain ⟨a, e1, h2, h3, h4⟩ := hq1 h1
            have hne : l ≠ [] := fun e => by rw [e] at h1; simp at h1
            rw [nxtR_z hne hz, fstD_at h2 (by unfold eqD; simp only [decide_eq_true_eq]; exact h3) (fun j hj => by unfold eqD; simp only [decide_eq_false_iff_not]; exact h4 j hj)]
            exact e1
        rw [hres]
        refine ⟨by simp, ?_⟩
        simp [leaves_iff, Try.f17]
        try (first | omega | (refine decide_eq_decide.2 ?_; omega) | (refine decide_eq_false ?_; omega) | (refine decide_eq_true ?_; omega))
  · rw [nxtR_n (by rw [← hcc]; exact h0)]
    repeat' (first | (apply aw_seq_k; intro K hK) | (refine aw_run hc (by first | exact aw_nod | (intro _; rw [ordB_w hw]; kernel_rfl) | (intro _; rw [ordB_w0 hw0]; kernel_rfl) | (intro _; kernel_rfl)) ?_; simp [List.zipIdx, h15', h0, -getM, getM_hit, getM_miss, getM_none]; (repeat (simp (disch := first | omega | assumption | fail) only [if_pos, if_neg, wrap64]; try simp [List.zipIdx, h15', h0, -getM, getM_hit, getM_miss, getM_none])); try (repeat' (refine guardQ_split (fun h => ?_) (fun h => ?_) <;> simp at h <;> (simp [List.zipIdx, h15', h0, -getM, getM_hit, getM_miss, getM_none]; (repeat (simp (disch := first | omega | assumption | fail) only [if_pos, if_neg, wrap64]; try simp [List.zipIdx, h15', h0, -getM, getM_hit, getM_miss, getM_none])))))) | (refine aw_cond (b := _) (by exact rfl) (fun h => ?_) (fun h => ?_) <;> (try simp at h)) | (refine aw_block ?_) | (refine aw_skip ?_; simp only [thenQ, blockQ, if_true]) | (refine aw_exit ?_; simp [thenQ, blockQ]) | (refine aw_ret ?_; simp only [thenQ, blockQ]) | (refine aw_round ?_) | (refine hK _ ?_; clear hK) | (clear hK; refine hK _ ?_; clear hK) | (clear hK; clear hK; refine hK _ ?_; clear hK) | (clear hK; clear hK; clear hK; refine hK _ ?_; clear hK))
    refine ⟨by simp, ?_⟩
    simp [leaves_iff, Try.f17]
    try (first | omega | (refine decide_eq_decide.2 ?_; omega) | (refine decide_eq_false ?_; omega) | (refine decide_eq_true ?_; omega))

theorem s35 (X : AX) (hX : XOK Try.prog X) (hw : X.W wT) (he : X.eqs 30 = true) :
    PSound Try.prog 35 (specF (ι := {x : List Tp × Tp // x.1.length ≤ 1000000}) (fun x => [.rd 3 (drows x.1.1), Tv x.1.2]) fun x => retOf [I (fstD (eqD x.1.2) x.1.1)]) := by
  refine psound_spec hX mixed Try.func35 rfl fun ⟨⟨l, a, b, c⟩, hl⟩ w0 G => ⟨by show 2 ≤ 19; decide, rfl, ?_⟩
  show AW ⟨Try.prog, X, 19, w0, .pure G⟩ _ _ _
  have hc : Cx.OK ⟨Try.prog, X, 19, w0, .pure G⟩ := ⟨hX, mixed⟩
  simp only at hl ⊢
  unfold Tv
  simp only
  repeat' (first | (apply aw_seq_k; intro K hK) | (refine aw_run hc (by first | exact aw_nod | (intro _; rw [ordB_w hw]; kernel_rfl) | (intro _; rw [ordB_w0 hw0]; kernel_rfl) | (intro _; kernel_rfl)) ?_; simp [List.zipIdx, -getM, getM_hit, getM_miss, getM_none]; (repeat (simp (disch := first | omega | assumption | fail) only [if_pos, if_neg, wrap64]; try simp [List.zipIdx, -getM, getM_hit, getM_miss, getM_none])); try (repeat' (refine guardQ_split (fun h => ?_) (fun h => ?_) <;> simp at h <;> (simp [List.zipIdx, -getM, getM_hit, getM_miss, getM_none]; (repeat (simp (disch := first | omega | assumption | fail) only [if_pos, if_neg, wrap64]; try simp [List.zipIdx, -getM, getM_hit, getM_miss, getM_none])))))) | (refine aw_cond (b := _) (by exact rfl) (fun h => ?_) (fun h => ?_) <;> (try simp at h)) | (refine aw_block ?_) | (refine aw_skip ?_; simp only [thenQ, blockQ, if_true]) | (refine aw_exit ?_; simp [thenQ, blockQ]) | (refine aw_ret ?_; simp only [thenQ, blockQ]) | (refine aw_round ?_) | (refine hK _ ?_; clear hK) | (clear hK; refine hK _ ?_; clear hK) | (clear hK; clear hK; refine hK _ ?_; clear hK) | (clear hK; clear hK; clear hK; refine hK _ ?_; clear hK))
  refine aw_loopK (s0 := ?lps2) (m0 := ?lpm2) (ι := {i : Nat // i ≤ l.length ∧ ∀ j, j < i → eqD (a, b, c) (gd l j) = false}) [0, 3, 7] (fun i => [(8, I i.1)]) (fun _ => []) (fun i => l.length - i.1) ⟨0, by omega, by omega⟩ ?lhs2 ?lhm2 ?_ ?_
  case lhs2 => first | (simp [keepS]; done) | (simp [keepS]; rfl)
  case lhm2 => first | rfl | (simp; done) | (simp; rfl)
  · exact le_of2 (by simp) (by simp [AVle, AV.under, AV.underL] <;> omega) (by simp [AOle, AO.under, AV.underL, AV.under] <;> omega)
  · rintro ⟨i, hi, hinv⟩
    simp only
    rcases Decidable.em (i < l.length) with hil | hil
    · have hilI : (i : Int) < (l.length : Int) := by omega
      have hg := drows_gi hil
      have hgE := drows_gE hil
      obtain ⟨⟨x, y, z⟩, hm⟩ : ∃ m, m = gd l i := ⟨_, rfl⟩
      rw [← hm] at hg hgE
      simp only at hg hgE
      rcases Decidable.em (a = x ∧ b = y ∧ c = z) with hv | hv
      · rw [fstD_at hil (by rw [← hm]; simp [eqD, hv.1, hv.2]) hinv]
        obtain ⟨rfl, rfl, rfl⟩ := hv
        repeat' (first | (apply aw_seq_k; intro K hK) | (refine aw_run hc (by first | exact aw_nod | (intro _; rw [ordB_w hw]; kernel_rfl) | (intro _; rw [ordB_w0 hw0]; kernel_rfl) | (intro _; kernel_rfl)) ?_; simp [List.zipIdx, hilI, hg, hgE, he, eqL, -getM, getM_hit, getM_miss, getM_none]; (repeat (simp (disch := first | omega | assumption | fail) only [if_pos, if_neg, wrap64]; try simp [List.zipIdx, hilI, hg, hgE, he, eqL, -getM, getM_hit, getM_miss, getM_none])); try (repeat' (refine guardQ_split (fun h => ?_) (fun h => ?_) <;> simp at h <;> (simp [List.zipIdx, hilI, hg, hgE, he, eqL, -getM, getM_hit, getM_miss, getM_none]; (repeat (simp (disch := first | omega | assumption | fail) only [if_pos, if_neg, wrap64]; try simp [List.zipIdx, hilI, hg, hgE, he, eqL, -getM, getM_hit, getM_miss, getM_none])))))) | (refine aw_cond (b := _) (by exact rfl) (fun h => ?_) (fun h => ?_) <;> (try simp at h)) | (refine aw_block ?_) | (refine aw_skip ?_; simp only [thenQ, blockQ, if_true]) | (refine aw_exit ?_; simp [thenQ, blockQ]) | (refine aw_ret ?_; simp only [thenQ, blockQ]) | (refine aw_round ?_) | (refine hK _ ?_; clear hK) | (clear hK; refine hK _ ?_; clear hK) | (clear hK; clear hK; refine hK _ ?_; clear hK) | (clear hK; clear hK; clear hK; refine hK _ ?_; clear hK))
        refine ⟨by simp, ?_⟩
        simp [leaves_iff, Try.f35]
        try (first | omega | (refine decide_eq_decide.2 ?_; omega) | (refine decide_eq_false ?_; omega) | (refine decide_eq_true ?_; omega))
      · have hv' : (decide (a = x) && (decide (b = y) && decide (c = z))) = false := by simpa using hv
        repeat' (first | (apply aw_seq_k; intro K hK) | (refine aw_run hc (by first | exact aw_nod | (intro _; rw [ordB_w hw]; kernel_rfl) | (intro _; rw [ordB_w0 hw0]; kernel_rfl) | (intro _; kernel_rfl)) ?_; simp [List.zipIdx, hilI, hg, hgE, hv', he, eqL, -getM, getM_hit, getM_miss, getM_none]; (repeat (simp (disch := first | omega | assumption | fail) only [if_pos, if_neg, wrap64]; try simp [List.zipIdx, hilI, hg, hgE, hv', he, eqL, -getM, getM_hit, getM_miss, getM_none])); try (repeat' (refine guardQ_split (fun h => ?_) (fun h => ?_) <;> simp at h <;> (simp [List.zipIdx, hilI, hg, hgE, hv', he, eqL, -getM, getM_hit, getM_miss, getM_none]; (repeat (simp (disch := first | omega | assumption | fail) only [if_pos, if_neg, wrap64]; try simp [List.zipIdx, hilI, hg, hgE, hv', he, eqL, -getM, getM_hit, getM_miss, getM_none])))))) | (refine aw_cond (b := _) (by exact rfl) (fun h => ?_) (fun h => ?_) <;> (try simp at h)) | (refine aw_block ?_) | (refine aw_skip ?_; simp only [thenQ, blockQ, if_true]) | (refine aw_exit ?_; simp [thenQ, blockQ]) | (refine aw_ret ?_; simp only [thenQ, blockQ]) | (refine aw_round ?_) | (refine hK _ ?_; clear hK) | (clear hK; refine hK _ ?_; clear hK) | (clear hK; clear hK; refine hK _ ?_; clear hK) | (clear hK; clear hK; clear hK; refine hK _ ?_; clear hK))
        refine ⟨i + 1, ?_, ⟨by omega, fun j hj => ?_⟩, by omega⟩
        · exact le_of2 (by simp) (by simp [AVle, AV.under, AV.underL] <;> omega) (by simp [AOle, AO.under, AV.underL, AV.under] <;> omega)
        · rcases Nat.lt_succ_iff_lt_or_eq.1 hj with h | rfl
          · exact hinv j h
          · rw [← hm]
            simp only [eqD, Prod.mk.injEq, decide_eq_false_iff_not]
            rintro ⟨rfl, rfl, rfl⟩
            exact hv ⟨rfl, rfl, rfl⟩
    · obtain rfl : i = l.length := by omega
      repeat' (first | (apply aw_seq_k; intro K hK) | (refine aw_run hc (by first | exact aw_nod | (intro _; rw [ordB_w hw]; kernel_rfl) | (intro _; rw [ordB_w0 hw0]; kernel_rfl) | (intro _; kernel_rfl)) ?_; simp [List.zipIdx, -getM, getM_hit, getM_miss, getM_none]; (repeat (simp (disch := first | omega | assumption | fail) only [if_pos, if_neg, wrap64]; try simp [List.zipIdx, -getM, getM_hit, getM_miss, getM_none])); try (repeat' (refine guardQ_split (fun h => ?_) (fun h => ?_) <;> simp at h <;> (simp [List.zipIdx, -getM, getM_hit, getM_miss, getM_none]; (repeat (simp (disch := first | omega | assumption | fail) only [if_pos, if_neg, wrap64]; try simp [List.zipIdx, -getM, getM_hit, getM_miss, getM_none])))))) | (refine aw_cond (b := _) (by exact rfl) (fun h => ?_) (fun h => ?_) <;> (try simp at h)) | (refine aw_block ?_) | (refine aw_skip ?_; simp only [thenQ, blockQ, if_true]) | (refine aw_exit ?_; simp [thenQ, blockQ]) | (refine aw_ret ?_; simp only [thenQ, blockQ]) | (refine aw_round ?_) | (refine hK _ ?_; clear hK) | (clear hK; refine hK _ ?_; clear hK) | (clear hK; clear hK; refine hK _ ?_; clear hK) | (clear hK; clear hK; clear hK; refine hK _ ?_; clear hK))
      rw [fstD_not hinv]
      refine ⟨by simp, ?_⟩
      simp [leaves_iff, Try.f35]
      try (first | omega | (refine decide_eq_decide.2 ?_; omega) | (refine decide_eq_false ?_; omega) | (refine decide_eq_true ?_; omega))

theorem s36 (X : AX) (hX : XOK Try.prog X) (hw : X.W wT) (h31 : ∀ a b c d e f M n, X.call 31 [.agg [I a, I b, I c], .agg [I d, I e, I f]] M n = some (I (cmpD (a, b, c) (d, e, f)), [])) :
    PSound Try.prog 36 (specF (ι := {x : List Tp // 0 < x.length ∧ x.length ≤ 1000000}) (fun x => [.rd 3 (drows x.1), .fn 31 []]) fun x => retOf [Tv (mnL x.1)]) := by
  refine psound_spec hX mixed Try.func36 rfl fun ⟨l, h0, hl⟩ w0 G => ⟨by show 2 ≤ 33; decide, rfl, ?_⟩
  show AW ⟨Try.prog, X, 33, w0, .pure G⟩ _ _ _
  have hc : Cx.OK ⟨Try.prog, X, 33, w0, .pure G⟩ := ⟨hX, mixed⟩
  simp only at h0 hl ⊢
  have h0I : ¬ (l.length : Int) < 1 := by omega
  have h0I' : (0 : Int) < (l.length : Int) := by omega
  have h0n : ¬ l = [] := fun e => by rw [e] at h0; simp at h0
  have h0N : ¬ l.length < 1 := by omega
  have hg0 := drows_gi h0
  have hg0E := drows_gE h0
  have hz : mnP l 0 = gd l 0 := rfl
  obtain ⟨⟨x0, y0, z0⟩, hm0⟩ : ∃ m, m = gd l 0 := ⟨_, rfl⟩
  rw [← hm0] at hg0 hg0E hz
  simp only at hg0 hg0E
  repeat' (first | (apply aw_seq_k; intro K hK) | (refine aw_run hc (by first | exact aw_nod | (intro _; rw [ordB_w hw]; kernel_rfl) | (intro _; rw [ordB_w0 hw0]; kernel_rfl) | (intro _; kernel_rfl)) ?_; simp [List.zipIdx, h0I, h0I', h0n, h0N, h0, hg0, hg0E, -getM, getM_hit, getM_miss, getM_none]; (repeat (simp (disch := first | omega | assumption | fail) only [if_pos, if_neg, wrap64]; try simp [List.zipIdx, h0I, h0I', h0n, h0N, h0, hg0, hg0E, -getM, getM_hit, getM_miss, getM_none])); try (repeat' (refine guardQ_split (fun h => ?_) (fun h => ?_) <;> simp at h <;> (simp [List.zipIdx, h0I, h0I', h0n, h0N, h0, hg0, hg0E, -getM, getM_hit, getM_miss, getM_none]; (repeat (simp (disch := first | omega | assumption | fail) only [if_pos, if_neg, wrap64]; try simp [List.zipIdx, h0I, h0I', h0n, h0N, h0, hg0, hg0E, -getM, getM_hit, getM_miss, getM_none])))))) | (refine aw_cond (b := _) (by exact rfl) (fun h => ?_) (fun h => ?_) <;> (try simp at h)) | (refine aw_block ?_) | (refine aw_skip ?_; simp only [thenQ, blockQ, if_true]) | (refine aw_exit ?_; simp [thenQ, blockQ]) | (refine aw_ret ?_; simp only [thenQ, blockQ]) | (refine aw_round ?_) | (refine hK _ ?_; clear hK) | (clear hK; refine hK _ ?_; clear hK) | (clear hK; clear hK; refine hK _ ?_; clear hK) | (clear hK; clear hK; clear hK; refine hK _ ?_; clear hK))
  refine aw_loopK (s0 := ?lps3) (m0 := ?lpm3) (ι := {k : Nat // k < l.length}) [0, 1, 4, 5] (fun k => [(6, I ((k.1 + 1 : Nat) : Int))]) (fun k => [(112, .box [I (mnP l k.1).1, I (mnP l k.1).2.1, I (mnP l k.1).2.2])]) (fun k => l.length - k.1) ⟨0, h0⟩ ?lhs3 ?lhm3 ?_ ?_
  case lhs3 => first | (simp [keepS]; done) | (simp [keepS]; rfl)
  case lhm3 => first | rfl | (simp; done) | (simp; rfl)
  · simp only [hz]
    exact le_of2 (by simp) (by simp [AVle, AV.under, AV.underL] <;> omega) (by simp [AOle, AO.under, AV.underL, AV.under] <;> omega)
  · rintro ⟨k, hk⟩
    simp only
    have hnw := @mnP_new l k
    have hod := @mnP_old l k
    have hend : k + 1 = l.length → mnL l = mnP l k := fun e => by unfold mnL; rw [show l.length - 1 = k by omega]
    obtain ⟨⟨u, v, w⟩, hu⟩ : ∃ m, m = mnP l k := ⟨_, rfl⟩
    rw [← hu] at hnw hod hend ⊢
    simp only
    rcases Decidable.em (k + 1 < l.length) with hil | hil
    · have hilI : (k : Int) + 1 < (l.length : Int) := by omega
      have hg := drows_gi hil
      have hgE := drows_gE hil
      obtain ⟨⟨x, y, z⟩, hm⟩ : ∃ m, m = gd l (k + 1) := ⟨_, rfl⟩
      rw [← hm] at hg hgE hnw hod
      simp only at hg hgE
      have e1 : ((k : Int) + 1).toNat = k + 1 := by omega
      have hcm := cmpD_neg (a := (x, y, z)) (b := (u, v, w))
      obtain ⟨q, hq⟩ : ∃ q, q = cmpD (x, y, z) (u, v, w) := ⟨_, rfl⟩
      have h31' := fun M n => h31 x y z u v w M n
      rw [← hq] at hcm h31'
      rcases Decidable.em (q < 0) with hv | hv
      · have hn := hnw (hcm.1 hv)
        repeat' (first | (apply aw_seq_k; intro K hK) | (refine aw_run hc (by first | exact aw_nod | (intro _; rw [ordB_w hw]; kernel_rfl) | (intro _; rw [ordB_w0 hw0]; kernel_rfl) | (intro _; kernel_rfl)) ?_; simp [List.zipIdx, hilI, hg, hgE, h31', hv, e1, -getM, getM_hit, getM_miss, getM_none]; (repeat (simp (disch := first | omega | assumption | fail) only [if_pos, if_neg, wrap64]; try simp [List.zipIdx, hilI, hg, hgE, h31', hv, e1, -getM, getM_hit, getM_miss, getM_none])); try (repeat' (refine guardQ_split (fun h => ?_) (fun h => ?_) <;> simp at h <;> (simp [List.zipIdx, hilI, hg, hgE, h31', hv, e1, -getM, getM_hit, getM_miss, getM_none]; (repeat (simp (disch := first | omega | assumption | fail) only [if_pos, if_neg, wrap64]; try simp [List.zipIdx, hilI, hg, hgE, h31', hv, e1, -getM, getM_hit, getM_miss, getM_none])))))) | (refine aw_cond (b := _) (by exact rfl) (fun h => ?_) (fun h => ?_) <;> (try simp at h)) | (refine aw_block ?_) | (refine aw_skip ?_; simp only [thenQ, blockQ, if_true]) | (refine aw_exit ?_; simp [thenQ, blockQ]) | (refine aw_ret ?_; simp only [thenQ, blockQ]) | (refine aw_round ?_) | (refine hK _ ?_; clear hK) | (clear hK; refine hK _ ?_; clear hK) | (clear hK; clear hK; refine hK _ ?_; clear hK) | (clear hK; clear hK; clear hK; refine hK _ ?_; clear hK))
        refine ⟨k + 1, ?_, by omega, by omega⟩
        simp only [hn]
        refine le_turn (s1 := ?tus4) (m1 := ?tum4) [] [0, 1, 4, 5, 6] [0, 112] ?tua4 ?tub4 ?tuc4 ?tud4 ?tue4 ?tuf4 ?tug4
        case tua4 => first | (simp [keepS]; done) | (simp [keepS]; rfl)
        case tub4 => first | (simp; done) | (simp; rfl)
        case tuc4 => simp
        case tud4 => simp
        case tue4 => simp
        case tuf4 => simp
        case tug4 =>
          simp [swp, vr]
          exact le_of2 (by simp) (by simp [AVle, AV.under, AV.underL] <;> omega) (by simp [AOle, AO.under, AV.underL, AV.under] <;> omega)
      · have hn := hod fun h => hv (hcm.2 h)
        repeat' (first | (apply aw_seq_k; intro K hK) | (refine aw_run hc (by first | exact aw_nod | (intro _; rw [ordB_w hw]; kernel_rfl) | (intro _; rw [ordB_w0 hw0]; kernel_rfl) | (intro _; kernel_rfl)) ?_; simp [List.zipIdx, hilI, hg, hgE, h31', hv, e1, -getM, getM_hit, getM_miss, getM_none]; (repeat (simp (disch := first | omega | assumption | fail) only [if_pos, if_neg, wrap64]; try simp [List.zipIdx, hilI, hg, hgE, h31', hv, e1, -getM, getM_hit, getM_miss, getM_none])); try (repeat' (refine guardQ_split (fun h => ?_) (fun h => ?_) <;> simp at h <;> (simp [List.zipIdx, hilI, hg, hgE, h31', hv, e1, -getM, getM_hit, getM_miss, getM_none]; (repeat (simp (disch := first | omega | assumption | fail) only [if_pos, if_neg, wrap64]; try simp [List.zipIdx, hilI, hg, hgE, h31', hv, e1, -getM, getM_hit, getM_miss, getM_none])))))) | (refine aw_cond (b := _) (by exact rfl) (fun h => ?_) (fun h => ?_) <;> (try simp at h)) | (refine aw_block ?_) | (refine aw_skip ?_; simp only [thenQ, blockQ, if_true]) | (refine aw_exit ?_; simp [thenQ, blockQ]) | (refine aw_ret ?_; simp only [thenQ, blockQ]) | (refine aw_round ?_) | (refine hK _ ?_; clear hK) | (clear hK; refine hK _ ?_; clear hK) | (clear hK; clear hK; refine hK _ ?_; clear hK) | (clear hK; clear hK; clear hK; refine hK _ ?_; clear hK))
        refine ⟨k + 1, ?_, by omega, by omega⟩
        simp only [hn]
        refine le_turn (s1 := ?tus5) (m1 := ?tum5) [] [0, 1, 4, 5, 6] [0, 112] ?tua5 ?tub5 ?tuc5 ?tud5 ?tue5 ?tuf5 ?tug5
        case tua5 => first | (simp [keepS]; done) | (simp [keepS]; rfl)
        case tub5 => first | (simp; done) | (simp; rfl)
        case tuc5 => simp
        case tud5 => simp
        case tue5 => simp
        case tuf5 => simp
        case tug5 =>
          simp [swp, vr]
          exact le_of2 (by simp) (by simp [AVle, AV.under, AV.underL] <;> omega) (by simp [AOle, AO.under, AV.underL, AV.under] <;> omega)
    · have hilI : ¬ (k : Int) + 1 < (l.length : Int) := by omega
      repeat' (first | (apply aw_seq_k; intro K hK) | (refine aw_run hc (by first | exact aw_nod | (intro _; rw [ordB_w hw]; kernel_rfl) | (intro _; rw [ordB_w0 hw0]; kernel_rfl) | (intro _; kernel_rfl)) ?_; simp [List.zipIdx, hilI, -getM, getM_hit, getM_miss, getM_none]; (repeat (simp (disch := first | omega | assumption | fail) only [if_pos, if_neg, wrap64]; try simp [List.zipIdx, hilI, -getM, getM_hit, getM_miss, getM_none])); try (repeat' (refine guardQ_split (fun h => ?_) (fun h => ?_) <;> simp at h <;> (simp [List.zipIdx, hilI, -getM, getM_hit, getM_miss, getM_none]; (repeat (simp (disch := first | omega | assumption | fail) only [if_pos, if_neg, wrap64]; try simp [List.zipIdx, hilI, -getM, getM_hit, getM_miss, getM_none])))))) | (refine aw_cond (b := _) (by exact rfl) (fun h => ?_) (fun h => ?_) <;> (try simp at h)) | (refine aw_block ?_) | (refine aw_skip ?_; simp only [thenQ, blockQ, if_true]) | (refine aw_exit ?_; simp [thenQ, blockQ]) | (refine aw_ret ?_; simp only [thenQ, blockQ]) | (refine aw_round ?_) | (refine hK _ ?_; clear hK) | (clear hK; refine hK _ ?_; clear hK) | (clear hK; clear hK; refine hK _ ?_; clear hK) | (clear hK; clear hK; clear hK; refine hK _ ?_; clear hK))
      rw [hend (by omega)]
      unfold Tv
      refine ⟨by simp, ?_⟩
      simp [leaves_iff, Try.f36]
      try (first | omega | (refine decide_eq_decide.2 ?_; omega) | (refine decide_eq_false ?_; omega) | (refine decide_eq_true ?_; omega))
end Go.AM
