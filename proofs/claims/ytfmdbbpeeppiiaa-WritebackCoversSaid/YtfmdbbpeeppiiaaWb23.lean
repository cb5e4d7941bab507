/- Writeback: if all runs are written, nothing is left. -/
import Derived.Test.YtfmdbbpeeppiiaaWb21
import Derived.Test.YtfmdbbpeeppiiaaWb22
set_option linter.all false

namespace Go.AM
open Go Go.Proofs
attribute [local simp] callK
theorem callD_ok {F : List AV → Option AV} {avs : List AV} {r : AV} {M : Nat → AO} {n : Nat} (hF : F avs = some r) (hc : avs.all AV.closedV = true) (ho : openRet n r = (r, [], n)) : callD F avs M n = some (r, []) := by
  simp only [callD]
  rw [if_pos hc, hF]
  simp only [ho]
  rw [if_pos (by omega)]

noncomputable def wrtFr : List AV → Option AV := specF (ι := {x : List Tp × Tp // x.1.length ≤ 9223372036854775807}) (fun x => [.rd 3 (drows x.1.1), Tv x.1.2]) fun x => retOf [.rd 3 (drows (wrtR x.1.1 x.1.2).1), I (wrtR x.1.1 x.1.2).2]
theorem wrtFr_at (l : List Tp) (a b c : Int) (h : l.length ≤ 9223372036854775807) : wrtFr [.rd 3 (drows l), .agg [I a, I b, I c]] = some (.tup [.rd 3 (drows (wrtR l (a, b, c)).1), I (wrtR l (a, b, c)).2]) :=
  specF_eq (ι := {x : List Tp × Tp // x.1.length ≤ 9223372036854775807}) (A := fun x => [.rd 3 (drows x.1.1), Tv x.1.2]) (R := fun x => retOf [.rd 3 (drows (wrtR x.1.1 x.1.2).1), I (wrtR x.1.1 x.1.2).2]) ⟨(l, (a, b, c)), h⟩ (by
    rintro ⟨⟨k, p⟩, h⟩ e
    simp [drows_inj, Tv_inj] at e
    obtain ⟨rfl, rfl⟩ := e; rfl)

set_option maxHeartbeats 2000000 in
theorem s8 (X : AX) (hX : XOK Try.prog X) (hw : X.W wT) (h10 : ∀ l M n, X.call 10 [.rd 3 (drows l)] M n = some (B (decide (l.length ≤ 100)), [])) (h21 : X.call 21 = callP F21) (h24 : X.call 24 = callD wrtFr) (h26 : X.call 26 = callP F28) (h27 : X.call 27 = callK F27)
    (h11 : ∀ M n, X.call 11 [] M n = some (B true, [])) : PSound Try.prog 8 (specF (ι := {x : List Tp × Int × Bool // x.1.length ≤ 9223372036854775807}) (fun x => [.rd 3 (drows x.1.1), I x.1.2.1, B x.1.2.2]) fun _ => retOf [B true]) := by
  refine psound_spec hX mixed Try.func8 rfl fun ⟨⟨l, m, bk⟩, hl⟩ w0 G => ⟨by show 3 ≤ 77; decide, rfl, ?_⟩
  show AW ⟨Try.prog, X, 77, w0, .pure G⟩ _ _ _
  have hc : Cx.OK ⟨Try.prog, X, 77, w0, .pure G⟩ := ⟨hX, mixed⟩
  have hl : l.length ≤ 9223372036854775807 := hl
  simp only
  have h10' := h10 l
  have f1 := F21_at l m hl
  have hrl := runR_len l m
  rcases Decidable.em (l.length ≤ 100) with h | h
  · rw [decide_eq_true h] at h10'
    rcases Decidable.em ((runR l m).2 = 0) with h2 | h2
    · have h0 : chkD l = 0 := Classical.byContradiction fun hh => by rw [runR_n hh] at h2; exact hh h2
      have hm : ¬ m < 1 := fun hh => by rw [runR_m h0 hh] at h2; simp at h2
      rw [runR_z h0 hm] at f1 hrl
      simp only at f1 hrl
      cases bk with
      | false =>
        have hRK := runs_ok h0 (m := m) (by omega)
        obtain ⟨RL, hKe⟩ : ∃ RL, RL = runF (hasN l) m 4 := ⟨_, rfl⟩
        rw [← hKe] at hRK f1 hrl
        have hr64 : ¬ 64 < (RL.length : Int) := by omega
        have hr64N : ¬ 64 < RL.length := by omega
        repeat' (first | (apply aw_seq_k; intro K hK) | (refine aw_run hc (by first | exact aw_nod | (intro _; rw [ordB_w hw]; kernel_rfl) | (intro _; rw [ordB_w0 hw0]; kernel_rfl) | (intro _; kernel_rfl)) ?_; simp [List.zipIdx, h11, h10', h21, f1, hr64, hr64N, tkD, -getM, getM_hit, getM_miss, getM_none]; (repeat (simp (disch := first | omega | assumption | fail) only [if_pos, if_neg, wrap64]; try simp [List.zipIdx, h11, h10', h21, f1, hr64, hr64N, tkD, -getM, getM_hit, getM_miss, getM_none])); try (repeat' (refine guardQ_split (fun h => ?_) (fun h => ?_) <;> simp at h <;> (simp [List.zipIdx, h11, h10', h21, f1, hr64, hr64N, tkD, -getM, getM_hit, getM_miss, getM_none]; (repeat (simp (disch := first | omega | assumption | fail) only [if_pos, if_neg, wrap64]; try simp [List.zipIdx, h11, h10', h21, f1, hr64, hr64N, tkD, -getM, getM_hit, getM_miss, getM_none])))))) | (refine aw_cond (b := _) (by exact rfl) (fun h => ?_) (fun h => ?_) <;> (try simp at h)) | (refine aw_block ?_) | (refine aw_skip ?_; simp only [thenQ, blockQ, if_true]) | (refine aw_exit ?_; simp [thenQ, blockQ]) | (refine aw_ret ?_; simp only [thenQ, blockQ]) | (refine aw_round ?_) | (refine hK _ ?_; clear hK) | (clear hK; refine hK _ ?_; clear hK) | (clear hK; clear hK; refine hK _ ?_; clear hK) | (clear hK; clear hK; clear hK; refine hK _ ?_; clear hK))
        refine aw_loopK (s0 := ?lps1) (m0 := ?lpm1) (ι := {i : Nat // i ≤ RL.length}) [48, 49] (fun i => [(50, I i.1), (9, .rd 3 (drows (l.filter (outR (RL.take i.1)))))]) (fun _ => [(48, .vec 1 3 false (drows RL))]) (fun i => RL.length - i.1) ⟨0, by omega⟩ ?lhs1 ?lhm1 ?_ ?_
        case lhs1 => first | (simp [keepS]; done) | (simp [keepS]; rfl)
        case lhm1 => first | rfl | (simp; done) | (simp; rfl)
        · simp only [List.take_zero, out_nil]
          exact le_of2 (by simp) (by simp [AVle, AV.under, AV.underL] <;> omega) (by simp [AOle, AO.under, AV.underL, AV.under] <;> omega)
        · rintro ⟨i, hi⟩
          simp only
          rcases Decidable.em (i < RL.length) with hil | hil
          · have hilI : (i : Int) < (RL.length : Int) := by omega
            have hg := drows_gi hil
            have hgE := drows_gE hil
            have hst := hRK.step h0 hil
            obtain ⟨R, hR⟩ : ∃ R, R = l.filter (outR (RL.take i)) := ⟨_, rfl⟩
            obtain ⟨R2, hR2⟩ : ∃ R2, R2 = l.filter (outR (RL.take (i + 1))) := ⟨_, rfl⟩
            rw [← hR, ← hR2] at hst
            rw [← hR]
            have hRl : R.length ≤ l.length := by rw [hR]; exact List.length_filter_le _ _
            obtain ⟨⟨x, y, z⟩, hm2⟩ : ∃ m, m = gd RL i := ⟨_, rfl⟩
            rw [← hm2] at hg hgE hst
            simp only at hg hgE
            have f4 := wrtFr_at R x y z (by omega)
            rw [hst.1] at f4
            have f4' : ∀ M n, X.call 24 [.rd 3 (drows R), .agg [I x, I y, I z]] M n = some (.tup [.rd 3 (drows R2), I 0], []) := fun M n => by rw [h24]; exact callD_ok f4 rfl (by simp)
            have hlt := hst.2
            have hnl : ¬ R.length ≤ R2.length := by omega
            have hnlI : ¬ (R.length : Int) ≤ (R2.length : Int) := by omega
            repeat' (first | (apply aw_seq_k; intro K hK) | (refine aw_run hc (by first | exact aw_nod | (intro _; rw [ordB_w hw]; kernel_rfl) | (intro _; rw [ordB_w0 hw0]; kernel_rfl) | (intro _; kernel_rfl)) ?_; simp [List.zipIdx, h11, hil, hilI, hg, hgE, f4', hnl, hnlI, -getM, getM_hit, getM_miss, getM_none]; (repeat (simp (disch := first | omega | assumption | fail) only [if_pos, if_neg, wrap64]; try simp [List.zipIdx, h11, hil, hilI, hg, hgE, f4', hnl, hnlI, -getM, getM_hit, getM_miss, getM_none])); try (repeat' (refine guardQ_split (fun h => ?_) (fun h => ?_) <;> simp at h <;> (simp [List.zipIdx, h11, hil, hilI, hg, hgE, f4', hnl, hnlI, -getM, getM_hit, getM_miss, getM_none]; (repeat (simp (disch := first | omega | assumption | fail) only [if_pos, if_neg, wrap64]; try simp [List.zipIdx, h11, hil, hilI, hg, hgE, f4', hnl, hnlI, -getM, getM_hit, getM_miss, getM_none])))))) | (refine aw_cond (b := _) (by exact rfl) (fun h => ?_) (fun h => ?_) <;> (try simp at h)) | (refine aw_block ?_) | (refine aw_skip ?_; simp only [thenQ, blockQ, if_true]) | (refine aw_exit ?_; simp [thenQ, blockQ]) | (refine aw_ret ?_; simp only [thenQ, blockQ]) | (refine aw_round ?_) | (refine hK _ ?_; clear hK) | (clear hK; refine hK _ ?_; clear hK) | (clear hK; clear hK; refine hK _ ?_; clear hK) | (clear hK; clear hK; clear hK; refine hK _ ?_; clear hK))
            refine ⟨i + 1, ?_, by omega, by omega⟩
            simp only [← hR2]
            refine le_turn (s1 := ?tus2) (m1 := ?tum2) [] [48, 49, 50, 9] [48] ?tua2 ?tub2 ?tuc2 ?tud2 ?tue2 ?tuf2 ?tug2
            case tua2 => first | (simp [keepS]; done) | (simp [keepS]; rfl)
            case tub2 => first | (simp; done) | (simp; rfl)
            case tuc2 => simp
            case tud2 => simp
            case tue2 => simp
            case tuf2 => simp
            case tug2 =>
              simp [swp, vr]
              exact le_of2 (by simp) (by simp [AVle, AV.under, AV.underL] <;> omega) (by simp [AOle, AO.under, AV.underL, AV.under] <;> omega)
          · obtain rfl : i = RL.length := by omega
            have hlI : ¬ (RL.length : Int) < (RL.length : Int) := by omega
            have he := ends_all hRK.all
            rw [List.take_length, he]
            repeat' (first | (apply aw_seq_k; intro K hK) | (refine aw_run hc (by first | exact aw_nod | (intro _; rw [ordB_w hw]; kernel_rfl) | (intro _; rw [ordB_w0 hw0]; kernel_rfl) | (intro _; kernel_rfl)) ?_; simp [List.zipIdx, h11, hlI, drows_nil, -getM, getM_hit, getM_miss, getM_none]; (repeat (simp (disch := first | omega | assumption | fail) only [if_pos, if_neg, wrap64]; try simp [List.zipIdx, h11, hlI, drows_nil, -getM, getM_hit, getM_miss, getM_none])); try (repeat' (refine guardQ_split (fun h => ?_) (fun h => ?_) <;> simp at h <;> (simp [List.zipIdx, h11, hlI, drows_nil, -getM, getM_hit, getM_miss, getM_none]; (repeat (simp (disch := first | omega | assumption | fail) only [if_pos, if_neg, wrap64]; try simp [List.zipIdx, h11, hlI, drows_nil, -getM, getM_hit, getM_miss, getM_none])))))) | (refine aw_cond (b := _) (by exact rfl) (fun h => ?_) (fun h => ?_) <;> (try simp at h)) | (refine aw_block ?_) | (refine aw_skip ?_; simp only [thenQ, blockQ, if_true]) | (refine aw_exit ?_; simp [thenQ, blockQ]) | (refine aw_ret ?_; simp only [thenQ, blockQ]) | (refine aw_round ?_) | (refine hK _ ?_; clear hK) | (clear hK; refine hK _ ?_; clear hK) | (clear hK; clear hK; refine hK _ ?_; clear hK) | (clear hK; clear hK; clear hK; refine hK _ ?_; clear hK))
            refine ⟨by simp, ?_⟩
            simp [leaves_iff, Try.f8]
            try (first | omega | (refine decide_eq_decide.2 ?_; omega) | (refine decide_eq_false ?_; omega) | (refine decide_eq_true ?_; omega))
      | true =>
        have hRK := runs_rev h0 (m := m) (by omega)
        obtain ⟨K0, hK0⟩ : ∃ K0, K0 = runF (hasN l) m 4 := ⟨_, rfl⟩
        rw [← hK0] at hRK f1 hrl
        have hr64 : ¬ 64 < (K0.length : Int) := by omega
        have hr64N : ¬ 64 < K0.length := by omega
        have f2 := F28_at K0 (by omega)
        have f3 := F27_at K0 (by omega)
        obtain ⟨RL, hKe⟩ : ∃ RL, RL = K0.reverse := ⟨_, rfl⟩
        have hKl : K0.length = RL.length := by rw [hKe, List.length_reverse]
        rw [← hKe] at hRK f3
        have htk : List.take RL.length (drows K0) = drows K0 := by rw [← hKl]; exact tkD K0
        have hk64 : ¬ 64 < (RL.length : Int) := by omega
        have hk64N : ¬ 64 < RL.length := by omega
        repeat' (first | (apply aw_seq_k; intro K hK) | (refine aw_run hc (by first | exact aw_nod | (intro _; rw [ordB_w hw]; kernel_rfl) | (intro _; rw [ordB_w0 hw0]; kernel_rfl) | (intro _; kernel_rfl)) ?_; simp [List.zipIdx, h11, h10', h21, f1, hk64, hk64N, tkD, htk, h26, f2, h27, f3, callK, hKl, -getM, getM_hit, getM_miss, getM_none]; (repeat (simp (disch := first | omega | assumption | fail) only [if_pos, if_neg, wrap64]; try simp [List.zipIdx, h11, h10', h21, f1, hk64, hk64N, tkD, htk, h26, f2, h27, f3, callK, hKl, -getM, getM_hit, getM_miss, getM_none])); try (repeat' (refine guardQ_split (fun h => ?_) (fun h => ?_) <;> simp at h <;> (simp [List.zipIdx, h11, h10', h21, f1, hk64, hk64N, tkD, htk, h26, f2, h27, f3, callK, hKl, -getM, getM_hit, getM_miss, getM_none]; (repeat (simp (disch := first | omega | assumption | fail) only [if_pos, if_neg, wrap64]; try simp [List.zipIdx, h11, h10', h21, f1, hk64, hk64N, tkD, htk, h26, f2, h27, f3, callK, hKl, -getM, getM_hit, getM_miss, getM_none])))))) | (refine aw_cond (b := _) (by exact rfl) (fun h => ?_) (fun h => ?_) <;> (try simp at h)) | (refine aw_block ?_) | (refine aw_skip ?_; simp only [thenQ, blockQ, if_true]) | (refine aw_exit ?_; simp [thenQ, blockQ]) | (refine aw_ret ?_; simp only [thenQ, blockQ]) | (refine aw_round ?_) | (refine hK _ ?_; clear hK) | (clear hK; refine hK _ ?_; clear hK) | (clear hK; clear hK; refine hK _ ?_; clear hK) | (clear hK; clear hK; clear hK; refine hK _ ?_; clear hK))
        refine aw_loopK (s0 := ?lps3) (m0 := ?lpm3) (ι := {i : Nat // i ≤ RL.length}) [48, 49] (fun i => [(50, I i.1), (9, .rd 3 (drows (l.filter (outR (RL.take i.1)))))]) (fun _ => [(368, .vec 1 3 false (drows RL))]) (fun i => RL.length - i.1) ⟨0, by omega⟩ ?lhs3 ?lhm3 ?_ ?_
        case lhs3 => first | (simp [keepS]; done) | (simp [keepS]; rfl)
        case lhm3 => first | rfl | (simp; done) | (simp; rfl)
        · simp only [List.take_zero, out_nil]
          exact le_of2 (by simp) (by simp [AVle, AV.under, AV.underL] <;> omega) (by simp [AOle, AO.under, AV.underL, AV.under] <;> omega)
        · rintro ⟨i, hi⟩
          simp only
          rcases Decidable.em (i < RL.length) with hil | hil
          · have hilI : (i : Int) < (RL.length : Int) := by omega
            have hg := drows_gi hil
            have hgE := drows_gE hil
            have hst := hRK.step h0 hil
            obtain ⟨R, hR⟩ : ∃ R, R = l.filter (outR (RL.take i)) := ⟨_, rfl⟩
            obtain ⟨R2, hR2⟩ : ∃ R2, R2 = l.filter (outR (RL.take (i + 1))) := ⟨_, rfl⟩
            rw [← hR, ← hR2] at hst
            rw [← hR]
            have hRl : R.length ≤ l.length := by rw [hR]; exact List.length_filter_le _ _
            obtain ⟨⟨x, y, z⟩, hm2⟩ : ∃ m, m = gd RL i := ⟨_, rfl⟩
            rw [← hm2] at hg hgE hst
            simp only at hg hgE
            have f4 := wrtFr_at R x y z (by omega)
            rw [hst.1] at f4
            have f4' : ∀ M n, X.call 24 [.rd 3 (drows R), .agg [I x, I y, I z]] M n = some (.tup [.rd 3 (drows R2), I 0], []) := fun M n => by rw [h24]; exact callD_ok f4 rfl (by simp)
            have hlt := hst.2
            have hnl : ¬ R.length ≤ R2.length := by omega
            have hnlI : ¬ (R.length : Int) ≤ (R2.length : Int) := by omega
            repeat' (first | (apply aw_seq_k; intro K hK) | (refine aw_run hc (by first | exact aw_nod | (intro _; rw [ordB_w hw]; kernel_rfl) | (intro _; rw [ordB_w0 hw0]; kernel_rfl) | (intro _; kernel_rfl)) ?_; simp [List.zipIdx, h11, hil, hilI, hg, hgE, f4', hnl, hnlI, -getM, getM_hit, getM_miss, getM_none]; (repeat (simp (disch := first | omega | assumption | fail) only [if_pos, if_neg, wrap64]; try simp [List.zipIdx, h11, hil, hilI, hg, hgE, f4', hnl, hnlI, -getM, getM_hit, getM_miss, getM_none])); try (repeat' (refine guardQ_split (fun h => ?_) (fun h => ?_) <;> simp at h <;> (simp [List.zipIdx, h11, hil, hilI, hg, hgE, f4', hnl, hnlI, -getM, getM_hit, getM_miss, getM_none]; (repeat (simp (disch := first | omega | assumption | fail) only [if_pos, if_neg, wrap64]; try simp [List.zipIdx, h11, hil, hilI, hg, hgE, f4', hnl, hnlI, -getM, getM_hit, getM_miss, getM_none])))))) | (refine aw_cond (b := _) (by exact rfl) (fun h => ?_) (fun h => ?_) <;> (try simp at h)) | (refine aw_block ?_) | (refine aw_skip ?_; simp only [thenQ, blockQ, if_true]) | (refine aw_exit ?_; simp [thenQ, blockQ]) | (refine aw_ret ?_; simp only [thenQ, blockQ]) | (refine aw_round ?_) | (refine hK _ ?_; clear hK) | (clear hK; refine hK _ ?_; clear hK) | (clear hK; clear hK; refine hK _ ?_; clear hK) | (clear hK; clear hK; clear hK; refine hK _ ?_; clear hK))
            refine ⟨i + 1, ?_, by omega, by omega⟩
            simp only [← hR2]
            refine le_turn (s1 := ?tus4) (m1 := ?tum4) [] [48, 49, 50, 9] [48, 368] ?tua4 ?tub4 ?tuc4 ?tud4 ?tue4 ?tuf4 ?tug4
            case tua4 => first | (simp [keepS]; done) | (simp [keepS]; rfl)
            case tub4 => first | (simp; done) | (simp; rfl)
            case tuc4 => simp
            case tud4 => simp
            case tue4 => simp
            case tuf4 => simp
            case tug4 =>
              simp [swp, vr]
              exact le_of2 (by simp) (by simp [AVle, AV.under, AV.underL] <;> omega) (by simp [AOle, AO.under, AV.underL, AV.under] <;> omega)
          · obtain rfl : i = RL.length := by omega
            have hlI : ¬ (RL.length : Int) < (RL.length : Int) := by omega
            have he := ends_all hRK.all
            rw [List.take_length, he]
            repeat' (first | (apply aw_seq_k; intro K hK) | (refine aw_run hc (by first | exact aw_nod | (intro _; rw [ordB_w hw]; kernel_rfl) | (intro _; rw [ordB_w0 hw0]; kernel_rfl) | (intro _; kernel_rfl)) ?_; simp [List.zipIdx, h11, hlI, drows_nil, -getM, getM_hit, getM_miss, getM_none]; (repeat (simp (disch := first | omega | assumption | fail) only [if_pos, if_neg, wrap64]; try simp [List.zipIdx, h11, hlI, drows_nil, -getM, getM_hit, getM_miss, getM_none])); try (repeat' (refine guardQ_split (fun h => ?_) (fun h => ?_) <;> simp at h <;> (simp [List.zipIdx, h11, hlI, drows_nil, -getM, getM_hit, getM_miss, getM_none]; (repeat (simp (disch := first | omega | assumption | fail) only [if_pos, if_neg, wrap64]; try simp [List.zipIdx, h11, hlI, drows_nil, -getM, getM_hit, getM_miss, getM_none])))))) | (refine aw_cond (b := _) (by exact rfl) (fun h => ?_) (fun h => ?_) <;> (try simp at h)) | (refine aw_block ?_) | (refine aw_skip ?_; simp only [thenQ, blockQ, if_true]) | (refine aw_exit ?_; simp [thenQ, blockQ]) | (refine aw_ret ?_; simp only [thenQ, blockQ]) | (refine aw_round ?_) | (refine hK _ ?_; clear hK) | (clear hK; refine hK _ ?_; clear hK) | (clear hK; clear hK; refine hK _ ?_; clear hK) | (clear hK; clear hK; clear hK; refine hK _ ?_; clear hK))
            refine ⟨by simp, ?_⟩
            simp [leaves_iff, Try.f8]
            try (first | omega | (refine decide_eq_decide.2 ?_; omega) | (refine decide_eq_false ?_; omega) | (refine decide_eq_true ?_; omega))
    · generalize runR l m = O at f1 h2 hrl
      obtain ⟨O, e⟩ := O
      simp only at f1 h2 hrl
      repeat' (first | (apply aw_seq_k; intro K hK) | (refine aw_run hc (by first | exact aw_nod | (intro _; rw [ordB_w hw]; kernel_rfl) | (intro _; rw [ordB_w0 hw0]; kernel_rfl) | (intro _; kernel_rfl)) ?_; simp [List.zipIdx, h11, h10', h21, f1, h2, -getM, getM_hit, getM_miss, getM_none]; (repeat (simp (disch := first | omega | assumption | fail) only [if_pos, if_neg, wrap64]; try simp [List.zipIdx, h11, h10', h21, f1, h2, -getM, getM_hit, getM_miss, getM_none])); try (repeat' (refine guardQ_split (fun h => ?_) (fun h => ?_) <;> simp at h <;> (simp [List.zipIdx, h11, h10', h21, f1, h2, -getM, getM_hit, getM_miss, getM_none]; (repeat (simp (disch := first | omega | assumption | fail) only [if_pos, if_neg, wrap64]; try simp [List.zipIdx, h11, h10', h21, f1, h2, -getM, getM_hit, getM_miss, getM_none])))))) | (refine aw_cond (b := _) (by exact rfl) (fun h => ?_) (fun h => ?_) <;> (try simp at h)) | (refine aw_block ?_) | (refine aw_skip ?_; simp only [thenQ, blockQ, if_true]) | (refine aw_exit ?_; simp [thenQ, blockQ]) | (refine aw_ret ?_; simp only [thenQ, blockQ]) | (refine aw_round ?_) | (refine hK _ ?_; clear hK) | (clear hK; refine hK _ ?_; clear hK) | (clear hK; clear hK; refine hK _ ?_; clear hK) | (clear hK; clear hK; clear hK; refine hK _ ?_; clear hK))
      refine ⟨by simp, ?_⟩
      simp [leaves_iff, Try.f8]
      try (first | omega | (refine decide_eq_decide.2 ?_; omega) | (refine decide_eq_false ?_; omega) | (refine decide_eq_true ?_; omega))
  · rw [decide_eq_false h] at h10'
    generalize runR l m = O at f1 hrl
    obtain ⟨O, e⟩ := O
    simp only at f1 hrl
    rcases Decidable.em (e = 0) with h2 | h2
    · repeat' (first | (apply aw_seq_k; intro K hK) | (refine aw_run hc (by first | exact aw_nod | (intro _; rw [ordB_w hw]; kernel_rfl) | (intro _; rw [ordB_w0 hw0]; kernel_rfl) | (intro _; kernel_rfl)) ?_; simp [List.zipIdx, h11, h10', h21, f1, h2, -getM, getM_hit, getM_miss, getM_none]; (repeat (simp (disch := first | omega | assumption | fail) only [if_pos, if_neg, wrap64]; try simp [List.zipIdx, h11, h10', h21, f1, h2, -getM, getM_hit, getM_miss, getM_none])); try (repeat' (refine guardQ_split (fun h => ?_) (fun h => ?_) <;> simp at h <;> (simp [List.zipIdx, h11, h10', h21, f1, h2, -getM, getM_hit, getM_miss, getM_none]; (repeat (simp (disch := first | omega | assumption | fail) only [if_pos, if_neg, wrap64]; try simp [List.zipIdx, h11, h10', h21, f1, h2, -getM, getM_hit, getM_miss, getM_none])))))) | (refine aw_cond (b := _) (by exact rfl) (fun h => ?_) (fun h => ?_) <;> (try simp at h)) | (refine aw_block ?_) | (refine aw_skip ?_; simp only [thenQ, blockQ, if_true]) | (refine aw_exit ?_; simp [thenQ, blockQ]) | (refine aw_ret ?_; simp only [thenQ, blockQ]) | (refine aw_round ?_) | (refine hK _ ?_; clear hK) | (clear hK; refine hK _ ?_; clear hK) | (clear hK; clear hK; refine hK _ ?_; clear hK) | (clear hK; clear hK; clear hK; refine hK _ ?_; clear hK))
      refine ⟨by simp, ?_⟩
      simp [leaves_iff, Try.f8]
      try (first | omega | (refine decide_eq_decide.2 ?_; omega) | (refine decide_eq_false ?_; omega) | (refine decide_eq_true ?_; omega))
    · repeat' (first | (apply aw_seq_k; intro K hK) | (refine aw_run hc (by first | exact aw_nod | (intro _; rw [ordB_w hw]; kernel_rfl) | (intro _; rw [ordB_w0 hw0]; kernel_rfl) | (intro _; kernel_rfl)) ?_; simp [List.zipIdx, h11, h10', h21, f1, h2, -getM, getM_hit, getM_miss, getM_none]; (repeat (simp (disch := first | omega | assumption | fail) only [if_pos, if_neg, wrap64]; try simp [List.zipIdx, h11, h10', h21, f1, h2, -getM, getM_hit, getM_miss, getM_none])); try (repeat' (refine guardQ_split (fun h => ?_) (fun h => ?_) <;> simp at h <;> (simp [List.zipIdx, h11, h10', h21, f1, h2, -getM, getM_hit, getM_miss, getM_none]; (repeat (simp (disch := first | omega | assumption | fail) only [if_pos, if_neg, wrap64]; try simp [List.zipIdx, h11, h10', h21, f1, h2, -getM, getM_hit, getM_miss, getM_none])))))) | (refine aw_cond (b := _) (by exact rfl) (fun h => ?_) (fun h => ?_) <;> (try simp at h)) | (refine aw_block ?_) | (refine aw_skip ?_; simp only [thenQ, blockQ, if_true]) | (refine aw_exit ?_; simp [thenQ, blockQ]) | (refine aw_ret ?_; simp only [thenQ, blockQ]) | (refine aw_round ?_) | (refine hK _ ?_; clear hK) | (clear hK; refine hK _ ?_; clear hK) | (clear hK; clear hK; refine hK _ ?_; clear hK) | (clear hK; clear hK; clear hK; refine hK _ ?_; clear hK))
      refine ⟨by simp, ?_⟩
      simp [leaves_iff, Try.f8]
      try (first | omega | (refine decide_eq_decide.2 ?_; omega) | (refine decide_eq_false ?_; omega) | (refine decide_eq_true ?_; omega))
end Go.AM
