/- Writeback: taking the next page again and again gives the order of writing. -/
import Derived.Test.YtfmdbbpeeppiiaaWb18
set_option linter.all false

namespace Go.AM
open Go Go.Proofs

theorem mem_chkV {l : List Tp} : chkV l ↔ ∀ p ∈ l, pgN p.1 p.2.1 ∧ 0 ≤ p.2.2 := by
  constructor
  · intro h p hp
    obtain ⟨j, hj, rfl⟩ := List.getElem_of_mem hp
    have := h j hj
    rwa [gd_eq hj] at this
  · intro h j hj
    exact h _ (gd_mem hj)
theorem chk_sub {l R : List Tp} (h : chkD l = 0) (hm : ∀ p ∈ R, p ∈ l) (hn : (R.map plc).Nodup) : chkD R = 0 := by
  obtain ⟨hv, _⟩ := chk_zero.1 h
  exact chk_zero.2 ⟨mem_chkV.2 fun p hp => mem_chkV.1 hv p (hm p hp), hn⟩
/-- One step: the next page is the first one of what is still to come. -/
theorem step_next {R T : List Tp} {p : Tp} (h0 : chkD R = 0) (hp : R.Perm (p :: T)) (hs : ∀ q ∈ T, ¬ ltD q p) : ∃ k : Nat, k < R.length ∧ nxtR R = k ∧ gd R k = p ∧ (R.take k ++ R.drop (k + 1)).Perm T := by
  have hne : R ≠ [] := fun e => by rw [e] at hp; simp at hp
  have hpos : 0 < R.length := List.length_pos_iff.2 hne
  obtain ⟨j, hj, hj2⟩ := mnP_at R (R.length - 1)
  have hmR : mnL R ∈ R := by unfold mnL; rw [hj2]; exact gd_mem (by omega)
  have hle : ∀ q ∈ R, ¬ ltD q (mnL R) := fun q hq => by
    obtain ⟨i, hi, rfl⟩ := List.getElem_of_mem hq
    rw [← gd_eq hi]
    exact mnP_le R (by omega)
  have hm : mnL R = p := by
    have h1 := hle p (hp.mem_iff.2 (by simp))
    rcases List.mem_cons.1 (hp.mem_iff.1 hmR) with h | h
    · exact h
    · have h2 := hs _ h
      rcases stoD.tri (mnL R) p with h3 | h3 | h3
      · exact absurd h3 h2
      · exact h3
      · exact absurd h3 h1
  rw [nxtR_z hne h0, hm]
  rcases fstD_cases (eqD p) R with ⟨_, h⟩ | ⟨k, hk, h1, h2, _⟩
  · obtain ⟨i, hi, e⟩ := List.getElem_of_mem (hp.mem_iff.2 (show p ∈ p :: T by simp))
    have := h i hi
    rw [gd_eq hi, e] at this
    simp [eqD] at this
  · have hg : gd R k = p := by simpa [eqD] using h2
    refine ⟨k, hk, h1, hg, ?_⟩
    have hR : R = R.take k ++ gd R k :: R.drop (k + 1) := by rw [gd_eq hk, List.getElem_cons_drop, List.take_append_drop]
    have h3 : R.Perm (p :: (R.take k ++ R.drop (k + 1))) := by
      conv => lhs; rw [hR, hg]
      exact List.perm_middle
    exact (h3.symm.trans hp).cons_inv

set_option maxHeartbeats 2000000 in
theorem s9 (X : AX) (L : LawX X) (h11 : ∀ M n, X.call 11 [] M n = some (B true, [])) : PSound Try.prog 9 (specF (ι := {l : List Tp // l.length ≤ 9223372036854775807}) (fun x => [.rd 3 (drows x.1)]) fun _ => retOf [B true]) := by
  have hX := L.ok
  have hw := L.w
  have heq := L.eq
  refine psound_spec hX mixed Try.func9 rfl fun ⟨l, hl⟩ w0 G => ⟨by show 1 ≤ 76; decide, rfl, ?_⟩
  show AW ⟨Try.prog, X, 76, w0, .pure G⟩ _ _ _
  have hc : Cx.OK ⟨Try.prog, X, 76, w0, .pure G⟩ := ⟨hX, mixed⟩
  have hl : l.length ≤ 9223372036854775807 := hl
  have h10' := L.h10 l
  have f1 := F13_at l hl
  rcases Decidable.em (l.length ≤ 100) with h | h
  · rw [decide_eq_true h] at h10'
    rcases Decidable.em (chkD l = 0) with h0 | h0
    · rw [ordR_z h0] at f1
      simp only at f1
      have hOs := stoD.sort_sorted l
      have hOp := sortG_perm (lt := ltD) l
      obtain ⟨O, hO⟩ : ∃ O, O = sortG ltD l := ⟨_, rfl⟩
      rw [← hO] at f1 hOs hOp
      have hOl : O.length = l.length := hOp.length_eq
      have f2 := F28_at l (by omega)
      repeat' (first | (apply aw_seq_k; intro K hK) | (refine aw_run hc (by first | exact aw_nod | (intro _; rw [ordB_w hw]; kernel_rfl) | (intro _; rw [ordB_w0 hw0]; kernel_rfl) | (intro _; kernel_rfl)) ?_; simp [List.zipIdx, h11, h10', L.h12, L.h28, f1, f2, tkD, -getM, getM_hit, getM_miss, getM_none]; (repeat (simp (disch := first | omega | assumption | fail) only [if_pos, if_neg, wrap64]; try simp [List.zipIdx, h11, h10', L.h12, L.h28, f1, f2, tkD, -getM, getM_hit, getM_miss, getM_none])); try (repeat' (refine guardQ_split (fun h => ?_) (fun h => ?_) <;> simp at h <;> (simp [List.zipIdx, h11, h10', L.h12, L.h28, f1, f2, tkD, -getM, getM_hit, getM_miss, getM_none]; (repeat (simp (disch := first | omega | assumption | fail) only [if_pos, if_neg, wrap64]; try simp [List.zipIdx, h11, h10', L.h12, L.h28, f1, f2, tkD, -getM, getM_hit, getM_miss, getM_none])))))) | (refine aw_cond (b := _) (by exact rfl) (fun h => ?_) (fun h => ?_) <;> (try simp at h)) | (refine aw_block ?_) | (refine aw_skip ?_; simp only [thenQ, blockQ, if_true]) | (refine aw_exit ?_; simp [thenQ, blockQ]) | (refine aw_ret ?_; simp only [thenQ, blockQ]) | (refine aw_round ?_) | (refine hK _ ?_; clear hK) | (clear hK; refine hK _ ?_; clear hK) | (clear hK; clear hK; refine hK _ ?_; clear hK) | (clear hK; clear hK; clear hK; refine hK _ ?_; clear hK))
      refine aw_loopK (s0 := ?lps1) (m0 := ?lpm1) (ι := {x : Nat × List Tp // x.1 ≤ O.length ∧ x.2.Perm (O.drop x.1)}) [3, 24, 25] (fun x => [(26, I x.1.1), (5, .sl 256 1 3 0 x.1.2.length)]) (fun x => [(32, .vec 1 3 false (drows O)), (256, .vec 1 3 false (drows x.1.2))]) (fun x => O.length - x.1.1) ⟨(0, l), by omega, by simpa using hOp.symm⟩ ?lhs1 ?lhm1 ?_ ?_
      case lhs1 => first | (simp [keepS]; done) | (simp [keepS]; rfl)
      case lhm1 => first | rfl | (simp; done) | (simp; rfl)
      · exact le_of2 (by simp) (by simp [AVle, AV.under, AV.underL] <;> omega) (by simp [AOle, AO.under, AV.underL, AV.under] <;> omega)
      · rintro ⟨⟨i, R⟩, hi, hR⟩
        simp only at hi hR ⊢
        have hRl : R.length = O.length - i := by rw [hR.length_eq, List.length_drop]
        rcases Decidable.em (i < O.length) with hil | hil
        · have hilI : (i : Int) < (O.length : Int) := by omega
          have hg := drows_gi hil
          have hgE := drows_gE hil
          rw [drop_gd hil] at hR
          have hRm : ∀ p ∈ R, p ∈ l := fun p hp => hOp.mem_iff.1 (by rw [hR.mem_iff] at hp; rw [← List.take_append_drop i O, drop_gd hil]; exact List.mem_append_right _ hp)
          have hRn : (R.map plc).Nodup := by
            have h1 : (l.map plc).Nodup := (chk_zero.1 h0).2
            have h2 : (O.map plc).Nodup := ((hOp.map plc).nodup_iff).2 h1
            refine ((hR.map plc).nodup_iff).2 (List.Nodup.sublist ?_ h2)
            rw [← drop_gd hil]
            exact (List.drop_sublist i O).map plc
          obtain ⟨k, hk, h2, h3, h4⟩ := step_next (chk_sub h0 hRm hRn) hR fun q hq => by
            obtain ⟨j, hj, rfl⟩ := List.getElem_of_mem hq
            rw [List.getElem_drop]
            have hj' : i + 1 + j < O.length := by simp at hj; omega
            have := List.pairwise_iff_getElem.1 hOs i (i + 1 + j) (by omega) hj' (by omega)
            rw [gd_eq hil]
            exact this
          have f3 := nxtF_at R (by omega)
          rw [h2] at f3
          have hkI : (k : Int) < (R.length : Int) := by omega
          have hkN : ¬ R.length ≤ k := by omega
          have hk0 : ¬ (k : Int) < 0 := by omega
          have hg2 := drows_gi hk
          have hgE2 := drows_gE hk
          rw [h3] at hg2 hgE2
          have f4 := F29_at R k (k + 1) ⟨by omega, by omega, by omega⟩
          rw [show ((k + 1 : Nat) : Int) = (k : Int) + 1 by omega] at f4
          obtain ⟨R2, hR2⟩ : ∃ R2, R2 = R.take k ++ R.drop (k + 1) := ⟨_, rfl⟩
          rw [← hR2] at h4 f4
          have hR2l : R2.length = O.length - (i + 1) := by rw [h4.length_eq, List.length_drop]
          obtain ⟨⟨x, y, z⟩, hm⟩ : ∃ m, m = gd O i := ⟨_, rfl⟩
          rw [← hm] at hg hgE hg2 hgE2
          simp only at hg hgE hg2 hgE2
          cases i with
          | zero =>
            have hi0 : (0 : Int) < (O.length : Int) := by omega
            repeat' (first | (apply aw_seq_k; intro K hK) | (refine aw_run hc (by first | exact aw_nod | (intro _; rw [ordB_w hw]; kernel_rfl) | (intro _; rw [ordB_w0 hw0]; kernel_rfl) | (intro _; kernel_rfl)) ?_; simp [List.zipIdx, h11, hil, hi0, hilI, hkN, hk0, hg, hgE, L.h16, f3, hkI, hg2, hgE2, L.h29, f4, heq, eqL, tkD, three3, -getM, getM_hit, getM_miss, getM_none]; (repeat (simp (disch := first | omega | assumption | fail) only [if_pos, if_neg, wrap64]; try simp [List.zipIdx, h11, hil, hi0, hilI, hkN, hk0, hg, hgE, L.h16, f3, hkI, hg2, hgE2, L.h29, f4, heq, eqL, tkD, three3, -getM, getM_hit, getM_miss, getM_none])); try (repeat' (refine guardQ_split (fun h => ?_) (fun h => ?_) <;> simp at h <;> (simp [List.zipIdx, h11, hil, hi0, hilI, hkN, hk0, hg, hgE, L.h16, f3, hkI, hg2, hgE2, L.h29, f4, heq, eqL, tkD, three3, -getM, getM_hit, getM_miss, getM_none]; (repeat (simp (disch := first | omega | assumption | fail) only [if_pos, if_neg, wrap64]; try simp [List.zipIdx, h11, hil, hi0, hilI, hkN, hk0, hg, hgE, L.h16, f3, hkI, hg2, hgE2, L.h29, f4, heq, eqL, tkD, three3, -getM, getM_hit, getM_miss, getM_none])))))) | (refine aw_cond (b := _) (by exact rfl) (fun h => ?_) (fun h => ?_) <;> (try simp at h)) | (refine aw_block ?_) | (refine aw_skip ?_; simp only [thenQ, blockQ, if_true]) | (refine aw_exit ?_; simp [thenQ, blockQ]) | (refine aw_ret ?_; simp only [thenQ, blockQ]) | (refine aw_round ?_) | (refine hK _ ?_; clear hK) | (clear hK; refine hK _ ?_; clear hK) | (clear hK; clear hK; refine hK _ ?_; clear hK) | (clear hK; clear hK; clear hK; refine hK _ ?_; clear hK))
            refine ⟨1, R2, ?_, ⟨by omega, h4⟩, by omega⟩
            refine le_turn (s1 := ?tus2) (m1 := ?tum2) [(1056, 256)] [3, 24, 25, 26, 5] [32, 1056] ?tua2 ?tub2 ?tuc2 ?tud2 ?tue2 ?tuf2 ?tug2
            case tua2 => first | (simp [keepS]; done) | (simp [keepS]; rfl)
            case tub2 => first | (simp; done) | (simp; rfl)
            case tuc2 => simp
            case tud2 => simp
            case tue2 => simp
            case tuf2 => simp
            case tug2 =>
              simp [swp, vr]
              exact le_of2 (by simp) (by simp [AVle, AV.under, AV.underL] <;> omega) (by simp [AOle, AO.under, AV.underL, AV.under] <;> omega)
          | succ i =>
            have hg3 := drows_gi (l := O) (n := i) (by omega)
            have hgE3 := drows_gE (l := O) (n := i) (by omega)
            have hi0 : (i : Int) + 1 < (O.length : Int) := by omega
            have hzt : ¬ z < (gd O i).2.2 := by
              have := List.pairwise_iff_getElem.1 hOs i (i + 1) (by omega) hil (by omega)
              rw [← gd_eq hil, ← gd_eq (show i < O.length by omega), ← hm] at this
              unfold leG ltD at this
              simp only at this
              omega
            have hip : (0 : Int) < (i : Int) + 1 := by omega
            have his : i < O.length := by omega
            have hisI : (i : Int) < (O.length : Int) := by omega
            repeat' (first | (apply aw_seq_k; intro K hK) | (refine aw_run hc (by first | exact aw_nod | (intro _; rw [ordB_w hw]; kernel_rfl) | (intro _; rw [ordB_w0 hw0]; kernel_rfl) | (intro _; kernel_rfl)) ?_; simp [List.zipIdx, h11, hil, hi0, hip, his, hisI, hilI, hkN, hk0, hg, hgE, L.h16, f3, hkI, hg2, hgE2, L.h29, f4, heq, eqL, tkD, three3, hg3, hgE3, hzt, -getM, getM_hit, getM_miss, getM_none]; (repeat (simp (disch := first | omega | assumption | fail) only [if_pos, if_neg, wrap64]; try simp [List.zipIdx, h11, hil, hi0, hip, his, hisI, hilI, hkN, hk0, hg, hgE, L.h16, f3, hkI, hg2, hgE2, L.h29, f4, heq, eqL, tkD, three3, hg3, hgE3, hzt, -getM, getM_hit, getM_miss, getM_none])); try (repeat' (refine guardQ_split (fun h => ?_) (fun h => ?_) <;> simp at h <;> (simp [List.zipIdx, h11, hil, hi0, hip, his, hisI, hilI, hkN, hk0, hg, hgE, L.h16, f3, hkI, hg2, hgE2, L.h29, f4, heq, eqL, tkD, three3, hg3, hgE3, hzt, -getM, getM_hit, getM_miss, getM_none]; (repeat (simp (disch := first | omega | assumption | fail) only [if_pos, if_neg, wrap64]; try simp [List.zipIdx, h11, hil, hi0, hip, his, hisI, hilI, hkN, hk0, hg, hgE, L.h16, f3, hkI, hg2, hgE2, L.h29, f4, heq, eqL, tkD, three3, hg3, hgE3, hzt, -getM, getM_hit, getM_miss, getM_none])))))) | (refine aw_cond (b := _) (by exact rfl) (fun h => ?_) (fun h => ?_) <;> (try simp at h)) | (refine aw_block ?_) | (refine aw_skip ?_; simp only [thenQ, blockQ, if_true]) | (refine aw_exit ?_; simp [thenQ, blockQ]) | (refine aw_ret ?_; simp only [thenQ, blockQ]) | (refine aw_round ?_) | (refine hK _ ?_; clear hK) | (clear hK; refine hK _ ?_; clear hK) | (clear hK; clear hK; refine hK _ ?_; clear hK) | (clear hK; clear hK; clear hK; refine hK _ ?_; clear hK))
            refine ⟨i + 1 + 1, R2, ?_, ⟨by omega, h4⟩, by omega⟩
            refine le_turn (s1 := ?tus3) (m1 := ?tum3) [(1056, 256)] [3, 24, 25, 26, 5] [32, 1056] ?tua3 ?tub3 ?tuc3 ?tud3 ?tue3 ?tuf3 ?tug3
            case tua3 => first | (simp [keepS]; done) | (simp [keepS]; rfl)
            case tub3 => first | (simp; done) | (simp; rfl)
            case tuc3 => simp
            case tud3 => simp
            case tue3 => simp
            case tuf3 => simp
            case tug3 =>
              simp [swp, vr]
              exact le_of2 (by simp) (by simp [AVle, AV.under, AV.underL] <;> omega) (by simp [AOle, AO.under, AV.underL, AV.under] <;> omega)
        · obtain rfl : i = O.length := by omega
          have hRn : R = [] := List.eq_nil_of_length_eq_zero (by omega)
          subst hRn
          repeat' (first | (apply aw_seq_k; intro K hK) | (refine aw_run hc (by first | exact aw_nod | (intro _; rw [ordB_w hw]; kernel_rfl) | (intro _; rw [ordB_w0 hw0]; kernel_rfl) | (intro _; kernel_rfl)) ?_; simp [List.zipIdx, h11, drows_nil, -getM, getM_hit, getM_miss, getM_none]; (repeat (simp (disch := first | omega | assumption | fail) only [if_pos, if_neg, wrap64]; try simp [List.zipIdx, h11, drows_nil, -getM, getM_hit, getM_miss, getM_none])); try (repeat' (refine guardQ_split (fun h => ?_) (fun h => ?_) <;> simp at h <;> (simp [List.zipIdx, h11, drows_nil, -getM, getM_hit, getM_miss, getM_none]; (repeat (simp (disch := first | omega | assumption | fail) only [if_pos, if_neg, wrap64]; try simp [List.zipIdx, h11, drows_nil, -getM, getM_hit, getM_miss, getM_none])))))) | (refine aw_cond (b := _) (by exact rfl) (fun h => ?_) (fun h => ?_) <;> (try simp at h)) | (refine aw_block ?_) | (refine aw_skip ?_; simp only [thenQ, blockQ, if_true]) | (refine aw_exit ?_; simp [thenQ, blockQ]) | (refine aw_ret ?_; simp only [thenQ, blockQ]) | (refine aw_round ?_) | (refine hK _ ?_; clear hK) | (clear hK; refine hK _ ?_; clear hK) | (clear hK; clear hK; refine hK _ ?_; clear hK) | (clear hK; clear hK; clear hK; refine hK _ ?_; clear hK))
          refine ⟨by simp, ?_⟩
          simp [leaves_iff, Try.f9]
          try (first | omega | (refine decide_eq_decide.2 ?_; omega) | (refine decide_eq_false ?_; omega) | (refine decide_eq_true ?_; omega))
    · rw [ordR_n h0] at f1
      simp only at f1
      repeat' (first | (apply aw_seq_k; intro K hK) | (refine aw_run hc (by first | exact aw_nod | (intro _; rw [ordB_w hw]; kernel_rfl) | (intro _; rw [ordB_w0 hw0]; kernel_rfl) | (intro _; kernel_rfl)) ?_; simp [List.zipIdx, h11, h10', L.h12, f1, h0, -getM, getM_hit, getM_miss, getM_none]; (repeat (simp (disch := first | omega | assumption | fail) only [if_pos, if_neg, wrap64]; try simp [List.zipIdx, h11, h10', L.h12, f1, h0, -getM, getM_hit, getM_miss, getM_none])); try (repeat' (refine guardQ_split (fun h => ?_) (fun h => ?_) <;> simp at h <;> (simp [List.zipIdx, h11, h10', L.h12, f1, h0, -getM, getM_hit, getM_miss, getM_none]; (repeat (simp (disch := first | omega | assumption | fail) only [if_pos, if_neg, wrap64]; try simp [List.zipIdx, h11, h10', L.h12, f1, h0, -getM, getM_hit, getM_miss, getM_none])))))) | (refine aw_cond (b := _) (by exact rfl) (fun h => ?_) (fun h => ?_) <;> (try simp at h)) | (refine aw_block ?_) | (refine aw_skip ?_; simp only [thenQ, blockQ, if_true]) | (refine aw_exit ?_; simp [thenQ, blockQ]) | (refine aw_ret ?_; simp only [thenQ, blockQ]) | (refine aw_round ?_) | (refine hK _ ?_; clear hK) | (clear hK; refine hK _ ?_; clear hK) | (clear hK; clear hK; refine hK _ ?_; clear hK) | (clear hK; clear hK; clear hK; refine hK _ ?_; clear hK))
      refine ⟨by simp, ?_⟩
      simp [leaves_iff, Try.f9]
      try (first | omega | (refine decide_eq_decide.2 ?_; omega) | (refine decide_eq_false ?_; omega) | (refine decide_eq_true ?_; omega))
  · rw [decide_eq_false h] at h10'
    generalize ordR l = O at f1
    obtain ⟨O, e⟩ := O
    simp only at f1
    repeat' (first | (apply aw_seq_k; intro K hK) | (refine aw_run hc (by first | exact aw_nod | (intro _; rw [ordB_w hw]; kernel_rfl) | (intro _; rw [ordB_w0 hw0]; kernel_rfl) | (intro _; kernel_rfl)) ?_; simp [List.zipIdx, h11, h10', L.h12, f1, -getM, getM_hit, getM_miss, getM_none]; (repeat (simp (disch := first | omega | assumption | fail) only [if_pos, if_neg, wrap64]; try simp [List.zipIdx, h11, h10', L.h12, f1, -getM, getM_hit, getM_miss, getM_none])); try (repeat' (refine guardQ_split (fun h => ?_) (fun h => ?_) <;> simp at h <;> (simp [List.zipIdx, h11, h10', L.h12, f1, -getM, getM_hit, getM_miss, getM_none]; (repeat (simp (disch := first | omega | assumption | fail) only [if_pos, if_neg, wrap64]; try simp [List.zipIdx, h11, h10', L.h12, f1, -getM, getM_hit, getM_miss, getM_none])))))) | (refine aw_cond (b := _) (by exact rfl) (fun h => ?_) (fun h => ?_) <;> (try simp at h)) | (refine aw_block ?_) | (refine aw_skip ?_; simp only [thenQ, blockQ, if_true]) | (refine aw_exit ?_; simp [thenQ, blockQ]) | (refine aw_ret ?_; simp only [thenQ, blockQ]) | (refine aw_round ?_) | (refine hK _ ?_; clear hK) | (clear hK; refine hK _ ?_; clear hK) | (clear hK; clear hK; refine hK _ ?_; clear hK) | (clear hK; clear hK; clear hK; refine hK _ ?_; clear hK))
    refine ⟨by simp, ?_⟩
    simp [leaves_iff, Try.f9]
    try (first | omega | (refine decide_eq_decide.2 ?_; omega) | (refine decide_eq_false ?_; omega) | (refine decide_eq_true ?_; omega))
end Go.AM
