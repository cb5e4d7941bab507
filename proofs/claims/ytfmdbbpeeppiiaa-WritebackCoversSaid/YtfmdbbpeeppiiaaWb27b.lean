/- Writeback: the law Covers. -/
import Derived.Test.YtfmdbbpeeppiiaaWb26
set_option linter.all false

namespace Go.AM
open Go Go.Proofs

set_option maxRecDepth 20000 in
set_option maxHeartbeats 4000000 in
theorem s7 (X : AX) (hX : XOK Try.prog X) (hw : X.W wT) (heq : X.eqs 43 = true) (h10 : ∀ l M n, X.call 10 [.rd 3 (drows l)] M n = some (B (decide (l.length ≤ 100)), [])) (h21 : X.call 21 = callP F21)
    (h11 : ∀ M n, X.call 11 [] M n = some (B true, [])) : PSound Try.prog 7 (specF (ι := {x : List Tp × Int // x.1.length ≤ 9223372036854775807}) (fun x => [.rd 3 (drows x.1.1), I x.1.2]) fun _ => retOf [B true]) := by
  refine psound_spec hX mixed Try.func7 rfl fun ⟨⟨l, m⟩, hl⟩ w0 G => ⟨by show 2 ≤ 178; decide, rfl, ?_⟩
  show AW ⟨Try.prog, X, 178, w0, .pure G⟩ _ _ _
  have hc : Cx.OK ⟨Try.prog, X, 178, w0, .pure G⟩ := ⟨hX, mixed⟩
  have hl : l.length ≤ 9223372036854775807 := hl
  simp only
  have h10' := h10 l
  have f1 := F21_at l m hl
  have hrl := runR_len l m
  rcases Decidable.em (l.length ≤ 100) with h | h
  · rw [decide_eq_true h] at h10'
    rcases Decidable.em ((runR l m).2 = 0) with h2 | h2
    · have h0 : chkD l = 0 := Classical.byContradiction fun hh => by rw [runR_n hh] at h2; exact hh h2
      have hm : ¬ m < 1 := fun hh => by rw [runR_m h0 hh] at h2; simp at h2
      rw [runR_z h0 hm] at f1 hrl
      simp only at f1 hrl
      have hRK := runs_ok h0 (m := m) (by omega)
      obtain ⟨RL, hKe⟩ : ∃ K, K = runF (hasN l) m 4 := ⟨_, rfl⟩
      rw [← hKe] at hRK f1 hrl
      repeat' (first | (apply aw_seq_k; intro K hK) | (refine aw_run hc (by first | exact aw_nod | (intro _; rw [ordB_w hw]; kernel_rfl) | (intro _; rw [ordB_w0 hw0]; kernel_rfl) | (intro _; kernel_rfl)) ?_; simp [List.zipIdx, h11, h10', h21, f1, tkD, ty43, zi64_all, zi64_map, -getM, getM_hit, getM_miss, getM_none]; (repeat (simp (disch := first | omega | assumption | fail) only [if_pos, if_neg, wrap64]; try simp [List.zipIdx, h11, h10', h21, f1, tkD, ty43, zi64_all, zi64_map, -getM, getM_hit, getM_miss, getM_none])); try (repeat' (refine guardQ_split (fun h => ?_) (fun h => ?_) <;> simp at h <;> (simp [List.zipIdx, h11, h10', h21, f1, tkD, ty43, zi64_all, zi64_map, -getM, getM_hit, getM_miss, getM_none]; (repeat (simp (disch := first | omega | assumption | fail) only [if_pos, if_neg, wrap64]; try simp [List.zipIdx, h11, h10', h21, f1, tkD, ty43, zi64_all, zi64_map, -getM, getM_hit, getM_miss, getM_none])))))) | (refine aw_cond (b := _) (by exact rfl) (fun h => ?_) (fun h => ?_) <;> (try simp at h)) | (refine aw_block ?_) | (refine aw_skip ?_; simp only [thenQ, blockQ, if_true]) | (refine aw_exit ?_; simp [thenQ, blockQ]) | (refine aw_ret ?_; simp only [thenQ, blockQ]) | (refine aw_round ?_) | (refine hK _ ?_; clear hK) | (clear hK; refine hK _ ?_; clear hK) | (clear hK; clear hK; refine hK _ ?_; clear hK) | (clear hK; clear hK; clear hK; refine hK _ ?_; clear hK))
      have hcv0 : icl (cvR (RL.take 0)) = oi64 := by rw [List.take_zero]; exact icl_none fun c _ => rfl
      refine aw_loopK (s0 := ?lps1) (m0 := ?lpm1) (ι := {i : Nat // i ≤ RL.length}) [0, 1, 5, 7, 27, 28] (fun i => [(29, I i.1)]) (fun i => [(256, .box (ics (icl (cvR (RL.take i.1)))))]) (fun i => RL.length - i.1) ⟨0, by omega⟩ ?lhs1 ?lhm1 ?_ ?_
      case lhs1 => first | (simp [keepS]; done) | (simp [keepS]; rfl)
      case lhm1 => first | rfl | (simp; done) | (simp; rfl)
      · simp only [hcv0]
        exact le_of2 (by simp) (by simp [AVle, AV.under, AV.underL] <;> omega) (by simp [AOle, AO.under, AV.underL, AV.under] <;> omega)
      · rintro ⟨i, hi⟩
        simp only
        rcases Decidable.em (i < RL.length) with hil | hil
        · have hilI : (i : Int) < (RL.length : Int) := by omega
          have hg := drows_gi hil
          have hgE := drows_gE hil
          have hr := hRK.each _ (gd_mem hil)
          have hmore := fun a b k h1 h2 h3 => hRK.more (i := i) (a := a) (b := b) (k := k) hil h1 h2 h3
          have hcz := cntQ_zero RL i
          obtain ⟨S, hS⟩ : ∃ S, S = icl (cvR (RL.take i)) := ⟨_, rfl⟩
          rw [← hS] at hcz
          rw [← hS]
          have hcf := fun k h => cntQ_full (K := RL) (i := i) hil (k := k) h
          have hadj := fun r h1 h2 h3 => hRK.adj (r := r) (s := gd RL i) h1 (gd_mem hil) h2 h3
          obtain ⟨⟨x, y, z⟩, hm2⟩ : ∃ m, m = gd RL i := ⟨_, rfl⟩
          rw [← hm2] at hg hgE hr hmore hcf hadj
          simp only at hg hgE hmore hcf hadj
          unfold runK wrnN pgN at hr
          simp only at hr
          obtain ⟨⟨⟨⟨r1, r2⟩, r3, r4⟩, r5, r6⟩, r7, _, _⟩ := hr
          obtain ⟨a, rfl⟩ : ∃ a : Nat, x = (a : Int) := ⟨x.toNat, by omega⟩
          obtain ⟨b, rfl⟩ : ∃ b : Nat, y = (b : Int) := ⟨y.toNat, by omega⟩
          obtain ⟨c, rfl⟩ : ∃ c : Nat, z = (c : Int) := ⟨z.toNat, by omega⟩
          have q1 : ¬ (a : Int) < 0 := by omega
          have q2 : ¬ 4 ≤ a := by omega
          have q2I : ¬ 4 ≤ (a : Int) := by omega
          have q3 : ¬ (b : Int) < 0 := by omega
          have q4 : ¬ 16 ≤ b := by omega
          have q4I : ¬ 16 ≤ (b : Int) := by omega
          have q5 : ¬ (c : Int) < 1 := by omega
          have q5N : ¬ c = 0 := by omega
          have q6 : ¬ m < (c : Int) := by omega
          have q7 : ¬ 16 - (b : Int) < (c : Int) := by omega
          cases i with
          | zero =>
            have hi0 : (0 : Int) < (RL.length : Int) := by omega
            repeat' (first | (apply aw_seq_k; intro K hK) | (refine aw_run hc (by first | exact aw_nod | (intro _; rw [ordB_w hw]; kernel_rfl) | (intro _; rw [ordB_w0 hw0]; kernel_rfl) | (intro _; kernel_rfl)) ?_; simp [List.zipIdx, hil, hi0, hilI, hg, hgE, q1, q2, q2I, q3, q4, q4I, q5, q5N, q6, q7, -getM, getM_hit, getM_miss, getM_none]; (repeat (simp (disch := first | omega | assumption | fail) only [if_pos, if_neg, wrap64]; try simp [List.zipIdx, hil, hi0, hilI, hg, hgE, q1, q2, q2I, q3, q4, q4I, q5, q5N, q6, q7, -getM, getM_hit, getM_miss, getM_none])); try (repeat' (refine guardQ_split (fun h => ?_) (fun h => ?_) <;> simp at h <;> (simp [List.zipIdx, hil, hi0, hilI, hg, hgE, q1, q2, q2I, q3, q4, q4I, q5, q5N, q6, q7, -getM, getM_hit, getM_miss, getM_none]; (repeat (simp (disch := first | omega | assumption | fail) only [if_pos, if_neg, wrap64]; try simp [List.zipIdx, hil, hi0, hilI, hg, hgE, q1, q2, q2I, q3, q4, q4I, q5, q5N, q6, q7, -getM, getM_hit, getM_miss, getM_none])))))) | (refine aw_cond (b := _) (by exact rfl) (fun h => ?_) (fun h => ?_) <;> (try simp at h)) | (refine aw_block ?_) | (refine aw_skip ?_; simp only [thenQ, blockQ, if_true]) | (refine aw_exit ?_; simp [thenQ, blockQ]) | (refine aw_ret ?_; simp only [thenQ, blockQ]) | (refine aw_round ?_) | (refine hK _ ?_; clear hK) | (clear hK; refine hK _ ?_; clear hK) | (clear hK; clear hK; refine hK _ ?_; clear hK) | (clear hK; clear hK; clear hK; refine hK _ ?_; clear hK))
            refine aw_loopK (s0 := ?lps2) (m0 := ?lpm2) (ι := {k : Nat // k ≤ c}) [0, 1, 5, 7, 9, 27, 28, 29, 113] (fun k => [(114, I k.1)]) (fun k => [(256, .box (ics (icl (cntQ RL 0 k.1))))]) (fun k => c - k.1) ⟨0, by omega⟩ ?lhs2 ?lhm2 ?_ ?_
            case lhs2 => first | (simp [keepS]; done) | (simp [keepS]; rfl)
            case lhm2 => first | rfl | (simp; done) | (simp; rfl)
            · simp only [hcz]
              exact le_of2 (by simp) (by simp [AVle, AV.under, AV.underL] <;> omega) (by simp [AOle, AO.under, AV.underL, AV.under] <;> omega)
            · rintro ⟨k, hk⟩
              simp only
              rcases Decidable.em (k < c) with hkc | hkc
              · have hkI : (k : Int) < (c : Int) := by omega
                obtain ⟨hv0, hse⟩ := hmore a b k rfl rfl (by omega)
                obtain ⟨T, hT⟩ : ∃ T, T = icl (cntQ RL 0 k) := ⟨_, rfl⟩
                have hTl : T.length = 64 := by rw [hT, icl_len]
                rw [← hT] at hv0 hse
                rw [← hT]
                have hbk : b + k < 16 := by omega
                have hga := ics_get (l := T) (n := a * 16 + (b + k)) (by omega)
                rw [hv0] at hga
                have hgaE : ∀ h, (ics T)[a * 16 + (b + k)]'h = I 0 := fun h => by rw [List.getElem?_eq_getElem h] at hga; exact Option.some.inj hga
                have ha : a < 4 := by omega
                have hbkI : (b : Int) + (k : Int) = ((b + k : Nat) : Int) := by omega
                repeat' (first | (apply aw_seq_k; intro K hK) | (refine aw_run hc (by first | exact aw_nod | (intro _; rw [ordB_w hw]; kernel_rfl) | (intro _; rw [ordB_w0 hw0]; kernel_rfl) | (intro _; kernel_rfl)) ?_; simp [List.zipIdx, hkc, hkI, hga, hgaE, hTl, ha, hbk, ty43, ics_set, -getM, getM_hit, getM_miss, getM_none]; (repeat (simp (disch := first | omega | assumption | fail) only [if_pos, if_neg, wrap64]; try simp [List.zipIdx, hkc, hkI, hga, hgaE, hTl, ha, hbk, ty43, ics_set, -getM, getM_hit, getM_miss, getM_none])); try (repeat' (refine guardQ_split (fun h => ?_) (fun h => ?_) <;> simp at h <;> (simp [List.zipIdx, hkc, hkI, hga, hgaE, hTl, ha, hbk, ty43, ics_set, -getM, getM_hit, getM_miss, getM_none]; (repeat (simp (disch := first | omega | assumption | fail) only [if_pos, if_neg, wrap64]; try simp [List.zipIdx, hkc, hkI, hga, hgaE, hTl, ha, hbk, ty43, ics_set, -getM, getM_hit, getM_miss, getM_none])))))) | (refine aw_cond (b := _) (by exact rfl) (fun h => ?_) (fun h => ?_) <;> (try simp at h)) | (refine aw_block ?_) | (refine aw_skip ?_; simp only [thenQ, blockQ, if_true]) | (refine aw_exit ?_; simp [thenQ, blockQ]) | (refine aw_ret ?_; simp only [thenQ, blockQ]) | (refine aw_round ?_) | (refine hK _ ?_; clear hK) | (clear hK; refine hK _ ?_; clear hK) | (clear hK; clear hK; refine hK _ ?_; clear hK) | (clear hK; clear hK; clear hK; refine hK _ ?_; clear hK))
                refine ⟨k + 1, ?_, by omega, by omega⟩
                simp only [← hse]
                refine le_turn (s1 := ?tus3) (m1 := ?tum3) [] [0, 1, 5, 7, 9, 27, 28, 29, 113, 114] [48, 256, 384] ?tua3 ?tub3 ?tuc3 ?tud3 ?tue3 ?tuf3 ?tug3
                case tua3 => first | (simp [keepS]; done) | (simp [keepS]; rfl)
                case tub3 => first | (simp; done) | (simp; rfl)
                case tuc3 => simp
                case tud3 => simp
                case tue3 => simp
                case tuf3 => simp
                case tug3 =>
                  simp [swp, vr]
                  exact le_of2 (by simp) (by simp [AVle, AV.under, AV.underL] <;> omega) (by simp [AOle, AO.under, AV.underL, AV.under] <;> omega)
              · obtain rfl : k = c := by omega
                rw [hcf k rfl]
                have hkk : ¬ (k : Int) < (k : Int) := by omega
                repeat' (first | (apply aw_seq_k; intro K hK) | (refine aw_run hc (by first | exact aw_nod | (intro _; rw [ordB_w hw]; kernel_rfl) | (intro _; rw [ordB_w0 hw0]; kernel_rfl) | (intro _; kernel_rfl)) ?_; simp [List.zipIdx, hkk, -getM, getM_hit, getM_miss, getM_none]; (repeat (simp (disch := first | omega | assumption | fail) only [if_pos, if_neg, wrap64]; try simp [List.zipIdx, hkk, -getM, getM_hit, getM_miss, getM_none])); try (repeat' (refine guardQ_split (fun h => ?_) (fun h => ?_) <;> simp at h <;> (simp [List.zipIdx, hkk, -getM, getM_hit, getM_miss, getM_none]; (repeat (simp (disch := first | omega | assumption | fail) only [if_pos, if_neg, wrap64]; try simp [List.zipIdx, hkk, -getM, getM_hit, getM_miss, getM_none])))))) | (refine aw_cond (b := _) (by exact rfl) (fun h => ?_) (fun h => ?_) <;> (try simp at h)) | (refine aw_block ?_) | (refine aw_skip ?_; simp only [thenQ, blockQ, if_true]) | (refine aw_exit ?_; simp [thenQ, blockQ]) | (refine aw_ret ?_; simp only [thenQ, blockQ]) | (refine aw_round ?_) | (refine hK _ ?_; clear hK) | (clear hK; refine hK _ ?_; clear hK) | (clear hK; clear hK; refine hK _ ?_; clear hK) | (clear hK; clear hK; clear hK; refine hK _ ?_; clear hK))
                refine ⟨1, ?_, by omega, by omega⟩
                refine le_turn (s1 := ?tus4) (m1 := ?tum4) [] [0, 1, 5, 7, 27, 28, 29] [48, 256] ?tua4 ?tub4 ?tuc4 ?tud4 ?tue4 ?tuf4 ?tug4
                case tua4 => first | (simp [keepS]; done) | (simp [keepS]; rfl)
                case tub4 => first | (simp; done) | (simp; rfl)
                case tuc4 => simp
                case tud4 => simp
                case tue4 => simp
                case tuf4 => simp
                case tug4 =>
                  simp [swp, vr]
                  exact le_of2 (by simp) (by simp [AVle, AV.under, AV.underL] <;> omega) (by simp [AOle, AO.under, AV.underL, AV.under] <;> omega)
          | succ i =>
            have hil0 : i < RL.length := by omega
            have hilI0 : (i : Int) < (RL.length : Int) := by omega
            have hip : (0 : Int) < (i : Int) + 1 := by omega
            have hiI : (i : Int) + 1 < (RL.length : Int) := by omega
            have hg3 := drows_gi (l := RL) (n := i) hil0
            have hgE3 := drows_gE (l := RL) (n := i) hil0
            have had := hadj _ (gd_mem hil0)
            have hrp := (hRK.each _ (gd_mem hil0)).1
            obtain ⟨⟨u, v, t⟩, hm3⟩ : ∃ m, m = gd RL i := ⟨_, rfl⟩
            rw [← hm3] at hg3 hgE3 had hrp
            unfold wrnN pgN at hrp
            simp only at hg3 hgE3 had hrp
            have hwv : IntKind.i64.wrap (v + t) = v + t := wrap64 (by omega)
            rcases Decidable.em (u = (a : Int)) with p1 | p1
            · rcases Decidable.em (v + t = (b : Int)) with p2 | p2
              · have p3 := had p1 p2
                have p2' : v + m = (b : Int) := by rw [← p3]; exact p2
                rw [p3] at hwv
                repeat' (first | (apply aw_seq_k; intro K hK) | (refine aw_run hc (by first | exact aw_nod | (intro _; rw [ordB_w hw]; kernel_rfl) | (intro _; rw [ordB_w0 hw0]; kernel_rfl) | (intro _; kernel_rfl)) ?_; simp [List.zipIdx, hil, hil0, hilI0, hip, hiI, hilI, hg, hgE, hg3, hgE3, q1, q2, q2I, q3, q4, q4I, q5, q5N, q6, q7, p1, hwv, p2', p3, -getM, getM_hit, getM_miss, getM_none]; (repeat (simp (disch := first | omega | assumption | fail) only [if_pos, if_neg, wrap64]; try simp [List.zipIdx, hil, hil0, hilI0, hip, hiI, hilI, hg, hgE, hg3, hgE3, q1, q2, q2I, q3, q4, q4I, q5, q5N, q6, q7, p1, hwv, p2', p3, -getM, getM_hit, getM_miss, getM_none])); try (repeat' (refine guardQ_split (fun h => ?_) (fun h => ?_) <;> simp at h <;> (simp [List.zipIdx, hil, hil0, hilI0, hip, hiI, hilI, hg, hgE, hg3, hgE3, q1, q2, q2I, q3, q4, q4I, q5, q5N, q6, q7, p1, hwv, p2', p3, -getM, getM_hit, getM_miss, getM_none]; (repeat (simp (disch := first | omega | assumption | fail) only [if_pos, if_neg, wrap64]; try simp [List.zipIdx, hil, hil0, hilI0, hip, hiI, hilI, hg, hgE, hg3, hgE3, q1, q2, q2I, q3, q4, q4I, q5, q5N, q6, q7, p1, hwv, p2', p3, -getM, getM_hit, getM_miss, getM_none])))))) | (refine aw_cond (b := _) (by exact rfl) (fun h => ?_) (fun h => ?_) <;> (try simp at h)) | (refine aw_block ?_) | (refine aw_skip ?_; simp only [thenQ, blockQ, if_true]) | (refine aw_exit ?_; simp [thenQ, blockQ]) | (refine aw_ret ?_; simp only [thenQ, blockQ]) | (refine aw_round ?_) | (refine hK _ ?_; clear hK) | (clear hK; refine hK _ ?_; clear hK) | (clear hK; clear hK; refine hK _ ?_; clear hK) | (clear hK; clear hK; clear hK; refine hK _ ?_; clear hK))
                refine aw_loopK (s0 := ?lps5) (m0 := ?lpm5) (ι := {k : Nat // k ≤ c}) [0, 1, 5, 7, 9, 27, 28, 29, 113] (fun k => [(114, I k.1)]) (fun k => [(256, .box (ics (icl (cntQ RL (i + 1) k.1))))]) (fun k => c - k.1) ⟨0, by omega⟩ ?lhs5 ?lhm5 ?_ ?_
                case lhs5 => first | (simp [keepS]; done) | (simp [keepS]; rfl)
                case lhm5 => first | rfl | (simp; done) | (simp; rfl)
                · simp only [hcz]
                  exact le_of2 (by simp) (by simp [AVle, AV.under, AV.underL] <;> omega) (by simp [AOle, AO.under, AV.underL, AV.under] <;> omega)
                · rintro ⟨k, hk⟩
                  simp only
                  rcases Decidable.em (k < c) with hkc | hkc
                  · have hkI : (k : Int) < (c : Int) := by omega
                    obtain ⟨hv0, hse⟩ := hmore a b k rfl rfl (by omega)
                    obtain ⟨T, hT⟩ : ∃ T, T = icl (cntQ RL (i + 1) k) := ⟨_, rfl⟩
                    have hTl : T.length = 64 := by rw [hT, icl_len]
                    rw [← hT] at hv0 hse
                    rw [← hT]
                    have hbk : b + k < 16 := by omega
                    have hga := ics_get (l := T) (n := a * 16 + (b + k)) (by omega)
                    rw [hv0] at hga
                    have hgaE : ∀ h, (ics T)[a * 16 + (b + k)]'h = I 0 := fun h => by rw [List.getElem?_eq_getElem h] at hga; exact Option.some.inj hga
                    have ha : a < 4 := by omega
                    have hbkI : (b : Int) + (k : Int) = ((b + k : Nat) : Int) := by omega
                    repeat' (first | (apply aw_seq_k; intro K hK) | (refine aw_run hc (by first | exact aw_nod | (intro _; rw [ordB_w hw]; kernel_rfl) | (intro _; rw [ordB_w0 hw0]; kernel_rfl) | (intro _; kernel_rfl)) ?_; simp [List.zipIdx, hkc, hkI, hga, hgaE, hTl, ha, hbk, ty43, ics_set, -getM, getM_hit, getM_miss, getM_none]; (repeat (simp (disch := first | omega | assumption | fail) only [if_pos, if_neg, wrap64]; try simp [List.zipIdx, hkc, hkI, hga, hgaE, hTl, ha, hbk, ty43, ics_set, -getM, getM_hit, getM_miss, getM_none])); try (repeat' (refine guardQ_split (fun h => ?_) (fun h => ?_) <;> simp at h <;> (simp [List.zipIdx, hkc, hkI, hga, hgaE, hTl, ha, hbk, ty43, ics_set, -getM, getM_hit, getM_miss, getM_none]; (repeat (simp (disch := first | omega | assumption | fail) only [if_pos, if_neg, wrap64]; try simp [List.zipIdx, hkc, hkI, hga, hgaE, hTl, ha, hbk, ty43, ics_set, -getM, getM_hit, getM_miss, getM_none])))))) | (refine aw_cond (b := _) (by exact rfl) (fun h => ?_) (fun h => ?_) <;> (try simp at h)) | (refine aw_block ?_) | (refine aw_skip ?_; simp only [thenQ, blockQ, if_true]) | (refine aw_exit ?_; simp [thenQ, blockQ]) | (refine aw_ret ?_; simp only [thenQ, blockQ]) | (refine aw_round ?_) | (refine hK _ ?_; clear hK) | (clear hK; refine hK _ ?_; clear hK) | (clear hK; clear hK; refine hK _ ?_; clear hK) | (clear hK; clear hK; clear hK; refine hK _ ?_; clear hK))
                    refine ⟨k + 1, ?_, by omega, by omega⟩
                    simp only [← hse]
                    refine le_turn (s1 := ?tus6) (m1 := ?tum6) [] [0, 1, 5, 7, 9, 27, 28, 29, 113, 114] [48, 256, 384] ?tua6 ?tub6 ?tuc6 ?tud6 ?tue6 ?tuf6 ?tug6
                    case tua6 => first | (simp [keepS]; done) | (simp [keepS]; rfl)
                    case tub6 => first | (simp; done) | (simp; rfl)
                    case tuc6 => simp
                    case tud6 => simp
                    case tue6 => simp
                    case tuf6 => simp
                    case tug6 =>
                      simp [swp, vr]
                      exact le_of2 (by simp) (by simp [AVle, AV.under, AV.underL] <;> omega) (by simp [AOle, AO.under, AV.underL, AV.under] <;> omega)
                  · obtain rfl : k = c := by omega
                    rw [hcf k rfl]
                    have hkk : ¬ (k : Int) < (k : Int) := by omega
                    repeat' (first | (apply aw_seq_k; intro K hK) | (refine aw_run hc (by first | exact aw_nod | (intro _; rw [ordB_w hw]; kernel_rfl) | (intro _; rw [ordB_w0 hw0]; kernel_rfl) | (intro _; kernel_rfl)) ?_; simp [List.zipIdx, hkk, -getM, getM_hit, getM_miss, getM_none]; (repeat (simp (disch := first | omega | assumption | fail) only [if_pos, if_neg, wrap64]; try simp [List.zipIdx, hkk, -getM, getM_hit, getM_miss, getM_none])); try (repeat' (refine guardQ_split (fun h => ?_) (fun h => ?_) <;> simp at h <;> (simp [List.zipIdx, hkk, -getM, getM_hit, getM_miss, getM_none]; (repeat (simp (disch := first | omega | assumption | fail) only [if_pos, if_neg, wrap64]; try simp [List.zipIdx, hkk, -getM, getM_hit, getM_miss, getM_none])))))) | (refine aw_cond (b := _) (by exact rfl) (fun h => ?_) (fun h => ?_) <;> (try simp at h)) | (refine aw_block ?_) | (refine aw_skip ?_; simp only [thenQ, blockQ, if_true]) | (refine aw_exit ?_; simp [thenQ, blockQ]) | (refine aw_ret ?_; simp only [thenQ, blockQ]) | (refine aw_round ?_) | (refine hK _ ?_; clear hK) | (clear hK; refine hK _ ?_; clear hK) | (clear hK; clear hK; refine hK _ ?_; clear hK) | (clear hK; clear hK; clear hK; refine hK _ ?_; clear hK))
                    refine ⟨i + 1 + 1, ?_, by omega, by omega⟩
                    refine le_turn (s1 := ?tus7) (m1 := ?tum7) [] [0, 1, 5, 7, 27, 28, 29] [48, 256] ?tua7 ?tub7 ?tuc7 ?tud7 ?tue7 ?tuf7 ?tug7
                    case tua7 => first | (simp [keepS]; done) | (simp [keepS]; rfl)
                    case tub7 => first | (simp; done) | (simp; rfl)
                    case tuc7 => simp
                    case tud7 => simp
                    case tue7 => simp
                    case tuf7 => simp
                    case tug7 =>
                      simp [swp, vr]
                      exact le_of2 (by simp) (by simp [AVle, AV.under, AV.underL] <;> omega) (by simp [AOle, AO.under, AV.underL, AV.under] <;> omega)
              · repeat' (first | (apply aw_seq_k; intro K hK) | (refine aw_run hc (by first | exact aw_nod | (intro _; rw [ordB_w hw]; kernel_rfl) | (intro _; rw [ordB_w0 hw0]; kernel_rfl) | (intro _; kernel_rfl)) ?_; simp [List.zipIdx, hil, hil0, hilI0, hip, hiI, hilI, hg, hgE, hg3, hgE3, q1, q2, q2I, q3, q4, q4I, q5, q5N, q6, q7, p1, hwv, p2, -getM, getM_hit, getM_miss, getM_none]; (repeat (simp (disch := first | omega | assumption | fail) only [if_pos, if_neg, wrap64]; try simp [List.zipIdx, hil, hil0, hilI0, hip, hiI, hilI, hg, hgE, hg3, hgE3, q1, q2, q2I, q3, q4, q4I, q5, q5N, q6, q7, p1, hwv, p2, -getM, getM_hit, getM_miss, getM_none])); try (repeat' (refine guardQ_split (fun h => ?_) (fun h => ?_) <;> simp at h <;> (simp [List.zipIdx, hil, hil0, hilI0, hip, hiI, hilI, hg, hgE, hg3, hgE3, q1, q2, q2I, q3, q4, q4I, q5, q5N, q6, q7, p1, hwv, p2, -getM, getM_hit, getM_miss, getM_none]; (repeat (simp (disch := first | omega | assumption | fail) only [if_pos, if_neg, wrap64]; try simp [List.zipIdx, hil, hil0, hilI0, hip, hiI, hilI, hg, hgE, hg3, hgE3, q1, q2, q2I, q3, q4, q4I, q5, q5N, q6, q7, p1, hwv, p2, -getM, getM_hit, getM_miss, getM_none])))))) | (refine aw_cond (b := _) (by exact rfl) (fun h => ?_) (fun h => ?_) <;> (try simp at h)) | (refine aw_block ?_) | (refine aw_skip ?_; simp only [thenQ, blockQ, if_true]) | (refine aw_exit ?_; simp [thenQ, blockQ]) | (refine aw_ret ?_; simp only [thenQ, blockQ]) | (refine aw_round ?_) | (refine hK _ ?_; clear hK) | (clear hK; refine hK _ ?_; clear hK) | (clear hK; clear hK; refine hK _ ?_; clear hK) | (clear hK; clear hK; clear hK; refine hK _ ?_; clear hK))
                refine aw_loopK (s0 := ?lps8) (m0 := ?lpm8) (ι := {k : Nat // k ≤ c}) [0, 1, 5, 7, 9, 27, 28, 29, 113] (fun k => [(114, I k.1)]) (fun k => [(256, .box (ics (icl (cntQ RL (i + 1) k.1))))]) (fun k => c - k.1) ⟨0, by omega⟩ ?lhs8 ?lhm8 ?_ ?_
                case lhs8 => first | (simp [keepS]; done) | (simp [keepS]; rfl)
                case lhm8 => first | rfl | (simp; done) | (simp; rfl)
                · simp only [hcz]
                  exact le_of2 (by simp) (by simp [AVle, AV.under, AV.underL] <;> omega) (by simp [AOle, AO.under, AV.underL, AV.under] <;> omega)
                · rintro ⟨k, hk⟩
                  simp only
                  rcases Decidable.em (k < c) with hkc | hkc
                  · have hkI : (k : Int) < (c : Int) := by omega
                    obtain ⟨hv0, hse⟩ := hmore a b k rfl rfl (by omega)
                    obtain ⟨T, hT⟩ : ∃ T, T = icl (cntQ RL (i + 1) k) := ⟨_, rfl⟩
                    have hTl : T.length = 64 := by rw [hT, icl_len]
                    rw [← hT] at hv0 hse
                    rw [← hT]
                    have hbk : b + k < 16 := by omega
                    have hga := ics_get (l := T) (n := a * 16 + (b + k)) (by omega)
                    rw [hv0] at hga
                    have hgaE : ∀ h, (ics T)[a * 16 + (b + k)]'h = I 0 := fun h => by rw [List.getElem?_eq_getElem h] at hga; exact Option.some.inj hga
                    have ha : a < 4 := by omega
                    have hbkI : (b : Int) + (k : Int) = ((b + k : Nat) : Int) := by omega
                    repeat' (first | (apply aw_seq_k; intro K hK) | (refine aw_run hc (by first | exact aw_nod | (intro _; rw [ordB_w hw]; kernel_rfl) | (intro _; rw [ordB_w0 hw0]; kernel_rfl) | (intro _; kernel_rfl)) ?_; simp [List.zipIdx, hkc, hkI, hga, hgaE, hTl, ha, hbk, ty43, ics_set, -getM, getM_hit, getM_miss, getM_none]; (repeat (simp (disch := first | omega | assumption | fail) only [if_pos, if_neg, wrap64]; try simp [List.zipIdx, hkc, hkI, hga, hgaE, hTl, ha, hbk, ty43, ics_set, -getM, getM_hit, getM_miss, getM_none])); try (repeat' (refine guardQ_split (fun h => ?_) (fun h => ?_) <;> simp at h <;> (simp [List.zipIdx, hkc, hkI, hga, hgaE, hTl, ha, hbk, ty43, ics_set, -getM, getM_hit, getM_miss, getM_none]; (repeat (simp (disch := first | omega | assumption | fail) only [if_pos, if_neg, wrap64]; try simp [List.zipIdx, hkc, hkI, hga, hgaE, hTl, ha, hbk, ty43, ics_set, -getM, getM_hit, getM_miss, getM_none])))))) | (refine aw_cond (b := _) (by exact rfl) (fun h => ?_) (fun h => ?_) <;> (try simp at h)) | (refine aw_block ?_) | (refine aw_skip ?_; simp only [thenQ, blockQ, if_true]) | (refine aw_exit ?_; simp [thenQ, blockQ]) | (refine aw_ret ?_; simp only [thenQ, blockQ]) | (refine aw_round ?_) | (refine hK _ ?_; clear hK) | (clear hK; refine hK _ ?_; clear hK) | (clear hK; clear hK; refine hK _ ?_; clear hK) | (clear hK; clear hK; clear hK; refine hK _ ?_; clear hK))
                    refine ⟨k + 1, ?_, by omega, by omega⟩
                    simp only [← hse]
                    refine le_turn (s1 := ?tus9) (m1 := ?tum9) [] [0, 1, 5, 7, 9, 27, 28, 29, 113, 114] [48, 256, 384] ?tua9 ?tub9 ?tuc9 ?tud9 ?tue9 ?tuf9 ?tug9
                    case tua9 => first | (simp [keepS]; done) | (simp [keepS]; rfl)
                    case tub9 => first | (simp; done) | (simp; rfl)
                    case tuc9 => simp
                    case tud9 => simp
                    case tue9 => simp
                    case tuf9 => simp
                    case tug9 =>
                      simp [swp, vr]
                      exact le_of2 (by simp) (by simp [AVle, AV.under, AV.underL] <;> omega) (by simp [AOle, AO.under, AV.underL, AV.under] <;> omega)
                  · obtain rfl : k = c := by omega
                    rw [hcf k rfl]
                    have hkk : ¬ (k : Int) < (k : Int) := by omega
                    repeat' (first | (apply aw_seq_k; intro K hK) | (refine aw_run hc (by first | exact aw_nod | (intro _; rw [ordB_w hw]; kernel_rfl) | (intro _; rw [ordB_w0 hw0]; kernel_rfl) | (intro _; kernel_rfl)) ?_; simp [List.zipIdx, hkk, -getM, getM_hit, getM_miss, getM_none]; (repeat (simp (disch := first | omega | assumption | fail) only [if_pos, if_neg, wrap64]; try simp [List.zipIdx, hkk, -getM, getM_hit, getM_miss, getM_none])); try (repeat' (refine guardQ_split (fun h => ?_) (fun h => ?_) <;> simp at h <;> (simp [List.zipIdx, hkk, -getM, getM_hit, getM_miss, getM_none]; (repeat (simp (disch := first | omega | assumption | fail) only [if_pos, if_neg, wrap64]; try simp [List.zipIdx, hkk, -getM, getM_hit, getM_miss, getM_none])))))) | (refine aw_cond (b := _) (by exact rfl) (fun h => ?_) (fun h => ?_) <;> (try simp at h)) | (refine aw_block ?_) | (refine aw_skip ?_; simp only [thenQ, blockQ, if_true]) | (refine aw_exit ?_; simp [thenQ, blockQ]) | (refine aw_ret ?_; simp only [thenQ, blockQ]) | (refine aw_round ?_) | (refine hK _ ?_; clear hK) | (clear hK; refine hK _ ?_; clear hK) | (clear hK; clear hK; refine hK _ ?_; clear hK) | (clear hK; clear hK; clear hK; refine hK _ ?_; clear hK))
                    refine ⟨i + 1 + 1, ?_, by omega, by omega⟩
                    refine le_turn (s1 := ?tus10) (m1 := ?tum10) [] [0, 1, 5, 7, 27, 28, 29] [48, 256] ?tua10 ?tub10 ?tuc10 ?tud10 ?tue10 ?tuf10 ?tug10
                    case tua10 => first | (simp [keepS]; done) | (simp [keepS]; rfl)
                    case tub10 => first | (simp; done) | (simp; rfl)
                    case tuc10 => simp
                    case tud10 => simp
                    case tue10 => simp
                    case tuf10 => simp
                    case tug10 =>
                      simp [swp, vr]
                      exact le_of2 (by simp) (by simp [AVle, AV.under, AV.underL] <;> omega) (by simp [AOle, AO.under, AV.underL, AV.under] <;> omega)
            · repeat' (first | (apply aw_seq_k; intro K hK) | (refine aw_run hc (by first | exact aw_nod | (intro _; rw [ordB_w hw]; kernel_rfl) | (intro _; rw [ordB_w0 hw0]; kernel_rfl) | (intro _; kernel_rfl)) ?_; simp [List.zipIdx, hil, hil0, hilI0, hip, hiI, hilI, hg, hgE, hg3, hgE3, q1, q2, q2I, q3, q4, q4I, q5, q5N, q6, q7, p1, hwv, -getM, getM_hit, getM_miss, getM_none]; (repeat (simp (disch := first | omega | assumption | fail) only [if_pos, if_neg, wrap64]; try simp [List.zipIdx, hil, hil0, hilI0, hip, hiI, hilI, hg, hgE, hg3, hgE3, q1, q2, q2I, q3, q4, q4I, q5, q5N, q6, q7, p1, hwv, -getM, getM_hit, getM_miss, getM_none])); try (repeat' (refine guardQ_split (fun h => ?_) (fun h => ?_) <;> simp at h <;> (simp [List.zipIdx, hil, hil0, hilI0, hip, hiI, hilI, hg, hgE, hg3, hgE3, q1, q2, q2I, q3, q4, q4I, q5, q5N, q6, q7, p1, hwv, -getM, getM_hit, getM_miss, getM_none]; (repeat (simp (disch := first | omega | assumption | fail) only [if_pos, if_neg, wrap64]; try simp [List.zipIdx, hil, hil0, hilI0, hip, hiI, hilI, hg, hgE, hg3, hgE3, q1, q2, q2I, q3, q4, q4I, q5, q5N, q6, q7, p1, hwv, -getM, getM_hit, getM_miss, getM_none])))))) | (refine aw_cond (b := _) (by exact rfl) (fun h => ?_) (fun h => ?_) <;> (try simp at h)) | (refine aw_block ?_) | (refine aw_skip ?_; simp only [thenQ, blockQ, if_true]) | (refine aw_exit ?_; simp [thenQ, blockQ]) | (refine aw_ret ?_; simp only [thenQ, blockQ]) | (refine aw_round ?_) | (refine hK _ ?_; clear hK) | (clear hK; refine hK _ ?_; clear hK) | (clear hK; clear hK; refine hK _ ?_; clear hK) | (clear hK; clear hK; clear hK; refine hK _ ?_; clear hK))
              refine aw_loopK (s0 := ?lps11) (m0 := ?lpm11) (ι := {k : Nat // k ≤ c}) [0, 1, 5, 7, 9, 27, 28, 29, 113] (fun k => [(114, I k.1)]) (fun k => [(256, .box (ics (icl (cntQ RL (i + 1) k.1))))]) (fun k => c - k.1) ⟨0, by omega⟩ ?lhs11 ?lhm11 ?_ ?_
              case lhs11 => first | (simp [keepS]; done) | (simp [keepS]; rfl)
              case lhm11 => first | rfl | (simp; done) | (simp; rfl)
              · simp only [hcz]
                exact le_of2 (by simp) (by simp [AVle, AV.under, AV.underL] <;> omega) (by simp [AOle, AO.under, AV.underL, AV.under] <;> omega)
              · rintro ⟨k, hk⟩
                simp only
                rcases Decidable.em (k < c) with hkc | hkc
                · have hkI : (k : Int) < (c : Int) := by omega
                  obtain ⟨hv0, hse⟩ := hmore a b k rfl rfl (by omega)
                  obtain ⟨T, hT⟩ : ∃ T, T = icl (cntQ RL (i + 1) k) := ⟨_, rfl⟩
                  have hTl : T.length = 64 := by rw [hT, icl_len]
                  rw [← hT] at hv0 hse
                  rw [← hT]
                  have hbk : b + k < 16 := by omega
                  have hga := ics_get (l := T) (n := a * 16 + (b + k)) (by omega)
                  rw [hv0] at hga
                  have hgaE : ∀ h, (ics T)[a * 16 + (b + k)]'h = I 0 := fun h => by rw [List.getElem?_eq_getElem h] at hga; exact Option.some.inj hga
                  have ha : a < 4 := by omega
                  have hbkI : (b : Int) + (k : Int) = ((b + k : Nat) : Int) := by omega
                  repeat' (first | (apply aw_seq_k; intro K hK) | (refine aw_run hc (by first | exact aw_nod | (intro _; rw [ordB_w hw]; kernel_rfl) | (intro _; rw [ordB_w0 hw0]; kernel_rfl) | (intro _; kernel_rfl)) ?_; simp [List.zipIdx, hkc, hkI, hga, hgaE, hTl, ha, hbk, ty43, ics_set, -getM, getM_hit, getM_miss, getM_none]; (repeat (simp (disch := first | omega | assumption | fail) only [if_pos, if_neg, wrap64]; try simp [List.zipIdx, hkc, hkI, hga, hgaE, hTl, ha, hbk, ty43, ics_set, -getM, getM_hit, getM_miss, getM_none])); try (repeat' (refine guardQ_split (fun h => ?_) (fun h => ?_) <;> simp at h <;> (simp [List.zipIdx, hkc, hkI, hga, hgaE, hTl, ha, hbk, ty43, ics_set, -getM, getM_hit, getM_miss, getM_none]; (repeat (simp (disch := first | omega | assumption | fail) only [if_pos, if_neg, wrap64]; try simp [List.zipIdx, hkc, hkI, hga, hgaE, hTl, ha, hbk, ty43, ics_set, -getM, getM_hit, getM_miss, getM_none])))))) | (refine aw_cond (b := _) (by exact rfl) (fun h => ?_) (fun h => ?_) <;> (try simp at h)) | (refine aw_block ?_) | (refine aw_skip ?_; simp only [thenQ, blockQ, if_true]) | (refine aw_exit ?_; simp [thenQ, blockQ]) | (refine aw_ret ?_; simp only [thenQ, blockQ]) | (refine aw_round ?_) | (refine hK _ ?_; clear hK) | (clear hK; refine hK _ ?_; clear hK) | (clear hK; clear hK; refine hK _ ?_; clear hK) | (clear hK; clear hK; clear hK; refine hK _ ?_; clear hK))
                  refine ⟨k + 1, ?_, by omega, by omega⟩
                  simp only [← hse]
                  refine le_turn (s1 := ?tus12) (m1 := ?tum12) [] [0, 1, 5, 7, 9, 27, 28, 29, 113, 114] [48, 256, 384] ?tua12 ?tub12 ?tuc12 ?tud12 ?tue12 ?tuf12 ?tug12
                  case tua12 => first | (simp [keepS]; done) | (simp [keepS]; rfl)
                  case tub12 => first | (simp; done) | (simp; rfl)
                  case tuc12 => simp
                  case tud12 => simp
                  case tue12 => simp
                  case tuf12 => simp
                  case tug12 =>
                    simp [swp, vr]
                    exact le_of2 (by simp) (by simp [AVle, AV.under, AV.underL] <;> omega) (by simp [AOle, AO.under, AV.underL, AV.under] <;> omega)
                · obtain rfl : k = c := by omega
                  rw [hcf k rfl]
                  have hkk : ¬ (k : Int) < (k : Int) := by omega
                  repeat' (first | (apply aw_seq_k; intro K hK) | (refine aw_run hc (by first | exact aw_nod | (intro _; rw [ordB_w hw]; kernel_rfl) | (intro _; rw [ordB_w0 hw0]; kernel_rfl) | (intro _; kernel_rfl)) ?_; simp [List.zipIdx, hkk, -getM, getM_hit, getM_miss, getM_none]; (repeat (simp (disch := first | omega | assumption | fail) only [if_pos, if_neg, wrap64]; try simp [List.zipIdx, hkk, -getM, getM_hit, getM_miss, getM_none])); try (repeat' (refine guardQ_split (fun h => ?_) (fun h => ?_) <;> simp at h <;> (simp [List.zipIdx, hkk, -getM, getM_hit, getM_miss, getM_none]; (repeat (simp (disch := first | omega | assumption | fail) only [if_pos, if_neg, wrap64]; try simp [List.zipIdx, hkk, -getM, getM_hit, getM_miss, getM_none])))))) | (refine aw_cond (b := _) (by exact rfl) (fun h => ?_) (fun h => ?_) <;> (try simp at h)) | (refine aw_block ?_) | (refine aw_skip ?_; simp only [thenQ, blockQ, if_true]) | (refine aw_exit ?_; simp [thenQ, blockQ]) | (refine aw_ret ?_; simp only [thenQ, blockQ]) | (refine aw_round ?_) | (refine hK _ ?_; clear hK) | (clear hK; refine hK _ ?_; clear hK) | (clear hK; clear hK; refine hK _ ?_; clear hK) | (clear hK; clear hK; clear hK; refine hK _ ?_; clear hK))
                  refine ⟨i + 1 + 1, ?_, by omega, by omega⟩
                  refine le_turn (s1 := ?tus13) (m1 := ?tum13) [] [0, 1, 5, 7, 27, 28, 29] [48, 256] ?tua13 ?tub13 ?tuc13 ?tud13 ?tue13 ?tuf13 ?tug13
                  case tua13 => first | (simp [keepS]; done) | (simp [keepS]; rfl)
                  case tub13 => first | (simp; done) | (simp; rfl)
                  case tuc13 => simp
                  case tud13 => simp
                  case tue13 => simp
                  case tuf13 => simp
                  case tug13 =>
                    simp [swp, vr]
                    exact le_of2 (by simp) (by simp [AVle, AV.under, AV.underL] <;> omega) (by simp [AOle, AO.under, AV.underL, AV.under] <;> omega)
        · obtain rfl : i = RL.length := by omega
          rw [List.take_length]
          repeat' (first | (apply aw_seq_k; intro K hK) | (refine aw_run hc (by first | exact aw_nod | (intro _; rw [ordB_w hw]; kernel_rfl) | (intro _; rw [ordB_w0 hw0]; kernel_rfl) | (intro _; kernel_rfl)) ?_; simp [List.zipIdx, -getM, getM_hit, getM_miss, getM_none]; (repeat (simp (disch := first | omega | assumption | fail) only [if_pos, if_neg, wrap64]; try simp [List.zipIdx, -getM, getM_hit, getM_miss, getM_none])); try (repeat' (refine guardQ_split (fun h => ?_) (fun h => ?_) <;> simp at h <;> (simp [List.zipIdx, -getM, getM_hit, getM_miss, getM_none]; (repeat (simp (disch := first | omega | assumption | fail) only [if_pos, if_neg, wrap64]; try simp [List.zipIdx, -getM, getM_hit, getM_miss, getM_none])))))) | (refine aw_cond (b := _) (by exact rfl) (fun h => ?_) (fun h => ?_) <;> (try simp at h)) | (refine aw_block ?_) | (refine aw_skip ?_; simp only [thenQ, blockQ, if_true]) | (refine aw_exit ?_; simp [thenQ, blockQ]) | (refine aw_ret ?_; simp only [thenQ, blockQ]) | (refine aw_round ?_) | (refine hK _ ?_; clear hK) | (clear hK; refine hK _ ?_; clear hK) | (clear hK; clear hK; refine hK _ ?_; clear hK) | (clear hK; clear hK; clear hK; refine hK _ ?_; clear hK))
          refine aw_loopK (s0 := ?lps14) (m0 := ?lpm14) (ι := {i : Nat // i ≤ l.length}) [7, 131, 132] (fun i => [(133, I i.1)]) (fun i => [(256, .box (ics (icl (rstQ RL l i.1))))]) (fun i => l.length - i.1) ⟨0, by omega⟩ ?lhs14 ?lhm14 ?_ ?_
          case lhs14 => first | (simp [keepS]; done) | (simp [keepS]; rfl)
          case lhm14 => first | rfl | (simp; done) | (simp; rfl)
          · simp only [rstQ_zero]
            exact le_of2 (by simp) (by simp [AVle, AV.under, AV.underL] <;> omega) (by simp [AOle, AO.under, AV.underL, AV.under] <;> omega)
          · rintro ⟨i, hi2⟩
            simp only
            rcases Decidable.em (i < l.length) with hil2 | hil2
            · have hilI2 : (i : Int) < (l.length : Int) := by omega
              have hg := drows_gi hil2
              have hgE := drows_gE hil2
              have hpg := ((chk_zero.1 h0).1 i hil2).1
              have hstep := fun a b h1 h2 => rst_step (a := a) (b := b) h0 hRK hil2 h1 h2
              obtain ⟨⟨x, y, z⟩, hm2⟩ : ∃ m, m = gd l i := ⟨_, rfl⟩
              rw [← hm2] at hg hgE hpg hstep
              unfold pgN at hpg
              simp only at hg hgE hpg hstep
              obtain ⟨⟨r1, r2⟩, r3, r4⟩ := hpg
              obtain ⟨a, rfl⟩ : ∃ a : Nat, x = (a : Int) := ⟨x.toNat, by omega⟩
              obtain ⟨b, rfl⟩ : ∃ b : Nat, y = (b : Int) := ⟨y.toNat, by omega⟩
              have q1 : ¬ (a : Int) < 0 := by omega
              have q2 : ¬ 4 ≤ a := by omega
              have q2I : ¬ 4 ≤ (a : Int) := by omega
              have q3 : ¬ (b : Int) < 0 := by omega
              have q4 : ¬ 16 ≤ b := by omega
              have q4I : ¬ 16 ≤ (b : Int) := by omega
              have ha : a < 4 := by omega
              have hb : b < 16 := by omega
              obtain ⟨hv0, hse⟩ := hstep a b rfl rfl
              obtain ⟨T, hT⟩ : ∃ T, T = icl (rstQ RL l i) := ⟨_, rfl⟩
              have hTl : T.length = 64 := by rw [hT, icl_len]
              rw [← hT] at hv0 hse
              rw [← hT]
              have hga := ics_get (l := T) (n := a * 16 + b) (by omega)
              rw [hv0] at hga
              have hgaE : ∀ h, (ics T)[a * 16 + b]'h = I 1 := fun h => by rw [List.getElem?_eq_getElem h] at hga; exact Option.some.inj hga
              repeat' (first | (apply aw_seq_k; intro K hK) | (refine aw_run hc (by first | exact aw_nod | (intro _; rw [ordB_w hw]; kernel_rfl) | (intro _; rw [ordB_w0 hw0]; kernel_rfl) | (intro _; kernel_rfl)) ?_; simp [List.zipIdx, hil2, hilI2, hg, hgE, q1, q2, q2I, q3, q4, q4I, hga, hgaE, hTl, ha, hb, ty43, ics_set, -getM, getM_hit, getM_miss, getM_none]; (repeat (simp (disch := first | omega | assumption | fail) only [if_pos, if_neg, wrap64]; try simp [List.zipIdx, hil2, hilI2, hg, hgE, q1, q2, q2I, q3, q4, q4I, hga, hgaE, hTl, ha, hb, ty43, ics_set, -getM, getM_hit, getM_miss, getM_none])); try (repeat' (refine guardQ_split (fun h => ?_) (fun h => ?_) <;> simp at h <;> (simp [List.zipIdx, hil2, hilI2, hg, hgE, q1, q2, q2I, q3, q4, q4I, hga, hgaE, hTl, ha, hb, ty43, ics_set, -getM, getM_hit, getM_miss, getM_none]; (repeat (simp (disch := first | omega | assumption | fail) only [if_pos, if_neg, wrap64]; try simp [List.zipIdx, hil2, hilI2, hg, hgE, q1, q2, q2I, q3, q4, q4I, hga, hgaE, hTl, ha, hb, ty43, ics_set, -getM, getM_hit, getM_miss, getM_none])))))) | (refine aw_cond (b := _) (by exact rfl) (fun h => ?_) (fun h => ?_) <;> (try simp at h)) | (refine aw_block ?_) | (refine aw_skip ?_; simp only [thenQ, blockQ, if_true]) | (refine aw_exit ?_; simp [thenQ, blockQ]) | (refine aw_ret ?_; simp only [thenQ, blockQ]) | (refine aw_round ?_) | (refine hK _ ?_; clear hK) | (clear hK; refine hK _ ?_; clear hK) | (clear hK; clear hK; refine hK _ ?_; clear hK) | (clear hK; clear hK; clear hK; refine hK _ ?_; clear hK))
              refine ⟨i + 1, ?_, by omega, by omega⟩
              simp only [← hse]
              refine le_turn (s1 := ?tus15) (m1 := ?tum15) [] [0, 1, 5, 7, 131, 132, 133] [48, 256] ?tua15 ?tub15 ?tuc15 ?tud15 ?tue15 ?tuf15 ?tug15
              case tua15 => first | (simp [keepS]; done) | (simp [keepS]; rfl)
              case tub15 => first | (simp; done) | (simp; rfl)
              case tuc15 => simp
              case tud15 => simp
              case tue15 => simp
              case tuf15 => simp
              case tug15 =>
                simp [swp, vr]
                exact le_of2 (by simp) (by simp [AVle, AV.under, AV.underL] <;> omega) (by simp [AOle, AO.under, AV.underL, AV.under] <;> omega)
            · obtain rfl : i = l.length := by omega
              have hnl : ¬ (l.length : Int) < (l.length : Int) := by omega
              rw [rst_end h0 hRK]
              have e1 := eqL_ics (a := oi64) (b := oi64) rfl
              rw [decide_eq_true rfl] at e1
              have e2 : sameK zi64 (ics oi64) = true := sameK_ics (n := 64) (by simp [oi64])
              have hol : oi64.length = 64 := by simp [oi64]
              have htk : List.take 64 (ics oi64) = ics oi64 := List.take_of_length_le (by simp [hol])
              repeat' (first | (apply aw_seq_k; intro K hK) | (refine aw_run hc (by first | exact aw_nod | (intro _; rw [ordB_w hw]; kernel_rfl) | (intro _; rw [ordB_w0 hw0]; kernel_rfl) | (intro _; kernel_rfl)) ?_; simp [List.zipIdx, hnl, h11, ty43, zi64_all, zi64_map, heq, e1, e2, hol, htk, -getM, getM_hit, getM_miss, getM_none]; (repeat (simp (disch := first | omega | assumption | fail) only [if_pos, if_neg, wrap64]; try simp [List.zipIdx, hnl, h11, ty43, zi64_all, zi64_map, heq, e1, e2, hol, htk, -getM, getM_hit, getM_miss, getM_none])); try (repeat' (refine guardQ_split (fun h => ?_) (fun h => ?_) <;> simp at h <;> (simp [List.zipIdx, hnl, h11, ty43, zi64_all, zi64_map, heq, e1, e2, hol, htk, -getM, getM_hit, getM_miss, getM_none]; (repeat (simp (disch := first | omega | assumption | fail) only [if_pos, if_neg, wrap64]; try simp [List.zipIdx, hnl, h11, ty43, zi64_all, zi64_map, heq, e1, e2, hol, htk, -getM, getM_hit, getM_miss, getM_none])))))) | (refine aw_cond (b := _) (by exact rfl) (fun h => ?_) (fun h => ?_) <;> (try simp at h)) | (refine aw_block ?_) | (refine aw_skip ?_; simp only [thenQ, blockQ, if_true]) | (refine aw_exit ?_; simp [thenQ, blockQ]) | (refine aw_ret ?_; simp only [thenQ, blockQ]) | (refine aw_round ?_) | (refine hK _ ?_; clear hK) | (clear hK; refine hK _ ?_; clear hK) | (clear hK; clear hK; refine hK _ ?_; clear hK) | (clear hK; clear hK; clear hK; refine hK _ ?_; clear hK))
              refine ⟨by simp, ?_⟩
              simp [leaves_iff, Try.f7]
              try (first | omega | (refine decide_eq_decide.2 ?_; omega) | (refine decide_eq_false ?_; omega) | (refine decide_eq_true ?_; omega))
    · generalize runR l m = O at f1 h2 hrl
      obtain ⟨O, e⟩ := O
      simp only at f1 h2 hrl
      repeat' (first | (apply aw_seq_k; intro K hK) | (refine aw_run hc (by first | exact aw_nod | (intro _; rw [ordB_w hw]; kernel_rfl) | (intro _; rw [ordB_w0 hw0]; kernel_rfl) | (intro _; kernel_rfl)) ?_; simp [List.zipIdx, h11, h10', h21, f1, h2, -getM, getM_hit, getM_miss, getM_none]; (repeat (simp (disch := first | omega | assumption | fail) only [if_pos, if_neg, wrap64]; try simp [List.zipIdx, h11, h10', h21, f1, h2, -getM, getM_hit, getM_miss, getM_none])); try (repeat' (refine guardQ_split (fun h => ?_) (fun h => ?_) <;> simp at h <;> (simp [List.zipIdx, h11, h10', h21, f1, h2, -getM, getM_hit, getM_miss, getM_none]; (repeat (simp (disch := first | omega | assumption | fail) only [if_pos, if_neg, wrap64]; try simp [List.zipIdx, h11, h10', h21, f1, h2, -getM, getM_hit, getM_miss, getM_none])))))) | (refine aw_cond (b := _) (by exact rfl) (fun h => ?_) (fun h => ?_) <;> (try simp at h)) | (refine aw_block ?_) | (refine aw_skip ?_; simp only [thenQ, blockQ, if_true]) | (refine aw_exit ?_; simp [thenQ, blockQ]) | (refine aw_ret ?_; simp only [thenQ, blockQ]) | (refine aw_round ?_) | (refine hK _ ?_; clear hK) | (clear hK; refine hK _ ?_; clear hK) | (clear hK; clear hK; refine hK _ ?_; clear hK) | (clear hK; clear hK; clear hK; refine hK _ ?_; clear hK))
      refine ⟨by simp, ?_⟩
      simp [leaves_iff, Try.f7]
      try (first | omega | (refine decide_eq_decide.2 ?_; omega) | (refine decide_eq_false ?_; omega) | (refine decide_eq_true ?_; omega))
  · rw [decide_eq_false h] at h10'
    generalize runR l m = O at f1 hrl
    obtain ⟨O, e⟩ := O
    simp only at f1 hrl
    repeat' (first | (apply aw_seq_k; intro K hK) | (refine aw_run hc (by first | exact aw_nod | (intro _; rw [ordB_w hw]; kernel_rfl) | (intro _; rw [ordB_w0 hw0]; kernel_rfl) | (intro _; kernel_rfl)) ?_; simp [List.zipIdx, h11, h10', h21, f1, -getM, getM_hit, getM_miss, getM_none]; (repeat (simp (disch := first | omega | assumption | fail) only [if_pos, if_neg, wrap64]; try simp [List.zipIdx, h11, h10', h21, f1, -getM, getM_hit, getM_miss, getM_none])); try (repeat' (refine guardQ_split (fun h => ?_) (fun h => ?_) <;> simp at h <;> (simp [List.zipIdx, h11, h10', h21, f1, -getM, getM_hit, getM_miss, getM_none]; (repeat (simp (disch := first | omega | assumption | fail) only [if_pos, if_neg, wrap64]; try simp [List.zipIdx, h11, h10', h21, f1, -getM, getM_hit, getM_miss, getM_none])))))) | (refine aw_cond (b := _) (by exact rfl) (fun h => ?_) (fun h => ?_) <;> (try simp at h)) | (refine aw_block ?_) | (refine aw_skip ?_; simp only [thenQ, blockQ, if_true]) | (refine aw_exit ?_; simp [thenQ, blockQ]) | (refine aw_ret ?_; simp only [thenQ, blockQ]) | (refine aw_round ?_) | (refine hK _ ?_; clear hK) | (clear hK; refine hK _ ?_; clear hK) | (clear hK; clear hK; refine hK _ ?_; clear hK) | (clear hK; clear hK; clear hK; refine hK _ ?_; clear hK))
    refine ⟨by simp, ?_⟩
    simp [leaves_iff, Try.f7]
    try (first | omega | (refine decide_eq_decide.2 ?_; omega) | (refine decide_eq_false ?_; omega) | (refine decide_eq_true ?_; omega))
end Go.AM
