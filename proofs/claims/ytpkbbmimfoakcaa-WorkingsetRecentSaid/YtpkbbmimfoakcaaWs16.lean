/- Workingset: the law Recent. -/
import Derived.Test.YtpkbbmimfoakcaaWs15
set_option linter.all false

namespace Go.AM
open Go Go.Proofs

theorem ddl_nis (W : List Nat) (x : Nat) : ddl (nis (x :: W)) = if x ∈ W then ddl (nis W) else (x : Int) :: ddl (nis W) := by
  show ddl ((x : Int) :: nis W) = _
  simp only [ddl, nis_mem]
theorem take_cut {l : List Nat} {i m : Nat} {V : List Nat} (hm : m < l.length) (h : l.take i = l.take (m + 1) ++ V) : l.take i = l.take m ++ (gn l m :: V) := by
  rw [h, take_succ_gn hm, List.append_assoc]; rfl

set_option maxHeartbeats 2000000 in
theorem s9 (X : AX) (L : LawX X) (h11 : ∀ M n, X.call 11 [] M n = some (B true, [])) : PSound Try.prog 9 (specF (ι := {x : List Nat × Nat // (∀ y ∈ x.1, y < 256) ∧ x.2 < 256}) (fun x => [.rd 1 (urows x.1.1), U x.1.2]) fun _ => retOf [B true]) := by
  have hX := L.ok
  have hw := L.w
  refine psound_spec hX mixed Try.func9 rfl fun ⟨⟨l, s⟩, hb, hs⟩ w0 G => ⟨by show 2 ≤ 116; decide, rfl, ?_⟩
  show AW ⟨Try.prog, X, 116, w0, .pure G⟩ _ _ _
  have hc : Cx.OK ⟨Try.prog, X, 116, w0, .pure G⟩ := ⟨hX, mixed⟩
  simp only at hb hs ⊢
  rcases Decidable.em (200 < (l.length : Int)) with h | h
  · repeat' (first | (apply aw_seq_k; intro K hK) | (refine aw_run hc (by first | exact aw_nod | (intro _; rw [ordB_w hw]; kernel_rfl) | (intro _; rw [ordB_w0 hw0]; kernel_rfl) | (intro _; kernel_rfl)) ?_; simp [List.zipIdx, h11, h, -getM, getM_hit, getM_miss, getM_none]; (repeat (simp (disch := first | omega | assumption | fail) only [if_pos, if_neg, wrap64]; try simp [List.zipIdx, h11, h, -getM, getM_hit, getM_miss, getM_none])); try (repeat' (refine guardQ_split (fun h => ?_) (fun h => ?_) <;> simp at h <;> (simp [List.zipIdx, h11, h, -getM, getM_hit, getM_miss, getM_none]; (repeat (simp (disch := first | omega | assumption | fail) only [if_pos, if_neg, wrap64]; try simp [List.zipIdx, h11, h, -getM, getM_hit, getM_miss, getM_none])))))) | (refine aw_cond (b := _) (by exact rfl) (fun h => ?_) (fun h => ?_) <;> (try simp at h)) | (refine aw_block ?_) | (refine aw_skip ?_; simp only [thenQ, blockQ, if_true]) | (refine aw_exit ?_; simp [thenQ, blockQ]) | (refine aw_ret ?_; simp only [thenQ, blockQ]) | (refine aw_round ?_) | (refine hK _ ?_; clear hK) | (clear hK; refine hK _ ?_; clear hK) | (clear hK; clear hK; refine hK _ ?_; clear hK) | (clear hK; clear hK; clear hK; refine hK _ ?_; clear hK))
    refine ⟨by simp, ?_⟩
    simp [leaves_iff, Try.f9]
    try (first | omega | (refine decide_eq_decide.2 ?_; omega) | (refine decide_eq_false ?_; omega) | (refine decide_eq_true ?_; omega))
  · unfold U
    have h200 := h
    obtain ⟨c, hcc⟩ : ∃ c, c = s % 12 := ⟨_, rfl⟩
    have hc12 : c < 12 := by omega
    have e12 := tmod12 s
    rw [← hcc] at e12
    have hap : ∀ (A : List Int) (x : Int), irows A ++ [[I x]] = irows (A ++ [x]) := fun A x => by rw [irows_one, irows_append]
    repeat' (first | (apply aw_seq_k; intro K hK) | (refine aw_run hc (by first | exact aw_nod | (intro _; rw [ordB_w hw]; kernel_rfl) | (intro _; rw [ordB_w0 hw0]; kernel_rfl) | (intro _; kernel_rfl)) ?_; simp [List.zipIdx, h11, h, e12, -getM, getM_hit, getM_miss, getM_none]; (repeat (simp (disch := first | omega | assumption | fail) only [if_pos, if_neg, wrap64, wrap8]; try simp [List.zipIdx, h11, h, e12, -getM, getM_hit, getM_miss, getM_none])); try (repeat' (refine guardQ_split (fun h => ?_) (fun h => ?_) <;> simp at h <;> (simp [List.zipIdx, h11, h, e12, -getM, getM_hit, getM_miss, getM_none]; (repeat (simp (disch := first | omega | assumption | fail) only [if_pos, if_neg, wrap64, wrap8]; try simp [List.zipIdx, h11, h, e12, -getM, getM_hit, getM_miss, getM_none])))))) | (refine aw_cond (b := _) (by exact rfl) (fun h => ?_) (fun h => ?_) <;> (try simp at h)) | (refine aw_block ?_) | (refine aw_skip ?_; simp only [thenQ, blockQ, if_true]) | (refine aw_exit ?_; simp [thenQ, blockQ]) | (refine aw_ret ?_; simp only [thenQ, blockQ]) | (refine aw_round ?_) | (refine hK _ ?_; clear hK) | (clear hK; refine hK _ ?_; clear hK) | (clear hK; clear hK; refine hK _ ?_; clear hK) | (clear hK; clear hK; clear hK; refine hK _ ?_; clear hK))
    refine aw_weaken (le_nilslot (t := 6) (sz := 1) (by simp)) ?_
    refine aw_loopK (s0 := ?lps1) (m0 := ?lpm1) (ι := {i : Nat // i ≤ l.length}) [0, 5, 28, 29] (fun i => [(30, I i.1), (6, .sl 272 1 1 0 (nis (l.take i.1)).length)]) (fun i => [(272, .vec 1 1 false (irows (nis (l.take i.1))))]) (fun i => l.length - i.1) ⟨0, by omega⟩ ?lhs1 ?lhm1 ?_ ?_
    case lhs1 => first | (simp [keepS]; done) | (simp [keepS]; rfl)
    case lhm1 => first | rfl | (simp; done) | (simp; rfl)
    · simp only [List.take_zero, nis, List.map_nil, List.length_nil]
      exact le_of2 (by simp) (by simp [AVle, AV.under, AV.underL] <;> omega) (by simp [AOle, AO.under, AV.underL, AV.under] <;> omega)
    · rintro ⟨i, hi⟩
      simp only
      obtain ⟨A, hA⟩ : ∃ A, A = nis (l.take i) := ⟨_, rfl⟩
      have hAl : A.length ≤ 1073741823 := by rw [hA, nis_len, List.length_take]; omega
      rcases Decidable.em (i < l.length) with hil | hil
      · have hilI : (i : Int) < (l.length : Int) := by omega
        have hg := urows_gi hil
        have hgE := urows_gE hil
        have hms := nis_succ hil
        rw [← hA] at hms ⊢
        have h256 := hb _ (gn_mem hil)
        obtain ⟨x, hx⟩ : ∃ x, x = gn l i := ⟨_, rfl⟩
        rw [← hx] at hg hgE hms h256
        repeat' (first | (apply aw_seq_k; intro K hK) | (refine aw_run hc (by first | exact aw_nod | (intro _; rw [ordB_w hw]; kernel_rfl) | (intro _; rw [ordB_w0 hw0]; kernel_rfl) | (intro _; kernel_rfl)) ?_; simp [List.zipIdx, hilI, hg, hgE, hap, tkI, hAl, -getM, getM_hit, getM_miss, getM_none]; (repeat (simp (disch := first | omega | assumption | fail) only [if_pos, if_neg, wrap64, wrap8]; try simp [List.zipIdx, hilI, hg, hgE, hap, tkI, hAl, -getM, getM_hit, getM_miss, getM_none])); try (repeat' (refine guardQ_split (fun h => ?_) (fun h => ?_) <;> simp at h <;> (simp [List.zipIdx, hilI, hg, hgE, hap, tkI, hAl, -getM, getM_hit, getM_miss, getM_none]; (repeat (simp (disch := first | omega | assumption | fail) only [if_pos, if_neg, wrap64, wrap8]; try simp [List.zipIdx, hilI, hg, hgE, hap, tkI, hAl, -getM, getM_hit, getM_miss, getM_none])))))) | (refine aw_cond (b := _) (by exact rfl) (fun h => ?_) (fun h => ?_) <;> (try simp at h)) | (refine aw_block ?_) | (refine aw_skip ?_; simp only [thenQ, blockQ, if_true]) | (refine aw_exit ?_; simp [thenQ, blockQ]) | (refine aw_ret ?_; simp only [thenQ, blockQ]) | (refine aw_round ?_) | (refine hK _ ?_; clear hK) | (clear hK; refine hK _ ?_; clear hK) | (clear hK; clear hK; refine hK _ ?_; clear hK) | (clear hK; clear hK; clear hK; refine hK _ ?_; clear hK))
        refine ⟨i + 1, ?_, by omega, by omega⟩
        simp only [hms]
        refine le_turn (s1 := ?tus2) (m1 := ?tum2) [] [0, 5, 28, 29, 6, 30] [272] ?tua2 ?tub2 ?tuc2 ?tud2 ?tue2 ?tuf2 ?tug2
        case tua2 => first | (simp [keepS]; done) | (simp [keepS]; rfl)
        case tub2 => first | (simp; done) | (simp; rfl)
        case tuc2 => simp
        case tud2 => simp
        case tue2 => simp
        case tuf2 => simp
        case tug2 =>
          simp [swp, vr]
          exact le_of2 (by simp) (by simp [AVle, AV.under, AV.underL] <;> omega) (by simp [AOle, AO.under, AV.underL, AV.under] <;> omega)
      · obtain rfl : i = l.length := by omega
        rw [List.take_length]
        have hLl := nis_len l
        obtain ⟨N, hN⟩ : ∃ N : Int, N = 1 + (c : Int) := ⟨_, rfl⟩
        rw [← hN]
        have hN1 : 1 ≤ N := by omega
        have hnone := fun (i : Nat) (hi : i < (nis l).length) => rec_none hN1 hi
        have hhit := fun (i : Nat) (hi : i < (nis l).length) (X W : List Int) => rec_hit hN1 (X := X) (W := W) hi
        have hF := F19_at (nis l) N 0
        have hR : lisR (nis l) N 0 = ((lrun N 0 (nis l) (nis l).length).out, 0) := by
          have h1 : ¬ ((0 : Int) < 0 ∨ N < 0) := by omega
          have hE : lisE (nis l).length N 0 = 0 := by
            unfold lisE
            rw [if_pos (errS_zero.2 ⟨by omega, by omega, by omega⟩), if_neg h1]
          unfold lisR
          rw [if_pos hE]
        rw [hR] at hF
        simp only at hF
        have hol := (lrun_inv (size := N) (b := 0) (by omega) (nis l) (nis l).length).out
        obtain ⟨O, hO⟩ : ∃ O, O = (lrun N 0 (nis l) (nis l).length).out := ⟨_, rfl⟩
        rw [← hO] at hF hol hnone hhit
        repeat' (first | (apply aw_seq_k; intro K hK) | (refine aw_run hc (by first | exact aw_nod | (intro _; rw [ordB_w hw]; kernel_rfl) | (intro _; rw [ordB_w0 hw0]; kernel_rfl) | (intro _; kernel_rfl)) ?_; simp [List.zipIdx, L.h19, hF, tkI, hol, -getM, getM_hit, getM_miss, getM_none]; (repeat (simp (disch := first | omega | assumption | fail) only [if_pos, if_neg, wrap64]; try simp [List.zipIdx, L.h19, hF, tkI, hol, -getM, getM_hit, getM_miss, getM_none])); try (repeat' (refine guardQ_split (fun h => ?_) (fun h => ?_) <;> simp at h <;> (simp [List.zipIdx, L.h19, hF, tkI, hol, -getM, getM_hit, getM_miss, getM_none]; (repeat (simp (disch := first | omega | assumption | fail) only [if_pos, if_neg, wrap64]; try simp [List.zipIdx, L.h19, hF, tkI, hol, -getM, getM_hit, getM_miss, getM_none])))))) | (refine aw_cond (b := _) (by exact rfl) (fun h => ?_) (fun h => ?_) <;> (try simp at h)) | (refine aw_block ?_) | (refine aw_skip ?_; simp only [thenQ, blockQ, if_true]) | (refine aw_exit ?_; simp [thenQ, blockQ]) | (refine aw_ret ?_; simp only [thenQ, blockQ]) | (refine aw_round ?_) | (refine hK _ ?_; clear hK) | (clear hK; refine hK _ ?_; clear hK) | (clear hK; clear hK; refine hK _ ?_; clear hK) | (clear hK; clear hK; clear hK; refine hK _ ?_; clear hK))
        refine aw_loopK (s0 := ?lps3) (m0 := ?lpm3) (ι := {i : Nat // i ≤ (nis l).length}) [0, 5, 6, 9, 56] (fun i => [(57, I i.1)]) (fun _ => []) (fun i => (nis l).length - i.1) ⟨0, by omega⟩ ?lhs3 ?lhm3 ?_ ?_
        case lhs3 => first | (simp [keepS]; done) | (simp [keepS]; rfl)
        case lhm3 => first | rfl | (simp; done) | (simp; rfl)
        · exact le_of2 (by simp) (by simp [AVle, AV.under, AV.underL] <;> omega) (by simp [AOle, AO.under, AV.underL, AV.under] <;> omega)
        · rintro ⟨i, hi⟩
          simp only
          rcases Decidable.em (i < (nis l).length) with hil | hil
          · have hilI : (i : Int) < ((nis l).length : Int) := by omega
            repeat' (first | (apply aw_seq_k; intro K hK) | (refine aw_run hc (by first | exact aw_nod | (intro _; rw [ordB_w hw]; kernel_rfl) | (intro _; rw [ordB_w0 hw0]; kernel_rfl) | (intro _; kernel_rfl)) ?_; simp [List.zipIdx, hilI, ty39, z256_all, z256_map, -getM, getM_hit, getM_miss, getM_none]; (repeat (simp (disch := first | omega | assumption | fail) only [if_pos, if_neg, wrap64]; try simp [List.zipIdx, hilI, ty39, z256_all, z256_map, -getM, getM_hit, getM_miss, getM_none])); try (repeat' (refine guardQ_split (fun h => ?_) (fun h => ?_) <;> simp at h <;> (simp [List.zipIdx, hilI, ty39, z256_all, z256_map, -getM, getM_hit, getM_miss, getM_none]; (repeat (simp (disch := first | omega | assumption | fail) only [if_pos, if_neg, wrap64]; try simp [List.zipIdx, hilI, ty39, z256_all, z256_map, -getM, getM_hit, getM_miss, getM_none])))))) | (refine aw_cond (b := _) (by exact rfl) (fun h => ?_) (fun h => ?_) <;> (try simp at h)) | (refine aw_block ?_) | (refine aw_skip ?_; simp only [thenQ, blockQ, if_true]) | (refine aw_exit ?_; simp [thenQ, blockQ]) | (refine aw_ret ?_; simp only [thenQ, blockQ]) | (refine aw_round ?_) | (refine hK _ ?_; clear hK) | (clear hK; refine hK _ ?_; clear hK) | (clear hK; clear hK; refine hK _ ?_; clear hK) | (clear hK; clear hK; clear hK; refine hK _ ?_; clear hK))
            have hil' : i < l.length := by omega
            have hnx := nis_gi hil'
            have hgi := irows_gi hil
            have hgiE := gE hil
            rw [hnx] at hgi hgiE
            have hgo := irows_gi (l := O) (n := i) (by omega)
            have hgoE := gE (l := O) (n := i) (by omega)
            obtain ⟨d, hd⟩ : ∃ d, d = gi O i := ⟨_, rfl⟩
            rw [← hd] at hgo hgoE
            obtain ⟨p, hp⟩ : ∃ p, p = gn l i := ⟨_, rfl⟩
            rw [← hp] at hgi hgiE
            refine aw_loopK (s0 := ?lps4) (m0 := ?lpm4) (ι := {x : Nat × Bool × List Nat // x.1 ≤ i ∧ p ∉ x.2.2 ∧ l.take i = l.take x.1 ++ (if x.2.1 then p :: x.2.2 else x.2.2)}) [0, 5, 6, 9, 11, 12, 56, 57] (fun x => [(15, I ((x.1.1 : Int) - 1)), (14, B x.1.2.1), (13, I (ddl (nis x.1.2.2)).length)]) (fun x => [(657, .box (bcs (seenL x.1.2.2)))]) (fun x => x.1.1) ⟨(i, false, []), by simp⟩ ?lhs4 ?lhm4 ?_ ?_
            case lhs4 => first | (simp [keepS]; done) | (simp [keepS]; rfl)
            case lhm4 => first | rfl | (simp; done) | (simp; rfl)
            · simp only [seen0, nis, List.map_nil, ddl, List.length_nil]
              exact le_of2 (by simp) (by simp [AVle, AV.under, AV.underL] <;> omega) (by simp [AOle, AO.under, AV.underL, AV.under] <;> omega)
            · rintro ⟨⟨m, f, W⟩, hmi, hpW, ht⟩
              simp only at hmi hpW ht ⊢
              have hTl : (ddl (nis W)).length ≤ 200 := by
                have h1 := ddl_len (nis W)
                have h2 := nis_len W
                have h3 := congrArg List.length ht
                rw [List.length_append, List.length_take] at h3
                have h4 : W.length ≤ (if f = true then p :: W else W).length := by split <;> simp
                omega
              obtain ⟨T, hT⟩ : ∃ T, T = (ddl (nis W)).length := ⟨_, rfl⟩
              rw [← hT] at hTl ⊢
              cases f with
              | true =>
                simp only [if_true] at ht
                have hX := hhit i hil (nis (l.take m)) (nis W) (by rw [nis_gi hil', ← nis_take, ht, nis_app, ← hp]; rfl) (by rw [nis_gi hil', nis_mem, ← hp]; exact hpW)
                rw [← hT, ← hd] at hX
                obtain ⟨z, hz⟩ : ∃ z, z = (m : Int) - 1 := ⟨_, rfl⟩
                rw [← hz]
                have hlt : (T : Int) < N ∧ d = -1 ∨ ¬ (T : Int) < N ∧ ¬ d = -1 ∧ ¬ d = -2 := by
                  rcases Decidable.em ((T : Int) < N) with hlt | hlt
                  · exact .inl ⟨hlt, hX.1.2 hlt⟩
                  · exact .inr ⟨hlt, fun e => hlt (hX.1.1 e), hX.2⟩
                rcases Decidable.em (0 ≤ z) with hz0 | hz0
                · rcases hlt with ⟨hlt, hd1⟩ | ⟨hlt, hd1, hd2⟩
                  · rw [hd1] at hgo hgoE
                    repeat' (first | (apply aw_seq_k; intro K hK) | (refine aw_run hc (by first | exact aw_nod | (intro _; rw [ordB_w hw]; kernel_rfl) | (intro _; rw [ordB_w0 hw0]; kernel_rfl) | (intro _; kernel_rfl)) ?_; simp [List.zipIdx, hgo, hgoE, hol, hilI, tkI, hlt, hz0, -getM, getM_hit, getM_miss, getM_none]; (repeat (simp (disch := first | omega | assumption | fail) only [if_pos, if_neg, wrap64]; try simp [List.zipIdx, hgo, hgoE, hol, hilI, tkI, hlt, hz0, -getM, getM_hit, getM_miss, getM_none])); try (repeat' (refine guardQ_split (fun h => ?_) (fun h => ?_) <;> simp at h <;> (simp [List.zipIdx, hgo, hgoE, hol, hilI, tkI, hlt, hz0, -getM, getM_hit, getM_miss, getM_none]; (repeat (simp (disch := first | omega | assumption | fail) only [if_pos, if_neg, wrap64]; try simp [List.zipIdx, hgo, hgoE, hol, hilI, tkI, hlt, hz0, -getM, getM_hit, getM_miss, getM_none])))))) | (refine aw_cond (b := _) (by exact rfl) (fun h => ?_) (fun h => ?_) <;> (try simp at h)) | (refine aw_block ?_) | (refine aw_skip ?_; simp only [thenQ, blockQ, if_true]) | (refine aw_exit ?_; simp [thenQ, blockQ]) | (refine aw_ret ?_; simp only [thenQ, blockQ]) | (refine aw_round ?_) | (refine hK _ ?_; clear hK) | (clear hK; refine hK _ ?_; clear hK) | (clear hK; clear hK; refine hK _ ?_; clear hK) | (clear hK; clear hK; clear hK; refine hK _ ?_; clear hK))
                    refine ⟨i + 1, ?_, by omega, by omega⟩
                    refine le_turn (s1 := ?tus5) (m1 := ?tum5) [] [0, 5, 6, 9, 56, 57] [272, 321] ?tua5 ?tub5 ?tuc5 ?tud5 ?tue5 ?tuf5 ?tug5
                    case tua5 => first | (simp [keepS]; done) | (simp [keepS]; rfl)
                    case tub5 => first | (simp; done) | (simp; rfl)
                    case tuc5 => simp
                    case tud5 => simp
                    case tue5 => simp
                    case tuf5 => simp
                    case tug5 =>
                      simp [swp, vr]
                      exact le_of2 (by simp) (by simp [AVle, AV.under, AV.underL] <;> omega) (by simp [AOle, AO.under, AV.underL, AV.under] <;> omega)
                  · repeat' (first | (apply aw_seq_k; intro K hK) | (refine aw_run hc (by first | exact aw_nod | (intro _; rw [ordB_w hw]; kernel_rfl) | (intro _; rw [ordB_w0 hw0]; kernel_rfl) | (intro _; kernel_rfl)) ?_; simp [List.zipIdx, hgo, hgoE, hol, hilI, tkI, hlt, hd1, hd2, hz0, -getM, getM_hit, getM_miss, getM_none]; (repeat (simp (disch := first | omega | assumption | fail) only [if_pos, if_neg, wrap64]; try simp [List.zipIdx, hgo, hgoE, hol, hilI, tkI, hlt, hd1, hd2, hz0, -getM, getM_hit, getM_miss, getM_none])); try (repeat' (refine guardQ_split (fun h => ?_) (fun h => ?_) <;> simp at h <;> (simp [List.zipIdx, hgo, hgoE, hol, hilI, tkI, hlt, hd1, hd2, hz0, -getM, getM_hit, getM_miss, getM_none]; (repeat (simp (disch := first | omega | assumption | fail) only [if_pos, if_neg, wrap64]; try simp [List.zipIdx, hgo, hgoE, hol, hilI, tkI, hlt, hd1, hd2, hz0, -getM, getM_hit, getM_miss, getM_none])))))) | (refine aw_cond (b := _) (by exact rfl) (fun h => ?_) (fun h => ?_) <;> (try simp at h)) | (refine aw_block ?_) | (refine aw_skip ?_; simp only [thenQ, blockQ, if_true]) | (refine aw_exit ?_; simp [thenQ, blockQ]) | (refine aw_ret ?_; simp only [thenQ, blockQ]) | (refine aw_round ?_) | (refine hK _ ?_; clear hK) | (clear hK; refine hK _ ?_; clear hK) | (clear hK; clear hK; refine hK _ ?_; clear hK) | (clear hK; clear hK; clear hK; refine hK _ ?_; clear hK))
                    refine ⟨i + 1, ?_, by omega, by omega⟩
                    refine le_turn (s1 := ?tus6) (m1 := ?tum6) [] [0, 5, 6, 9, 56, 57] [272, 321] ?tua6 ?tub6 ?tuc6 ?tud6 ?tue6 ?tuf6 ?tug6
                    case tua6 => first | (simp [keepS]; done) | (simp [keepS]; rfl)
                    case tub6 => first | (simp; done) | (simp; rfl)
                    case tuc6 => simp
                    case tud6 => simp
                    case tue6 => simp
                    case tuf6 => simp
                    case tug6 =>
                      simp [swp, vr]
                      exact le_of2 (by simp) (by simp [AVle, AV.under, AV.underL] <;> omega) (by simp [AOle, AO.under, AV.underL, AV.under] <;> omega)
                · rcases hlt with ⟨hlt, hd1⟩ | ⟨hlt, hd1, hd2⟩
                  · rw [hd1] at hgo hgoE
                    repeat' (first | (apply aw_seq_k; intro K hK) | (refine aw_run hc (by first | exact aw_nod | (intro _; rw [ordB_w hw]; kernel_rfl) | (intro _; rw [ordB_w0 hw0]; kernel_rfl) | (intro _; kernel_rfl)) ?_; simp [List.zipIdx, hgo, hgoE, hol, hilI, tkI, hlt, hz0, -getM, getM_hit, getM_miss, getM_none]; (repeat (simp (disch := first | omega | assumption | fail) only [if_pos, if_neg, wrap64]; try simp [List.zipIdx, hgo, hgoE, hol, hilI, tkI, hlt, hz0, -getM, getM_hit, getM_miss, getM_none])); try (repeat' (refine guardQ_split (fun h => ?_) (fun h => ?_) <;> simp at h <;> (simp [List.zipIdx, hgo, hgoE, hol, hilI, tkI, hlt, hz0, -getM, getM_hit, getM_miss, getM_none]; (repeat (simp (disch := first | omega | assumption | fail) only [if_pos, if_neg, wrap64]; try simp [List.zipIdx, hgo, hgoE, hol, hilI, tkI, hlt, hz0, -getM, getM_hit, getM_miss, getM_none])))))) | (refine aw_cond (b := _) (by exact rfl) (fun h => ?_) (fun h => ?_) <;> (try simp at h)) | (refine aw_block ?_) | (refine aw_skip ?_; simp only [thenQ, blockQ, if_true]) | (refine aw_exit ?_; simp [thenQ, blockQ]) | (refine aw_ret ?_; simp only [thenQ, blockQ]) | (refine aw_round ?_) | (refine hK _ ?_; clear hK) | (clear hK; refine hK _ ?_; clear hK) | (clear hK; clear hK; refine hK _ ?_; clear hK) | (clear hK; clear hK; clear hK; refine hK _ ?_; clear hK))
                    refine ⟨i + 1, ?_, by omega, by omega⟩
                    refine le_turn (s1 := ?tus7) (m1 := ?tum7) [] [0, 5, 6, 9, 56, 57] [272, 321] ?tua7 ?tub7 ?tuc7 ?tud7 ?tue7 ?tuf7 ?tug7
                    case tua7 => first | (simp [keepS]; done) | (simp [keepS]; rfl)
                    case tub7 => first | (simp; done) | (simp; rfl)
                    case tuc7 => simp
                    case tud7 => simp
                    case tue7 => simp
                    case tuf7 => simp
                    case tug7 =>
                      simp [swp, vr]
                      exact le_of2 (by simp) (by simp [AVle, AV.under, AV.underL] <;> omega) (by simp [AOle, AO.under, AV.underL, AV.under] <;> omega)
                  · repeat' (first | (apply aw_seq_k; intro K hK) | (refine aw_run hc (by first | exact aw_nod | (intro _; rw [ordB_w hw]; kernel_rfl) | (intro _; rw [ordB_w0 hw0]; kernel_rfl) | (intro _; kernel_rfl)) ?_; simp [List.zipIdx, hgo, hgoE, hol, hilI, tkI, hlt, hd1, hd2, hz0, -getM, getM_hit, getM_miss, getM_none]; (repeat (simp (disch := first | omega | assumption | fail) only [if_pos, if_neg, wrap64]; try simp [List.zipIdx, hgo, hgoE, hol, hilI, tkI, hlt, hd1, hd2, hz0, -getM, getM_hit, getM_miss, getM_none])); try (repeat' (refine guardQ_split (fun h => ?_) (fun h => ?_) <;> simp at h <;> (simp [List.zipIdx, hgo, hgoE, hol, hilI, tkI, hlt, hd1, hd2, hz0, -getM, getM_hit, getM_miss, getM_none]; (repeat (simp (disch := first | omega | assumption | fail) only [if_pos, if_neg, wrap64]; try simp [List.zipIdx, hgo, hgoE, hol, hilI, tkI, hlt, hd1, hd2, hz0, -getM, getM_hit, getM_miss, getM_none])))))) | (refine aw_cond (b := _) (by exact rfl) (fun h => ?_) (fun h => ?_) <;> (try simp at h)) | (refine aw_block ?_) | (refine aw_skip ?_; simp only [thenQ, blockQ, if_true]) | (refine aw_exit ?_; simp [thenQ, blockQ]) | (refine aw_ret ?_; simp only [thenQ, blockQ]) | (refine aw_round ?_) | (refine hK _ ?_; clear hK) | (clear hK; refine hK _ ?_; clear hK) | (clear hK; clear hK; refine hK _ ?_; clear hK) | (clear hK; clear hK; clear hK; refine hK _ ?_; clear hK))
                    refine ⟨i + 1, ?_, by omega, by omega⟩
                    refine le_turn (s1 := ?tus8) (m1 := ?tum8) [] [0, 5, 6, 9, 56, 57] [272, 321] ?tua8 ?tub8 ?tuc8 ?tud8 ?tue8 ?tuf8 ?tug8
                    case tua8 => first | (simp [keepS]; done) | (simp [keepS]; rfl)
                    case tub8 => first | (simp; done) | (simp; rfl)
                    case tuc8 => simp
                    case tud8 => simp
                    case tue8 => simp
                    case tuf8 => simp
                    case tug8 =>
                      simp [swp, vr]
                      exact le_of2 (by simp) (by simp [AVle, AV.under, AV.underL] <;> omega) (by simp [AOle, AO.under, AV.underL, AV.under] <;> omega)
              | false =>
                simp only [Bool.false_eq_true, if_false] at ht
                rcases m with _ | k
                · have hd1 : d = -2 := by
                    rw [hd]
                    refine hnone i hil ?_
                    rw [nis_gi hil', ← nis_take, nis_mem, ← hp, ht]
                    simpa using hpW
                  rw [hd1] at hgo hgoE
                  repeat' (first | (apply aw_seq_k; intro K hK) | (refine aw_run hc (by first | exact aw_nod | (intro _; rw [ordB_w hw]; kernel_rfl) | (intro _; rw [ordB_w0 hw0]; kernel_rfl) | (intro _; kernel_rfl)) ?_; simp [List.zipIdx, hgo, hgoE, hol, hilI, tkI, -getM, getM_hit, getM_miss, getM_none]; (repeat (simp (disch := first | omega | assumption | fail) only [if_pos, if_neg, wrap64]; try simp [List.zipIdx, hgo, hgoE, hol, hilI, tkI, -getM, getM_hit, getM_miss, getM_none])); try (repeat' (refine guardQ_split (fun h => ?_) (fun h => ?_) <;> simp at h <;> (simp [List.zipIdx, hgo, hgoE, hol, hilI, tkI, -getM, getM_hit, getM_miss, getM_none]; (repeat (simp (disch := first | omega | assumption | fail) only [if_pos, if_neg, wrap64]; try simp [List.zipIdx, hgo, hgoE, hol, hilI, tkI, -getM, getM_hit, getM_miss, getM_none])))))) | (refine aw_cond (b := _) (by exact rfl) (fun h => ?_) (fun h => ?_) <;> (try simp at h)) | (refine aw_block ?_) | (refine aw_skip ?_; simp only [thenQ, blockQ, if_true]) | (refine aw_exit ?_; simp [thenQ, blockQ]) | (refine aw_ret ?_; simp only [thenQ, blockQ]) | (refine aw_round ?_) | (refine hK _ ?_; clear hK) | (clear hK; refine hK _ ?_; clear hK) | (clear hK; clear hK; refine hK _ ?_; clear hK) | (clear hK; clear hK; clear hK; refine hK _ ?_; clear hK))
                  refine ⟨i + 1, ?_, by omega, by omega⟩
                  refine le_turn (s1 := ?tus9) (m1 := ?tum9) [] [0, 5, 6, 9, 56, 57] [272, 321] ?tua9 ?tub9 ?tuc9 ?tud9 ?tue9 ?tuf9 ?tug9
                  case tua9 => first | (simp [keepS]; done) | (simp [keepS]; rfl)
                  case tub9 => first | (simp; done) | (simp; rfl)
                  case tuc9 => simp
                  case tud9 => simp
                  case tue9 => simp
                  case tuf9 => simp
                  case tug9 =>
                    simp [swp, vr]
                    exact le_of2 (by simp) (by simp [AVle, AV.under, AV.underL] <;> omega) (by simp [AOle, AO.under, AV.underL, AV.under] <;> omega)
                · have e1 : (((k + 1 : Nat) : Int) - 1) = (k : Int) := by omega
                  rw [e1]
                  have hkl : k < l.length := by omega
                  have hkI : (k : Int) < (l.length : Int) := by omega
                  have hgk := irows_gi (l := nis l) (n := k) (by omega)
                  have hgkE := gE (l := nis l) (n := k) (by omega)
                  rw [nis_gi hkl] at hgk hgkE
                  have hgu := urows_gi hkl
                  have hguE := urows_gE hkl
                  have h256 := hb _ (gn_mem hkl)
                  have htc := take_cut hkl ht
                  obtain ⟨x, hx⟩ : ∃ x, x = gn l k := ⟨_, rfl⟩
                  rw [← hx] at hgk hgkE hgu hguE h256 htc
                  have hxI : (x : Int) < 256 := by omega
                  have hSl := seenL_len W
                  have hga := bcs_get (l := seenL W) (n := x) (by omega)
                  rw [seenL_gb _ h256] at hga
                  have hgaE : ∀ h, (bcs (seenL W))[x]'h = B (decide (x ∈ W)) := fun h => by rw [List.getElem?_eq_getElem h] at hga; exact Option.some.inj hga
                  have hdn := congrArg List.length (ddl_nis W x)
                  obtain ⟨S, hS⟩ : ∃ S, S = seenL W := ⟨_, rfl⟩
                  rw [← hS] at hga hgaE hSl ⊢
                  rcases Decidable.em ((x : Int) = (p : Int)) with hxp | hxp
                  · rw [Int.ofNat_inj.1 hxp] at htc
                    repeat' (first | (apply aw_seq_k; intro K hK) | (refine aw_run hc (by first | exact aw_nod | (intro _; rw [ordB_w hw]; kernel_rfl) | (intro _; rw [ordB_w0 hw0]; kernel_rfl) | (intro _; kernel_rfl)) ?_; simp [List.zipIdx, hgk, hgkE, hgi, hgiE, hgu, hguE, hilI, hkI, tkI, hxp, -getM, getM_hit, getM_miss, getM_none]; (repeat (simp (disch := first | omega | assumption | fail) only [if_pos, if_neg, wrap64]; try simp [List.zipIdx, hgk, hgkE, hgi, hgiE, hgu, hguE, hilI, hkI, tkI, hxp, -getM, getM_hit, getM_miss, getM_none])); try (repeat' (refine guardQ_split (fun h => ?_) (fun h => ?_) <;> simp at h <;> (simp [List.zipIdx, hgk, hgkE, hgi, hgiE, hgu, hguE, hilI, hkI, tkI, hxp, -getM, getM_hit, getM_miss, getM_none]; (repeat (simp (disch := first | omega | assumption | fail) only [if_pos, if_neg, wrap64]; try simp [List.zipIdx, hgk, hgkE, hgi, hgiE, hgu, hguE, hilI, hkI, tkI, hxp, -getM, getM_hit, getM_miss, getM_none])))))) | (refine aw_cond (b := _) (by exact rfl) (fun h => ?_) (fun h => ?_) <;> (try simp at h)) | (refine aw_block ?_) | (refine aw_skip ?_; simp only [thenQ, blockQ, if_true]) | (refine aw_exit ?_; simp [thenQ, blockQ]) | (refine aw_ret ?_; simp only [thenQ, blockQ]) | (refine aw_round ?_) | (refine hK _ ?_; clear hK) | (clear hK; refine hK _ ?_; clear hK) | (clear hK; clear hK; refine hK _ ?_; clear hK) | (clear hK; clear hK; clear hK; refine hK _ ?_; clear hK))
                    refine ⟨k, Or.inr ⟨W, ?_, ⟨by omega, hpW, htc⟩, by omega⟩⟩
                    simp only [← hT, ← hS]
                    refine le_turn (s1 := ?tus10) (m1 := ?tum10) [] [0, 5, 6, 9, 11, 12, 56, 57, 15, 14, 13] [272, 321, 657] ?tua10 ?tub10 ?tuc10 ?tud10 ?tue10 ?tuf10 ?tug10
                    case tua10 => first | (simp [keepS]; done) | (simp [keepS]; rfl)
                    case tub10 => first | (simp; done) | (simp; rfl)
                    case tuc10 => simp
                    case tud10 => simp
                    case tue10 => simp
                    case tuf10 => simp
                    case tug10 =>
                      simp [swp, vr]
                      exact le_of2 (by simp) (by simp [AVle, AV.under, AV.underL] <;> omega) (by simp [AOle, AO.under, AV.underL, AV.under] <;> omega)
                  · have hxn : p ∉ x :: W := by
                      rw [List.mem_cons]
                      rintro (e | e)
                      · exact hxp (by rw [e])
                      · exact hpW e
                    rcases Decidable.em (x ∈ W) with hm | hm
                    · rw [if_pos hm, ← hT] at hdn
                      simp only [hm, decide_true] at hga hgaE
                      have hse : seenL (x :: W) = S := by
                        rw [hS]; refine seenL_ext fun k => ?_
                        rw [List.mem_cons]
                        exact ⟨fun h => h.elim (fun e => e ▸ hm) id, .inr⟩
                      repeat' (first | (apply aw_seq_k; intro K hK) | (refine aw_run hc (by first | exact aw_nod | (intro _; rw [ordB_w hw]; kernel_rfl) | (intro _; rw [ordB_w0 hw0]; kernel_rfl) | (intro _; kernel_rfl)) ?_; simp [List.zipIdx, hgk, hgkE, hgi, hgiE, hgu, hguE, hilI, hkI, tkI, hxp, hga, hgaE, hSl, hxI, ty39, -getM, getM_hit, getM_miss, getM_none]; (repeat (simp (disch := first | omega | assumption | fail) only [if_pos, if_neg, wrap64]; try simp [List.zipIdx, hgk, hgkE, hgi, hgiE, hgu, hguE, hilI, hkI, tkI, hxp, hga, hgaE, hSl, hxI, ty39, -getM, getM_hit, getM_miss, getM_none])); try (repeat' (refine guardQ_split (fun h => ?_) (fun h => ?_) <;> simp at h <;> (simp [List.zipIdx, hgk, hgkE, hgi, hgiE, hgu, hguE, hilI, hkI, tkI, hxp, hga, hgaE, hSl, hxI, ty39, -getM, getM_hit, getM_miss, getM_none]; (repeat (simp (disch := first | omega | assumption | fail) only [if_pos, if_neg, wrap64]; try simp [List.zipIdx, hgk, hgkE, hgi, hgiE, hgu, hguE, hilI, hkI, tkI, hxp, hga, hgaE, hSl, hxI, ty39, -getM, getM_hit, getM_miss, getM_none])))))) | (refine aw_cond (b := _) (by exact rfl) (fun h => ?_) (fun h => ?_) <;> (try simp at h)) | (refine aw_block ?_) | (refine aw_skip ?_; simp only [thenQ, blockQ, if_true]) | (refine aw_exit ?_; simp [thenQ, blockQ]) | (refine aw_ret ?_; simp only [thenQ, blockQ]) | (refine aw_round ?_) | (refine hK _ ?_; clear hK) | (clear hK; refine hK _ ?_; clear hK) | (clear hK; clear hK; refine hK _ ?_; clear hK) | (clear hK; clear hK; clear hK; refine hK _ ?_; clear hK))
                      refine ⟨k, Or.inl ⟨x :: W, ?_, ⟨by omega, hxn, htc⟩, by omega⟩⟩
                      simp only [hdn, hse]
                      refine le_turn (s1 := ?tus11) (m1 := ?tum11) [] [0, 5, 6, 9, 11, 12, 56, 57, 15, 14, 13] [272, 321, 657] ?tua11 ?tub11 ?tuc11 ?tud11 ?tue11 ?tuf11 ?tug11
                      case tua11 => first | (simp [keepS]; done) | (simp [keepS]; rfl)
                      case tub11 => first | (simp; done) | (simp; rfl)
                      case tuc11 => simp
                      case tud11 => simp
                      case tue11 => simp
                      case tuf11 => simp
                      case tug11 =>
                        simp [swp, vr]
                        exact le_of2 (by simp) (by simp [AVle, AV.under, AV.underL] <;> omega) (by simp [AOle, AO.under, AV.underL, AV.under] <;> omega)
                    · rw [if_neg hm, List.length_cons, ← hT] at hdn
                      simp only [hm, decide_false] at hga hgaE
                      have hse : S.set x true = seenL (x :: W) := by
                        rw [hS]; refine seenL_set fun k => ?_
                        rw [List.mem_cons, or_comm]
                      repeat' (first | (apply aw_seq_k; intro K hK) | (refine aw_run hc (by first | exact aw_nod | (intro _; rw [ordB_w hw]; kernel_rfl) | (intro _; rw [ordB_w0 hw0]; kernel_rfl) | (intro _; kernel_rfl)) ?_; simp [List.zipIdx, hgk, hgkE, hgi, hgiE, hgu, hguE, hilI, hkI, tkI, hxp, hga, hgaE, hSl, hxI, ty39, bcs_set, -getM, getM_hit, getM_miss, getM_none]; (repeat (simp (disch := first | omega | assumption | fail) only [if_pos, if_neg, wrap64]; try simp [List.zipIdx, hgk, hgkE, hgi, hgiE, hgu, hguE, hilI, hkI, tkI, hxp, hga, hgaE, hSl, hxI, ty39, bcs_set, -getM, getM_hit, getM_miss, getM_none])); try (repeat' (refine guardQ_split (fun h => ?_) (fun h => ?_) <;> simp at h <;> (simp [List.zipIdx, hgk, hgkE, hgi, hgiE, hgu, hguE, hilI, hkI, tkI, hxp, hga, hgaE, hSl, hxI, ty39, bcs_set, -getM, getM_hit, getM_miss, getM_none]; (repeat (simp (disch := first | omega | assumption | fail) only [if_pos, if_neg, wrap64]; try simp [List.zipIdx, hgk, hgkE, hgi, hgiE, hgu, hguE, hilI, hkI, tkI, hxp, hga, hgaE, hSl, hxI, ty39, bcs_set, -getM, getM_hit, getM_miss, getM_none])))))) | (refine aw_cond (b := _) (by exact rfl) (fun h => ?_) (fun h => ?_) <;> (try simp at h)) | (refine aw_block ?_) | (refine aw_skip ?_; simp only [thenQ, blockQ, if_true]) | (refine aw_exit ?_; simp [thenQ, blockQ]) | (refine aw_ret ?_; simp only [thenQ, blockQ]) | (refine aw_round ?_) | (refine hK _ ?_; clear hK) | (clear hK; refine hK _ ?_; clear hK) | (clear hK; clear hK; refine hK _ ?_; clear hK) | (clear hK; clear hK; clear hK; refine hK _ ?_; clear hK))
                      refine ⟨k, Or.inl ⟨x :: W, ?_, ⟨by omega, hxn, htc⟩, by omega⟩⟩
                      simp only [hdn, ← hse]
                      refine le_turn (s1 := ?tus12) (m1 := ?tum12) [] [0, 5, 6, 9, 11, 12, 56, 57, 15, 14, 13] [272, 321, 657] ?tua12 ?tub12 ?tuc12 ?tud12 ?tue12 ?tuf12 ?tug12
                      case tua12 => first | (simp [keepS]; done) | (simp [keepS]; rfl)
                      case tub12 => first | (simp; done) | (simp; rfl)
                      case tuc12 => simp
                      case tud12 => simp
                      case tue12 => simp
                      case tuf12 => simp
                      case tug12 =>
                        simp [swp, vr]
                        exact le_of2 (by simp) (by simp [AVle, AV.under, AV.underL] <;> omega) (by simp [AOle, AO.under, AV.underL, AV.under] <;> omega)
          · obtain rfl : i = (nis l).length := by omega
            repeat' (first | (apply aw_seq_k; intro K hK) | (refine aw_run hc (by first | exact aw_nod | (intro _; rw [ordB_w hw]; kernel_rfl) | (intro _; rw [ordB_w0 hw0]; kernel_rfl) | (intro _; kernel_rfl)) ?_; simp [List.zipIdx, -getM, getM_hit, getM_miss, getM_none]; (repeat (simp (disch := first | omega | assumption | fail) only [if_pos, if_neg, wrap64]; try simp [List.zipIdx, -getM, getM_hit, getM_miss, getM_none])); try (repeat' (refine guardQ_split (fun h => ?_) (fun h => ?_) <;> simp at h <;> (simp [List.zipIdx, -getM, getM_hit, getM_miss, getM_none]; (repeat (simp (disch := first | omega | assumption | fail) only [if_pos, if_neg, wrap64]; try simp [List.zipIdx, -getM, getM_hit, getM_miss, getM_none])))))) | (refine aw_cond (b := _) (by exact rfl) (fun h => ?_) (fun h => ?_) <;> (try simp at h)) | (refine aw_block ?_) | (refine aw_skip ?_; simp only [thenQ, blockQ, if_true]) | (refine aw_exit ?_; simp [thenQ, blockQ]) | (refine aw_ret ?_; simp only [thenQ, blockQ]) | (refine aw_round ?_) | (refine hK _ ?_; clear hK) | (clear hK; refine hK _ ?_; clear hK) | (clear hK; clear hK; refine hK _ ?_; clear hK) | (clear hK; clear hK; clear hK; refine hK _ ?_; clear hK))
            refine ⟨by simp, ?_⟩
            simp [leaves_iff, Try.f9]
            try (first | omega | (refine decide_eq_decide.2 ?_; omega) | (refine decide_eq_false ?_; omega) | (refine decide_eq_true ?_; omega))
end Go.AM
