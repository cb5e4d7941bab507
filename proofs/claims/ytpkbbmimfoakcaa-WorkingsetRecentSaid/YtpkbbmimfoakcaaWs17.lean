/- Workingset: the law Scan. -/
import Derived.Test.YtpkbbmimfoakcaaWs16
set_option linter.all false

namespace Go.AM
open Go Go.Proofs

theorem rg0_succ (n : Nat) : rgA 0 (n + 1) = rgA 0 n ++ [(n : Int)] := by rw [rgA_succ, Int.zero_add]
def repA (n : Nat) : Nat → List Int
  | 0 => []
  | j + 1 => repA n j ++ rgA 0 n
theorem repA_len (n : Nat) : ∀ j, (repA n j).length = j * n
  | 0 => by simp [repA]
  | j + 1 => by simp only [repA, List.length_append, repA_len n j, rgA_len, Nat.succ_mul]

set_option maxHeartbeats 2000000 in
theorem s10 (X : AX) (L : LawX X) (h11 : ∀ M n, X.call 11 [] M n = some (B true, [])) : PSound Try.prog 10 (specF (ι := {x : Nat × Nat × Nat // x.1 < 256 ∧ x.2.1 < 256 ∧ x.2.2 < 256}) (fun x => [U x.1.1, U x.1.2.1, U x.1.2.2]) fun _ => retOf [B true]) := by
  have hX := L.ok
  have hw := L.w
  refine psound_spec hX mixed Try.func10 rfl fun ⟨⟨hot, room, row⟩, h1, h2, h3⟩ w0 G => ⟨by show 3 ≤ 100; decide, rfl, ?_⟩
  show AW ⟨Try.prog, X, 100, w0, .pure G⟩ _ _ _
  have hc : Cx.OK ⟨Try.prog, X, 100, w0, .pure G⟩ := ⟨hX, mixed⟩
  simp only at h1 h2 h3 ⊢
  unfold U
  have e1 := tmodN hot 8
  have e2 := tmodN room 8
  have e3 := tmodN row 40
  obtain ⟨c, hc8⟩ : ∃ c, c = hot % 8 := ⟨_, rfl⟩
  obtain ⟨d, hd8⟩ : ∃ d, d = room % 8 := ⟨_, rfl⟩
  obtain ⟨r, hr40⟩ : ∃ r, r = row % 40 := ⟨_, rfl⟩
  rw [← hc8] at e1
  rw [← hd8] at e2
  rw [← hr40] at e3
  have hc1 : c < 8 := by omega
  have hd1 : d < 8 := by omega
  have hr1 : r < 40 := by omega
  obtain ⟨n, hn⟩ : ∃ n : Nat, 1 + (c : Int) = (n : Int) := ⟨1 + c, by omega⟩
  obtain ⟨z, hz⟩ : ∃ z : Int, (n : Int) + 1 + (d : Int) = z := ⟨_, rfl⟩
  have hn1 : 1 ≤ n ∧ n ≤ 8 := by omega
  have hz1 : (n : Int) < z ∧ z ≤ 16 := by omega
  have hap : ∀ (A : List Int) (x : Int), irows A ++ [[I x]] = irows (A ++ [x]) := fun A x => by rw [irows_one, irows_append]
  have e1' : ((hot : Int)).tmod ((8 : Nat) : Int) = (hot : Int).tmod 8 := rfl
  rw [e1'] at e1
  have e2' : ((room : Int)).tmod ((8 : Nat) : Int) = (room : Int).tmod 8 := rfl
  rw [e2'] at e2
  have e3' : ((row : Int)).tmod ((40 : Nat) : Int) = (row : Int).tmod 40 := rfl
  rw [e3'] at e3
  repeat' (first | (apply aw_seq_k; intro K hK) | (refine aw_run hc (by first | exact aw_nod | (intro _; rw [ordB_w hw]; kernel_rfl) | (intro _; rw [ordB_w0 hw0]; kernel_rfl) | (intro _; kernel_rfl)) ?_; simp [List.zipIdx, h11, e1, e2, hn, hz, -getM, getM_hit, getM_miss, getM_none]; (repeat (simp (disch := first | omega | assumption | fail) only [if_pos, if_neg, wrap64, wrap8]; try simp [List.zipIdx, h11, e1, e2, hn, hz, -getM, getM_hit, getM_miss, getM_none])); try (repeat' (refine guardQ_split (fun h => ?_) (fun h => ?_) <;> simp at h <;> (simp [List.zipIdx, h11, e1, e2, hn, hz, -getM, getM_hit, getM_miss, getM_none]; (repeat (simp (disch := first | omega | assumption | fail) only [if_pos, if_neg, wrap64, wrap8]; try simp [List.zipIdx, h11, e1, e2, hn, hz, -getM, getM_hit, getM_miss, getM_none])))))) | (refine aw_cond (b := _) (by exact rfl) (fun h => ?_) (fun h => ?_) <;> (try simp at h)) | (refine aw_block ?_) | (refine aw_skip ?_; simp only [thenQ, blockQ, if_true]) | (refine aw_exit ?_; simp [thenQ, blockQ]) | (refine aw_ret ?_; simp only [thenQ, blockQ]) | (refine aw_round ?_) | (refine hK _ ?_; clear hK) | (clear hK; refine hK _ ?_; clear hK) | (clear hK; clear hK; refine hK _ ?_; clear hK) | (clear hK; clear hK; clear hK; refine hK _ ?_; clear hK))
  refine aw_weaken (le_nilslot (t := 9) (sz := 1) (by simp)) ?_
  refine aw_loopK (s0 := ?lps1) (m0 := ?lpm1) (ι := {i : Nat // i ≤ 2}) [2, 7, 8] (fun i => [(28, I i.1), (9, .sl 272 1 1 0 (repA n i.1).length)]) (fun i => [(272, .vec 1 1 false (irows (repA n i.1)))]) (fun i => 2 - i.1) ⟨0, by omega⟩ ?lhs1 ?lhm1 ?_ ?_
  case lhs1 => first | (simp [keepS]; done) | (simp [keepS]; rfl)
  case lhm1 => first | rfl | (simp; done) | (simp; rfl)
  · simp only [repA, List.length_nil]
    exact le_of2 (by simp) (by simp [AVle, AV.under, AV.underL] <;> omega) (by simp [AOle, AO.under, AV.underL, AV.under] <;> omega)
  · rintro ⟨j, hj⟩
    simp only
    have hjl := repA_len n j
    have hjn : j * n ≤ 2 * 8 := Nat.mul_le_mul hj hn1.2
    rcases Decidable.em (j < 2) with hj2 | hj2
    · have hjI : (j : Int) < 2 := by omega
      have hrs : repA n (j + 1) = repA n j ++ rgA 0 n := rfl
      obtain ⟨A, hA⟩ : ∃ A, A = repA n j := ⟨_, rfl⟩
      rw [← hA] at hjl hrs ⊢
      repeat' (first | (apply aw_seq_k; intro K hK) | (refine aw_run hc (by first | exact aw_nod | (intro _; rw [ordB_w hw]; kernel_rfl) | (intro _; rw [ordB_w0 hw0]; kernel_rfl) | (intro _; kernel_rfl)) ?_; simp [List.zipIdx, hjI, -getM, getM_hit, getM_miss, getM_none]; (repeat (simp (disch := first | omega | assumption | fail) only [if_pos, if_neg, wrap64]; try simp [List.zipIdx, hjI, -getM, getM_hit, getM_miss, getM_none])); try (repeat' (refine guardQ_split (fun h => ?_) (fun h => ?_) <;> simp at h <;> (simp [List.zipIdx, hjI, -getM, getM_hit, getM_miss, getM_none]; (repeat (simp (disch := first | omega | assumption | fail) only [if_pos, if_neg, wrap64]; try simp [List.zipIdx, hjI, -getM, getM_hit, getM_miss, getM_none])))))) | (refine aw_cond (b := _) (by exact rfl) (fun h => ?_) (fun h => ?_) <;> (try simp at h)) | (refine aw_block ?_) | (refine aw_skip ?_; simp only [thenQ, blockQ, if_true]) | (refine aw_exit ?_; simp [thenQ, blockQ]) | (refine aw_ret ?_; simp only [thenQ, blockQ]) | (refine aw_round ?_) | (refine hK _ ?_; clear hK) | (clear hK; refine hK _ ?_; clear hK) | (clear hK; clear hK; refine hK _ ?_; clear hK) | (clear hK; clear hK; clear hK; refine hK _ ?_; clear hK))
      refine aw_loopK (s0 := ?lps2) (m0 := ?lpm2) (ι := {k : Nat // k ≤ n}) [2, 7, 8, 28, 30] (fun k => [(31, I k.1), (9, .sl 272 1 1 0 (A ++ rgA 0 k.1).length)]) (fun k => [(272, .vec 1 1 false (irows (A ++ rgA 0 k.1)))]) (fun k => n - k.1) ⟨0, by omega⟩ ?lhs2 ?lhm2 ?_ ?_
      case lhs2 => first | (simp [keepS]; done) | (simp [keepS]; rfl)
      case lhm2 => first | rfl | (simp; done) | (simp; rfl)
      · simp only [rgA, List.range_zero, List.map_nil, List.append_nil]
        exact le_of2 (by simp) (by simp [AVle, AV.under, AV.underL] <;> omega) (by simp [AOle, AO.under, AV.underL, AV.under] <;> omega)
      · rintro ⟨k, hk⟩
        simp only
        rcases Decidable.em (k < n) with hkn | hkn
        · have hkI : (k : Int) < (n : Int) := by omega
          have hBs : A ++ rgA 0 (k + 1) = (A ++ rgA 0 k) ++ [(k : Int)] := by rw [rg0_succ, List.append_assoc]
          have hBm : (A ++ rgA 0 k).length = A.length + k := by rw [List.length_append, rgA_len]
          have hBl : (A ++ rgA 0 k).length ≤ 1000 := by omega
          obtain ⟨C, hC⟩ : ∃ C, C = A ++ rgA 0 k := ⟨_, rfl⟩
          rw [← hC] at hBs hBl hBm ⊢
          repeat' (first | (apply aw_seq_k; intro K hK) | (refine aw_run hc (by first | exact aw_nod | (intro _; rw [ordB_w hw]; kernel_rfl) | (intro _; rw [ordB_w0 hw0]; kernel_rfl) | (intro _; kernel_rfl)) ?_; simp [List.zipIdx, hkI, hap, tkI, hBl, -getM, getM_hit, getM_miss, getM_none]; (repeat (simp (disch := first | omega | assumption | fail) only [if_pos, if_neg, wrap64]; try simp [List.zipIdx, hkI, hap, tkI, hBl, -getM, getM_hit, getM_miss, getM_none])); try (repeat' (refine guardQ_split (fun h => ?_) (fun h => ?_) <;> simp at h <;> (simp [List.zipIdx, hkI, hap, tkI, hBl, -getM, getM_hit, getM_miss, getM_none]; (repeat (simp (disch := first | omega | assumption | fail) only [if_pos, if_neg, wrap64]; try simp [List.zipIdx, hkI, hap, tkI, hBl, -getM, getM_hit, getM_miss, getM_none])))))) | (refine aw_cond (b := _) (by exact rfl) (fun h => ?_) (fun h => ?_) <;> (try simp at h)) | (refine aw_block ?_) | (refine aw_skip ?_; simp only [thenQ, blockQ, if_true]) | (refine aw_exit ?_; simp [thenQ, blockQ]) | (refine aw_ret ?_; simp only [thenQ, blockQ]) | (refine aw_round ?_) | (refine hK _ ?_; clear hK) | (clear hK; refine hK _ ?_; clear hK) | (clear hK; clear hK; refine hK _ ?_; clear hK) | (clear hK; clear hK; clear hK; refine hK _ ?_; clear hK))
          refine ⟨k + 1, ?_, by omega, by omega⟩
          simp only [hBs, rgA_len]
          refine le_turn (s1 := ?tus3) (m1 := ?tum3) [] [2, 7, 8, 28, 30, 9, 31] [272] ?tua3 ?tub3 ?tuc3 ?tud3 ?tue3 ?tuf3 ?tug3
          case tua3 => first | (simp [keepS]; done) | (simp [keepS]; rfl)
          case tub3 => first | (simp; done) | (simp; rfl)
          case tuc3 => simp
          case tud3 => simp
          case tue3 => simp
          case tuf3 => simp
          case tug3 =>
            simp [swp, vr]
            exact le_of2 (by simp) (by simp [AVle, AV.under, AV.underL] <;> omega) (by simp [AOle, AO.under, AV.underL, AV.under] <;> omega)
        · obtain rfl : n = k := by omega
          repeat' (first | (apply aw_seq_k; intro K hK) | (refine aw_run hc (by first | exact aw_nod | (intro _; rw [ordB_w hw]; kernel_rfl) | (intro _; rw [ordB_w0 hw0]; kernel_rfl) | (intro _; kernel_rfl)) ?_; simp [List.zipIdx, -getM, getM_hit, getM_miss, getM_none]; (repeat (simp (disch := first | omega | assumption | fail) only [if_pos, if_neg, wrap64]; try simp [List.zipIdx, -getM, getM_hit, getM_miss, getM_none])); try (repeat' (refine guardQ_split (fun h => ?_) (fun h => ?_) <;> simp at h <;> (simp [List.zipIdx, -getM, getM_hit, getM_miss, getM_none]; (repeat (simp (disch := first | omega | assumption | fail) only [if_pos, if_neg, wrap64]; try simp [List.zipIdx, -getM, getM_hit, getM_miss, getM_none])))))) | (refine aw_cond (b := _) (by exact rfl) (fun h => ?_) (fun h => ?_) <;> (try simp at h)) | (refine aw_block ?_) | (refine aw_skip ?_; simp only [thenQ, blockQ, if_true]) | (refine aw_exit ?_; simp [thenQ, blockQ]) | (refine aw_ret ?_; simp only [thenQ, blockQ]) | (refine aw_round ?_) | (refine hK _ ?_; clear hK) | (clear hK; refine hK _ ?_; clear hK) | (clear hK; clear hK; refine hK _ ?_; clear hK) | (clear hK; clear hK; clear hK; refine hK _ ?_; clear hK))
          refine ⟨j + 1, ?_, by omega, by omega⟩
          simp only [hrs]
          refine le_turn (s1 := ?tus4) (m1 := ?tum4) [] [2, 7, 8, 28, 9] [272] ?tua4 ?tub4 ?tuc4 ?tud4 ?tue4 ?tuf4 ?tug4
          case tua4 => first | (simp [keepS]; done) | (simp [keepS]; rfl)
          case tub4 => first | (simp; done) | (simp; rfl)
          case tuc4 => simp
          case tud4 => simp
          case tue4 => simp
          case tuf4 => simp
          case tug4 =>
            simp [swp, vr]
            exact le_of2 (by simp) (by simp [AVle, AV.under, AV.underL] <;> omega) (by simp [AOle, AO.under, AV.underL, AV.under] <;> omega)
    · obtain rfl : j = 2 := by omega
      have hR2 : repA n 2 = rgA 0 n ++ rgA 0 n := by simp [repA]
      obtain ⟨A, hA⟩ : ∃ A, A = repA n 2 := ⟨_, rfl⟩
      rw [← hA] at hjl hR2 ⊢
      repeat' (first | (apply aw_seq_k; intro K hK) | (refine aw_run hc (by first | exact aw_nod | (intro _; rw [ordB_w hw]; kernel_rfl) | (intro _; rw [ordB_w0 hw0]; kernel_rfl) | (intro _; kernel_rfl)) ?_; simp [List.zipIdx, e3, -getM, getM_hit, getM_miss, getM_none]; (repeat (simp (disch := first | omega | assumption | fail) only [if_pos, if_neg, wrap64]; try simp [List.zipIdx, e3, -getM, getM_hit, getM_miss, getM_none])); try (repeat' (refine guardQ_split (fun h => ?_) (fun h => ?_) <;> simp at h <;> (simp [List.zipIdx, e3, -getM, getM_hit, getM_miss, getM_none]; (repeat (simp (disch := first | omega | assumption | fail) only [if_pos, if_neg, wrap64]; try simp [List.zipIdx, e3, -getM, getM_hit, getM_miss, getM_none])))))) | (refine aw_cond (b := _) (by exact rfl) (fun h => ?_) (fun h => ?_) <;> (try simp at h)) | (refine aw_block ?_) | (refine aw_skip ?_; simp only [thenQ, blockQ, if_true]) | (refine aw_exit ?_; simp [thenQ, blockQ]) | (refine aw_ret ?_; simp only [thenQ, blockQ]) | (refine aw_round ?_) | (refine hK _ ?_; clear hK) | (clear hK; refine hK _ ?_; clear hK) | (clear hK; clear hK; refine hK _ ?_; clear hK) | (clear hK; clear hK; clear hK; refine hK _ ?_; clear hK))
      refine aw_loopK (s0 := ?lps5) (m0 := ?lpm5) (ι := {k : Nat // k ≤ r}) [2, 7, 8, 42] (fun k => [(43, I k.1), (9, .sl 272 1 1 0 (A ++ rgA 100 k.1).length)]) (fun k => [(272, .vec 1 1 false (irows (A ++ rgA 100 k.1)))]) (fun k => r - k.1) ⟨0, by omega⟩ ?lhs5 ?lhm5 ?_ ?_
      case lhs5 => first | (simp [keepS]; done) | (simp [keepS]; rfl)
      case lhm5 => first | rfl | (simp; done) | (simp; rfl)
      · simp only [rgA, List.range_zero, List.map_nil, List.append_nil]
        exact le_of2 (by simp) (by simp [AVle, AV.under, AV.underL] <;> omega) (by simp [AOle, AO.under, AV.underL, AV.under] <;> omega)
      · rintro ⟨k, hk⟩
        simp only
        rcases Decidable.em (k < r) with hkn | hkn
        · have hkI : (k : Int) < (r : Int) := by omega
          have hBs : A ++ rgA 100 (k + 1) = (A ++ rgA 100 k) ++ [(100 + (k : Int))] := by rw [rgA_succ, List.append_assoc]
          have hBm : (A ++ rgA 100 k).length = A.length + k := by rw [List.length_append, rgA_len]
          have hBl : (A ++ rgA 100 k).length ≤ 1000 := by omega
          obtain ⟨C, hC⟩ : ∃ C, C = A ++ rgA 100 k := ⟨_, rfl⟩
          rw [← hC] at hBs hBl hBm ⊢
          repeat' (first | (apply aw_seq_k; intro K hK) | (refine aw_run hc (by first | exact aw_nod | (intro _; rw [ordB_w hw]; kernel_rfl) | (intro _; rw [ordB_w0 hw0]; kernel_rfl) | (intro _; kernel_rfl)) ?_; simp [List.zipIdx, hkI, hap, tkI, hBl, -getM, getM_hit, getM_miss, getM_none]; (repeat (simp (disch := first | omega | assumption | fail) only [if_pos, if_neg, wrap64]; try simp [List.zipIdx, hkI, hap, tkI, hBl, -getM, getM_hit, getM_miss, getM_none])); try (repeat' (refine guardQ_split (fun h => ?_) (fun h => ?_) <;> simp at h <;> (simp [List.zipIdx, hkI, hap, tkI, hBl, -getM, getM_hit, getM_miss, getM_none]; (repeat (simp (disch := first | omega | assumption | fail) only [if_pos, if_neg, wrap64]; try simp [List.zipIdx, hkI, hap, tkI, hBl, -getM, getM_hit, getM_miss, getM_none])))))) | (refine aw_cond (b := _) (by exact rfl) (fun h => ?_) (fun h => ?_) <;> (try simp at h)) | (refine aw_block ?_) | (refine aw_skip ?_; simp only [thenQ, blockQ, if_true]) | (refine aw_exit ?_; simp [thenQ, blockQ]) | (refine aw_ret ?_; simp only [thenQ, blockQ]) | (refine aw_round ?_) | (refine hK _ ?_; clear hK) | (clear hK; refine hK _ ?_; clear hK) | (clear hK; clear hK; refine hK _ ?_; clear hK) | (clear hK; clear hK; clear hK; refine hK _ ?_; clear hK))
          refine ⟨k + 1, ?_, by omega, by omega⟩
          simp only [hBs, rgA_len]
          refine le_turn (s1 := ?tus6) (m1 := ?tum6) [] [2, 7, 8, 42, 9, 43] [272] ?tua6 ?tub6 ?tuc6 ?tud6 ?tue6 ?tuf6 ?tug6
          case tua6 => first | (simp [keepS]; done) | (simp [keepS]; rfl)
          case tub6 => first | (simp; done) | (simp; rfl)
          case tuc6 => simp
          case tud6 => simp
          case tue6 => simp
          case tuf6 => simp
          case tug6 =>
            simp [swp, vr]
            exact le_of2 (by simp) (by simp [AVle, AV.under, AV.underL] <;> omega) (by simp [AOle, AO.under, AV.underL, AV.under] <;> omega)
        · obtain rfl : r = k := by omega
          obtain ⟨D, hD⟩ : ∃ D, D = A ++ rgA 100 r := ⟨_, rfl⟩
          have hDl : D.length ≤ 200 := by rw [hD, List.length_append, rgA_len]; omega
          rw [← hD]
          repeat' (first | (apply aw_seq_k; intro K hK) | (refine aw_run hc (by first | exact aw_nod | (intro _; rw [ordB_w hw]; kernel_rfl) | (intro _; rw [ordB_w0 hw0]; kernel_rfl) | (intro _; kernel_rfl)) ?_; simp [List.zipIdx, -getM, getM_hit, getM_miss, getM_none]; (repeat (simp (disch := first | omega | assumption | fail) only [if_pos, if_neg, wrap64]; try simp [List.zipIdx, -getM, getM_hit, getM_miss, getM_none])); try (repeat' (refine guardQ_split (fun h => ?_) (fun h => ?_) <;> simp at h <;> (simp [List.zipIdx, -getM, getM_hit, getM_miss, getM_none]; (repeat (simp (disch := first | omega | assumption | fail) only [if_pos, if_neg, wrap64]; try simp [List.zipIdx, -getM, getM_hit, getM_miss, getM_none])))))) | (refine aw_cond (b := _) (by exact rfl) (fun h => ?_) (fun h => ?_) <;> (try simp at h)) | (refine aw_block ?_) | (refine aw_skip ?_; simp only [thenQ, blockQ, if_true]) | (refine aw_exit ?_; simp [thenQ, blockQ]) | (refine aw_ret ?_; simp only [thenQ, blockQ]) | (refine aw_round ?_) | (refine hK _ ?_; clear hK) | (clear hK; refine hK _ ?_; clear hK) | (clear hK; clear hK; refine hK _ ?_; clear hK) | (clear hK; clear hK; clear hK; refine hK _ ?_; clear hK))
          refine aw_loopK (s0 := ?lps7) (m0 := ?lpm7) (ι := {k : Nat // k ≤ n}) [2, 7, 8, 52] (fun k => [(53, I k.1), (9, .sl 272 1 1 0 (D ++ rgA 0 k.1).length)]) (fun k => [(272, .vec 1 1 false (irows (D ++ rgA 0 k.1)))]) (fun k => n - k.1) ⟨0, by omega⟩ ?lhs7 ?lhm7 ?_ ?_
          case lhs7 => first | (simp [keepS]; done) | (simp [keepS]; rfl)
          case lhm7 => first | rfl | (simp; done) | (simp; rfl)
          · simp only [rgA, List.range_zero, List.map_nil, List.append_nil]
            exact le_of2 (by simp) (by simp [AVle, AV.under, AV.underL] <;> omega) (by simp [AOle, AO.under, AV.underL, AV.under] <;> omega)
          · rintro ⟨k, hk⟩
            simp only
            rcases Decidable.em (k < n) with hkn | hkn
            · have hkI : (k : Int) < (n : Int) := by omega
              have hBs : D ++ rgA 0 (k + 1) = (D ++ rgA 0 k) ++ [(k : Int)] := by rw [rg0_succ, List.append_assoc]
              have hBm : (D ++ rgA 0 k).length = D.length + k := by rw [List.length_append, rgA_len]
              have hBl : (D ++ rgA 0 k).length ≤ 1000 := by omega
              obtain ⟨C, hC⟩ : ∃ C, C = D ++ rgA 0 k := ⟨_, rfl⟩
              rw [← hC] at hBs hBl hBm ⊢
              repeat' (first | (apply aw_seq_k; intro K hK) | (refine aw_run hc (by first | exact aw_nod | (intro _; rw [ordB_w hw]; kernel_rfl) | (intro _; rw [ordB_w0 hw0]; kernel_rfl) | (intro _; kernel_rfl)) ?_; simp [List.zipIdx, hkI, hap, tkI, hBl, -getM, getM_hit, getM_miss, getM_none]; (repeat (simp (disch := first | omega | assumption | fail) only [if_pos, if_neg, wrap64]; try simp [List.zipIdx, hkI, hap, tkI, hBl, -getM, getM_hit, getM_miss, getM_none])); try (repeat' (refine guardQ_split (fun h => ?_) (fun h => ?_) <;> simp at h <;> (simp [List.zipIdx, hkI, hap, tkI, hBl, -getM, getM_hit, getM_miss, getM_none]; (repeat (simp (disch := first | omega | assumption | fail) only [if_pos, if_neg, wrap64]; try simp [List.zipIdx, hkI, hap, tkI, hBl, -getM, getM_hit, getM_miss, getM_none])))))) | (refine aw_cond (b := _) (by exact rfl) (fun h => ?_) (fun h => ?_) <;> (try simp at h)) | (refine aw_block ?_) | (refine aw_skip ?_; simp only [thenQ, blockQ, if_true]) | (refine aw_exit ?_; simp [thenQ, blockQ]) | (refine aw_ret ?_; simp only [thenQ, blockQ]) | (refine aw_round ?_) | (refine hK _ ?_; clear hK) | (clear hK; refine hK _ ?_; clear hK) | (clear hK; clear hK; refine hK _ ?_; clear hK) | (clear hK; clear hK; clear hK; refine hK _ ?_; clear hK))
              refine ⟨k + 1, ?_, by omega, by omega⟩
              simp only [hBs, rgA_len]
              refine le_turn (s1 := ?tus8) (m1 := ?tum8) [] [2, 7, 8, 52, 9, 53] [272] ?tua8 ?tub8 ?tuc8 ?tud8 ?tue8 ?tuf8 ?tug8
              case tua8 => first | (simp [keepS]; done) | (simp [keepS]; rfl)
              case tub8 => first | (simp; done) | (simp; rfl)
              case tuc8 => simp
              case tud8 => simp
              case tue8 => simp
              case tuf8 => simp
              case tug8 =>
                simp [swp, vr]
                exact le_of2 (by simp) (by simp [AVle, AV.under, AV.underL] <;> omega) (by simp [AOle, AO.under, AV.underL, AV.under] <;> omega)
            · obtain rfl : n = k := by omega
              obtain ⟨Lm, hLm⟩ : ∃ Lm, Lm = D ++ rgA 0 n := ⟨_, rfl⟩
              rw [← hLm]
              have hLs : Lm = scanL n r := by rw [hLm, hD, hR2]; rfl
              have hLl := scanL_len n r
              rw [← hLs] at hLl
              have hF := F19_at Lm z (n : Int)
              have hlz : (n : Int) < z ∧ z ≤ 16 := hz1
              have hso := scan_out (size := z) (n := n) (by omega) hz1.1 r
              rw [← hLs] at hso
              have hR : lisR Lm z (n : Int) = (scanO n r, 0) := by
                have h1 : ¬ ((n : Int) < 0 ∨ z < (n : Int)) := by omega
                have hE : lisE Lm.length z (n : Int) = 0 := by
                  unfold lisE
                  rw [if_pos (errS_zero.2 ⟨by omega, by omega, by omega⟩), if_neg h1]
                unfold lisR
                rw [if_pos hE, hso]
              rw [hR] at hF
              simp only at hF
              have hol := scanO_len n r
              have hog := fun (i : Nat) => scanO_gi (n := n) (r := r) (i := i)
              have hfl := scanO_fl n r
              have hCl := F22_at (scanO n r) (by omega)
              rw [hfl] at hCl
              obtain ⟨O, hO⟩ : ∃ O, O = scanO n r := ⟨_, rfl⟩
              rw [← hO] at hF hol hog hCl
              have hoL : O.length = Lm.length := by omega
              have hT : List.take Lm.length (irows O) = irows O := List.take_of_length_le (by rw [irows_length]; omega)
              obtain ⟨q, hq⟩ : ∃ q : Nat, (Lm.length : Int) - (n : Int) = (q : Int) := ⟨2 * n + r, by omega⟩
              rw [Int.natCast_add] at hCl
              repeat' (first | (apply aw_seq_k; intro K hK) | (refine aw_run hc (by first | exact aw_nod | (intro _; rw [ordB_w hw]; kernel_rfl) | (intro _; rw [ordB_w0 hw0]; kernel_rfl) | (intro _; kernel_rfl)) ?_; simp [List.zipIdx, hF, L.h19, tkI, hoL, hq, -getM, getM_hit, getM_miss, getM_none]; (repeat (simp (disch := first | omega | assumption | fail) only [if_pos, if_neg, wrap64]; try simp [List.zipIdx, hF, L.h19, tkI, hoL, hq, -getM, getM_hit, getM_miss, getM_none])); try (repeat' (refine guardQ_split (fun h => ?_) (fun h => ?_) <;> simp at h <;> (simp [List.zipIdx, hF, L.h19, tkI, hoL, hq, -getM, getM_hit, getM_miss, getM_none]; (repeat (simp (disch := first | omega | assumption | fail) only [if_pos, if_neg, wrap64]; try simp [List.zipIdx, hF, L.h19, tkI, hoL, hq, -getM, getM_hit, getM_miss, getM_none])))))) | (refine aw_cond (b := _) (by exact rfl) (fun h => ?_) (fun h => ?_) <;> (try simp at h)) | (refine aw_block ?_) | (refine aw_skip ?_; simp only [thenQ, blockQ, if_true]) | (refine aw_exit ?_; simp [thenQ, blockQ]) | (refine aw_ret ?_; simp only [thenQ, blockQ]) | (refine aw_round ?_) | (refine hK _ ?_; clear hK) | (clear hK; refine hK _ ?_; clear hK) | (clear hK; clear hK; refine hK _ ?_; clear hK) | (clear hK; clear hK; clear hK; refine hK _ ?_; clear hK))
              refine aw_loopK (s0 := ?lps9) (m0 := ?lpm9) (ι := {i : Nat // q ≤ i ∧ i ≤ Lm.length}) [2, 7, 9, 13] (fun i => [(15, I i.1)]) (fun _ => []) (fun i => Lm.length - i.1) ⟨q, by omega⟩ ?lhs9 ?lhm9 ?_ ?_
              case lhs9 => first | (simp [keepS]; done) | (simp [keepS]; rfl)
              case lhm9 => first | rfl | (simp; done) | (simp; rfl)
              · exact le_of2 (by simp) (by simp [AVle, AV.under, AV.underL] <;> omega) (by simp [AOle, AO.under, AV.underL, AV.under] <;> omega)
              · rintro ⟨i, hqi, hi⟩
                simp only
                rcases Decidable.em (i < Lm.length) with hil | hil
                · have hilI : (i : Int) < (Lm.length : Int) := by omega
                  have hgo := irows_gi (l := O) (n := i) (by omega)
                  have hgoE := gE (l := O) (n := i) (by omega)
                  rw [hog i (by omega) (by omega)] at hgo hgoE
                  repeat' (first | (apply aw_seq_k; intro K hK) | (refine aw_run hc (by first | exact aw_nod | (intro _; rw [ordB_w hw]; kernel_rfl) | (intro _; rw [ordB_w0 hw0]; kernel_rfl) | (intro _; kernel_rfl)) ?_; simp [List.zipIdx, hilI, hgo, hgoE, hoL, tkI, -getM, getM_hit, getM_miss, getM_none]; (repeat (simp (disch := first | omega | assumption | fail) only [if_pos, if_neg, wrap64]; try simp [List.zipIdx, hilI, hgo, hgoE, hoL, tkI, -getM, getM_hit, getM_miss, getM_none])); try (repeat' (refine guardQ_split (fun h => ?_) (fun h => ?_) <;> simp at h <;> (simp [List.zipIdx, hilI, hgo, hgoE, hoL, tkI, -getM, getM_hit, getM_miss, getM_none]; (repeat (simp (disch := first | omega | assumption | fail) only [if_pos, if_neg, wrap64]; try simp [List.zipIdx, hilI, hgo, hgoE, hoL, tkI, -getM, getM_hit, getM_miss, getM_none])))))) | (refine aw_cond (b := _) (by exact rfl) (fun h => ?_) (fun h => ?_) <;> (try simp at h)) | (refine aw_block ?_) | (refine aw_skip ?_; simp only [thenQ, blockQ, if_true]) | (refine aw_exit ?_; simp [thenQ, blockQ]) | (refine aw_ret ?_; simp only [thenQ, blockQ]) | (refine aw_round ?_) | (refine hK _ ?_; clear hK) | (clear hK; refine hK _ ?_; clear hK) | (clear hK; clear hK; refine hK _ ?_; clear hK) | (clear hK; clear hK; clear hK; refine hK _ ?_; clear hK))
                  refine ⟨i + 1, ?_, by omega, by omega⟩
                  refine le_turn (s1 := ?tus10) (m1 := ?tum10) [] [2, 7, 9, 13, 15] [272, 465] ?tua10 ?tub10 ?tuc10 ?tud10 ?tue10 ?tuf10 ?tug10
                  case tua10 => first | (simp [keepS]; done) | (simp [keepS]; rfl)
                  case tub10 => first | (simp; done) | (simp; rfl)
                  case tuc10 => simp
                  case tud10 => simp
                  case tue10 => simp
                  case tuf10 => simp
                  case tug10 =>
                    simp [swp, vr]
                    exact le_of2 (by simp) (by simp [AVle, AV.under, AV.underL] <;> omega) (by simp [AOle, AO.under, AV.underL, AV.under] <;> omega)
                · obtain rfl : i = Lm.length := by omega
                  repeat' (first | (apply aw_seq_k; intro K hK) | (refine aw_run hc (by first | exact aw_nod | (intro _; rw [ordB_w hw]; kernel_rfl) | (intro _; rw [ordB_w0 hw0]; kernel_rfl) | (intro _; kernel_rfl)) ?_; simp [List.zipIdx, L.h22, hCl, e3, hT, hoL, tkI, -getM, getM_hit, getM_miss, getM_none]; (repeat (simp (disch := first | omega | assumption | fail) only [if_pos, if_neg, wrap64]; try simp [List.zipIdx, L.h22, hCl, e3, hT, hoL, tkI, -getM, getM_hit, getM_miss, getM_none])); try (repeat' (refine guardQ_split (fun h => ?_) (fun h => ?_) <;> simp at h <;> (simp [List.zipIdx, L.h22, hCl, e3, hT, hoL, tkI, -getM, getM_hit, getM_miss, getM_none]; (repeat (simp (disch := first | omega | assumption | fail) only [if_pos, if_neg, wrap64]; try simp [List.zipIdx, L.h22, hCl, e3, hT, hoL, tkI, -getM, getM_hit, getM_miss, getM_none])))))) | (refine aw_cond (b := _) (by exact rfl) (fun h => ?_) (fun h => ?_) <;> (try simp at h)) | (refine aw_block ?_) | (refine aw_skip ?_; simp only [thenQ, blockQ, if_true]) | (refine aw_exit ?_; simp [thenQ, blockQ]) | (refine aw_ret ?_; simp only [thenQ, blockQ]) | (refine aw_round ?_) | (refine hK _ ?_; clear hK) | (clear hK; refine hK _ ?_; clear hK) | (clear hK; clear hK; refine hK _ ?_; clear hK) | (clear hK; clear hK; clear hK; refine hK _ ?_; clear hK))
                  refine ⟨by simp, ?_⟩
                  simp [leaves_iff, Try.f10]
                  try (first | omega | (refine decide_eq_decide.2 ?_; omega) | (refine decide_eq_false ?_; omega) | (refine decide_eq_true ?_; omega))
end Go.AM
