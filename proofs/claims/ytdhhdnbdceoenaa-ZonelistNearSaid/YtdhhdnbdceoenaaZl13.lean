/- Zonelist: the reference's Nodes. -/
import Derived.Test.YtdhhdnbdceoenaaZl12
set_option linter.all false

namespace Go.AM
open Go Go.Proofs

def nodP (zs : List Zo) (n : Int) (d : Nat) : List Int := ((cand n).take (2 * d - 1)).filter (hasN zs)
theorem nodP_zero (zs : List Zo) (n : Int) : nodP zs n 0 = [] := rfl
theorem nodP_all (zs : List Zo) (n : Int) : nodP zs n 4 = nodesL zs n := rfl
theorem nodP_one (zs : List Zo) (n : Int) : nodP zs n 1 = if hasN zs n then [n] else [] := by
  simp [nodP, cand, List.filter_cons]
theorem nodP_succ {zs : List Zo} {n : Int} {d : Nat} (h0 : 0 < d) (h : d < 4) : nodP zs n (d + 1) = nodP zs n d ++ ((if hasN zs (n - d) then [n - (d : Int)] else []) ++ (if hasN zs (n + d) then [n + (d : Int)] else [])) := by
  obtain rfl | rfl | rfl : d = 1 ∨ d = 2 ∨ d = 3 := by omega
  all_goals (simp [nodP, cand, List.filter_cons]; try (cases hasN zs n <;> cases hasN zs (n - 1) <;> cases hasN zs (n + 1) <;> cases hasN zs (n - 2) <;> cases hasN zs (n + 2) <;> cases hasN zs (n - 3) <;> cases hasN zs (n + 3) <;> simp))
theorem nodP_len (zs : List Zo) (n : Int) (d : Nat) : (nodP zs n d).length ≤ 7 := by
  unfold nodP
  refine Nat.le_trans (List.length_filter_le _ _) ?_
  rw [List.length_take]
  exact Nat.min_le_right _ _

theorem s16 (X : AX) (hX : XOK Try.prog X) (hw : X.W wT) (h14 : ∀ xs M n, X.call 14 [.rd 10 (zrows xs)] M n = some (I (chkZ (zos xs)), []))
    (h30 : ∀ xs n M k, xs.length ≤ 6 → X.call 30 [.rd 10 (zrows xs), I n] M k = some (B (hasN (zos xs) n), [])) :
    PSound Try.prog 16 (specF (ι := List Zx × Int) (fun x => [.rd 10 (zrows x.1), I x.2]) fun x => retOf [.ow 1 (irows (nodesR (zos x.1) x.2).1), I (nodesR (zos x.1) x.2).2]) := by
  refine psound_spec hX mixed Try.func16 rfl fun ⟨xs, n⟩ w0 G => ⟨by show 2 ≤ 51; decide, rfl, ?_⟩
  show AW ⟨Try.prog, X, 51, w0, .pure G⟩ _ _ _
  have hc : Cx.OK ⟨Try.prog, X, 51, w0, .pure G⟩ := ⟨hX, mixed⟩
  simp only
  unfold nodesR errN
  rcases Decidable.em (chkZ (zos xs) = 0) with h | h
  · have h14z := fun M i => h14 xs M i
    simp only [h] at h14z
    rw [h]
    rcases Decidable.em (n < 0) with h1 | h1
    · have e : (if (0 : Int) ≠ 0 then (0 : Int) else if n < 0 ∨ 4 ≤ n then 2 else 0) = 2 := by rw [if_neg (by simp), if_pos (.inl h1)]
      rw [e]
      repeat' (first | (apply aw_seq_k; intro K hK) | (refine aw_run hc (by first | exact aw_nod | (intro _; rw [ordB_w hw]; kernel_rfl) | (intro _; rw [ordB_w0 hw0]; kernel_rfl) | (intro _; kernel_rfl)) ?_; simp [List.zipIdx, h14z, h1, -getM, getM_hit, getM_miss, getM_none]; (repeat (simp (disch := first | omega | assumption | fail) only [if_pos, if_neg, wrap64]; try simp [List.zipIdx, h14z, h1, -getM, getM_hit, getM_miss, getM_none])); try (repeat' (refine guardQ_split (fun h => ?_) (fun h => ?_) <;> simp at h <;> (simp [List.zipIdx, h14z, h1, -getM, getM_hit, getM_miss, getM_none]; (repeat (simp (disch := first | omega | assumption | fail) only [if_pos, if_neg, wrap64]; try simp [List.zipIdx, h14z, h1, -getM, getM_hit, getM_miss, getM_none])))))) | (refine aw_cond (b := _) (by exact rfl) (fun h => ?_) (fun h => ?_) <;> (try simp at h)) | (refine aw_block ?_) | (refine aw_skip ?_; simp only [thenQ, blockQ, if_true]) | (refine aw_exit ?_; simp [thenQ, blockQ]) | (refine aw_ret ?_; simp only [thenQ, blockQ]) | (refine aw_round ?_) | (refine hK _ ?_; clear hK) | (clear hK; refine hK _ ?_; clear hK) | (clear hK; clear hK; refine hK _ ?_; clear hK) | (clear hK; clear hK; clear hK; refine hK _ ?_; clear hK))
      refine ⟨by simp, ?_⟩
      simp [leaves_iff, Try.f16, irows]
      try (first | omega | (refine decide_eq_decide.2 ?_; omega) | (refine decide_eq_false ?_; omega) | (refine decide_eq_true ?_; omega))
    rcases Decidable.em (4 ≤ n) with h2 | h2
    · have e : (if (0 : Int) ≠ 0 then (0 : Int) else if n < 0 ∨ 4 ≤ n then 2 else 0) = 2 := by rw [if_neg (by simp), if_pos (.inr h2)]
      rw [e]
      repeat' (first | (apply aw_seq_k; intro K hK) | (refine aw_run hc (by first | exact aw_nod | (intro _; rw [ordB_w hw]; kernel_rfl) | (intro _; rw [ordB_w0 hw0]; kernel_rfl) | (intro _; kernel_rfl)) ?_; simp [List.zipIdx, h14z, h1, h2, -getM, getM_hit, getM_miss, getM_none]; (repeat (simp (disch := first | omega | assumption | fail) only [if_pos, if_neg, wrap64]; try simp [List.zipIdx, h14z, h1, h2, -getM, getM_hit, getM_miss, getM_none])); try (repeat' (refine guardQ_split (fun h => ?_) (fun h => ?_) <;> simp at h <;> (simp [List.zipIdx, h14z, h1, h2, -getM, getM_hit, getM_miss, getM_none]; (repeat (simp (disch := first | omega | assumption | fail) only [if_pos, if_neg, wrap64]; try simp [List.zipIdx, h14z, h1, h2, -getM, getM_hit, getM_miss, getM_none])))))) | (refine aw_cond (b := _) (by exact rfl) (fun h => ?_) (fun h => ?_) <;> (try simp at h)) | (refine aw_block ?_) | (refine aw_skip ?_; simp only [thenQ, blockQ, if_true]) | (refine aw_exit ?_; simp [thenQ, blockQ]) | (refine aw_ret ?_; simp only [thenQ, blockQ]) | (refine aw_round ?_) | (refine hK _ ?_; clear hK) | (clear hK; refine hK _ ?_; clear hK) | (clear hK; clear hK; refine hK _ ?_; clear hK) | (clear hK; clear hK; clear hK; refine hK _ ?_; clear hK))
      refine ⟨by simp, ?_⟩
      simp [leaves_iff, Try.f16, irows]
      try (first | omega | (refine decide_eq_decide.2 ?_; omega) | (refine decide_eq_false ?_; omega) | (refine decide_eq_true ?_; omega))
    · have e : (if (0 : Int) ≠ 0 then (0 : Int) else if n < 0 ∨ 4 ≤ n then 2 else 0) = 0 := by rw [if_neg (by simp), if_neg (by omega)]
      rw [e, if_neg (by simp)]
      simp only
      have hok := chkZ_zero.1 h
      have hl : xs.length ≤ 6 := by have := hok.1; rwa [zos_len] at this
      repeat' (first | (apply aw_seq_k; intro K hK) | (refine aw_run hc (by first | exact aw_nod | (intro _; rw [ordB_w hw]; kernel_rfl) | (intro _; rw [ordB_w0 hw0]; kernel_rfl) | (intro _; kernel_rfl)) ?_; simp [List.zipIdx, h14z, h1, h2, -getM, getM_hit, getM_miss, getM_none]; (repeat (simp (disch := first | omega | assumption | fail) only [if_pos, if_neg, wrap64]; try simp [List.zipIdx, h14z, h1, h2, -getM, getM_hit, getM_miss, getM_none])); try (repeat' (refine guardQ_split (fun h => ?_) (fun h => ?_) <;> simp at h <;> (simp [List.zipIdx, h14z, h1, h2, -getM, getM_hit, getM_miss, getM_none]; (repeat (simp (disch := first | omega | assumption | fail) only [if_pos, if_neg, wrap64]; try simp [List.zipIdx, h14z, h1, h2, -getM, getM_hit, getM_miss, getM_none])))))) | (refine aw_cond (b := _) (by exact rfl) (fun h => ?_) (fun h => ?_) <;> (try simp at h)) | (refine aw_block ?_) | (refine aw_skip ?_; simp only [thenQ, blockQ, if_true]) | (refine aw_exit ?_; simp [thenQ, blockQ]) | (refine aw_ret ?_; simp only [thenQ, blockQ]) | (refine aw_round ?_) | (refine hK _ ?_; clear hK) | (clear hK; refine hK _ ?_; clear hK) | (clear hK; clear hK; refine hK _ ?_; clear hK) | (clear hK; clear hK; clear hK; refine hK _ ?_; clear hK))
      refine aw_weaken (le_nilslot (t := 7) (sz := 1) (by simp)) ?_
      refine aw_loopK (s0 := ?lps1) (m0 := ?lpm1) (ι := {d : Nat // d ≤ 4}) [0, 1] (fun d => [(8, I d.1), (7, .sl 240 1 1 0 (nodP (zos xs) n d.1).length)]) (fun d => [(240, .vec 1 1 false (irows (nodP (zos xs) n d.1)))]) (fun d => 4 - d.1) ⟨0, by omega⟩ ?lhs1 ?lhm1 ?_ ?_
      case lhs1 => first | (simp [keepS]; done) | (simp [keepS]; rfl)
      case lhm1 => first | rfl | (simp; done) | (simp; rfl)
      · simp only [nodP_zero]
        exact le_of2 (by simp) (by simp [AVle, AV.under, AV.underL] <;> omega) (by simp [AOle, AO.under, AV.underL, AV.under] <;> omega)
      · rintro ⟨d, hd⟩
        simp only
        have hnl := nodP_len (zos xs) n d
        rcases Decidable.em (d < 4) with hd4 | hd4
        · have hdI : (d : Int) < 4 := by omega
          have hA := fun M k => h30 xs (n - d) M k hl
          have hB := fun M k => h30 xs (n + d) M k hl
          have htk : ∀ L : List Int, List.take L.length (irows L) = irows L := take_irows
          have hle1 : (nodP (zos xs) n d).length ≤ 1073741823 := by omega
          rcases Decidable.em (d = 0) with hd0 | hd0
          · subst hd0
            have hA0 := fun M k => h30 xs n M k hl
            have hn1 := nodP_one (zos xs) n
            cases ha : hasN (zos xs) n
            · rw [ha] at hn1
              simp at hn1
              simp only [ha] at hA0
              repeat' (first | (apply aw_seq_k; intro K hK) | (refine aw_run hc (by first | exact aw_nod | (intro _; rw [ordB_w hw]; kernel_rfl) | (intro _; rw [ordB_w0 hw0]; kernel_rfl) | (intro _; kernel_rfl)) ?_; simp [List.zipIdx, hA0, nodP_zero, -getM, getM_hit, getM_miss, getM_none]; (repeat (simp (disch := first | omega | assumption | fail) only [if_pos, if_neg, wrap64]; try simp [List.zipIdx, hA0, nodP_zero, -getM, getM_hit, getM_miss, getM_none])); try (repeat' (refine guardQ_split (fun h => ?_) (fun h => ?_) <;> simp at h <;> (simp [List.zipIdx, hA0, nodP_zero, -getM, getM_hit, getM_miss, getM_none]; (repeat (simp (disch := first | omega | assumption | fail) only [if_pos, if_neg, wrap64]; try simp [List.zipIdx, hA0, nodP_zero, -getM, getM_hit, getM_miss, getM_none])))))) | (refine aw_cond (b := _) (by exact rfl) (fun h => ?_) (fun h => ?_) <;> (try simp at h)) | (refine aw_block ?_) | (refine aw_skip ?_; simp only [thenQ, blockQ, if_true]) | (refine aw_exit ?_; simp [thenQ, blockQ]) | (refine aw_ret ?_; simp only [thenQ, blockQ]) | (refine aw_round ?_) | (refine hK _ ?_; clear hK) | (clear hK; refine hK _ ?_; clear hK) | (clear hK; clear hK; refine hK _ ?_; clear hK) | (clear hK; clear hK; clear hK; refine hK _ ?_; clear hK))
              refine ⟨1, ?_, by omega, by omega⟩
              simp only [hn1]
              exact le_of2 (by simp) (by simp [AVle, AV.under, AV.underL] <;> omega) (by simp [AOle, AO.under, AV.underL, AV.under] <;> omega)
            · rw [ha] at hn1
              simp at hn1
              simp only [ha] at hA0
              repeat' (first | (apply aw_seq_k; intro K hK) | (refine aw_run hc (by first | exact aw_nod | (intro _; rw [ordB_w hw]; kernel_rfl) | (intro _; rw [ordB_w0 hw0]; kernel_rfl) | (intro _; kernel_rfl)) ?_; simp [List.zipIdx, hA0, nodP_zero, -getM, getM_hit, getM_miss, getM_none]; (repeat (simp (disch := first | omega | assumption | fail) only [if_pos, if_neg, wrap64]; try simp [List.zipIdx, hA0, nodP_zero, -getM, getM_hit, getM_miss, getM_none])); try (repeat' (refine guardQ_split (fun h => ?_) (fun h => ?_) <;> simp at h <;> (simp [List.zipIdx, hA0, nodP_zero, -getM, getM_hit, getM_miss, getM_none]; (repeat (simp (disch := first | omega | assumption | fail) only [if_pos, if_neg, wrap64]; try simp [List.zipIdx, hA0, nodP_zero, -getM, getM_hit, getM_miss, getM_none])))))) | (refine aw_cond (b := _) (by exact rfl) (fun h => ?_) (fun h => ?_) <;> (try simp at h)) | (refine aw_block ?_) | (refine aw_skip ?_; simp only [thenQ, blockQ, if_true]) | (refine aw_exit ?_; simp [thenQ, blockQ]) | (refine aw_ret ?_; simp only [thenQ, blockQ]) | (refine aw_round ?_) | (refine hK _ ?_; clear hK) | (clear hK; refine hK _ ?_; clear hK) | (clear hK; clear hK; refine hK _ ?_; clear hK) | (clear hK; clear hK; clear hK; refine hK _ ?_; clear hK))
              refine ⟨1, ?_, by omega, by omega⟩
              have hi1 : irows [n] = [[I n]] := rfl
              simp only [hn1, hi1, List.length_singleton]
              refine le_turn (s1 := ?tus2) (m1 := ?tum2) [] [0, 1, 7, 8] [240] ?tua2 ?tub2 ?tuc2 ?tud2 ?tue2 ?tuf2 ?tug2
              case tua2 => first | (simp [keepS]; done) | (simp [keepS]; rfl)
              case tub2 => first | (simp; done) | (simp; rfl)
              case tuc2 => simp
              case tud2 => simp
              case tue2 => simp
              case tuf2 => simp
              case tug2 =>
                simp [swp, vr]
                exact le_of2 (by simp) (by simp [AVle, AV.under, AV.underL] <;> omega) (by simp [AOle, AO.under, AV.underL, AV.under] <;> omega)
          · have hs := nodP_succ (zs := zos xs) (n := n) (d := d) (by omega) hd4
            have hd0I : (0 : Int) < (d : Int) := by omega
            have hd0N : 0 < d := by omega
            cases ha : hasN (zos xs) (n - (d : Int)) <;> cases hb : hasN (zos xs) (n + (d : Int))
            · simp only [ha, hb] at hA hB hs
              repeat' (first | (apply aw_seq_k; intro K hK) | (refine aw_run hc (by first | exact aw_nod | (intro _; rw [ordB_w hw]; kernel_rfl) | (intro _; rw [ordB_w0 hw0]; kernel_rfl) | (intro _; kernel_rfl)) ?_; simp [List.zipIdx, hdI, hd0I, hd0N, hA, hB, htk, hle1, -getM, getM_hit, getM_miss, getM_none]; (repeat (simp (disch := first | omega | assumption | fail) only [if_pos, if_neg, wrap64]; try simp [List.zipIdx, hdI, hd0I, hd0N, hA, hB, htk, hle1, -getM, getM_hit, getM_miss, getM_none])); try (repeat' (refine guardQ_split (fun h => ?_) (fun h => ?_) <;> simp at h <;> (simp [List.zipIdx, hdI, hd0I, hd0N, hA, hB, htk, hle1, -getM, getM_hit, getM_miss, getM_none]; (repeat (simp (disch := first | omega | assumption | fail) only [if_pos, if_neg, wrap64]; try simp [List.zipIdx, hdI, hd0I, hd0N, hA, hB, htk, hle1, -getM, getM_hit, getM_miss, getM_none])))))) | (refine aw_cond (b := _) (by exact rfl) (fun h => ?_) (fun h => ?_) <;> (try simp at h)) | (refine aw_block ?_) | (refine aw_skip ?_; simp only [thenQ, blockQ, if_true]) | (refine aw_exit ?_; simp [thenQ, blockQ]) | (refine aw_ret ?_; simp only [thenQ, blockQ]) | (refine aw_round ?_) | (refine hK _ ?_; clear hK) | (clear hK; refine hK _ ?_; clear hK) | (clear hK; clear hK; refine hK _ ?_; clear hK) | (clear hK; clear hK; clear hK; refine hK _ ?_; clear hK))
              refine ⟨d + 1, ?_, by omega, by omega⟩
              have hs2 : nodP (zos xs) n (d + 1) = nodP (zos xs) n d := by rw [hs]; simp
              simp only [hs2]
              exact le_of2 (by simp) (by simp [AVle, AV.under, AV.underL] <;> omega) (by simp [AOle, AO.under, AV.underL, AV.under] <;> omega)
            · simp only [ha, hb] at hA hB hs
              have hap1 : irows (nodP (zos xs) n d) ++ [[I (n + (d : Int))]] = irows (nodP (zos xs) n d ++ [n + (d : Int)]) := by rw [irows_one, irows_append]
              repeat' (first | (apply aw_seq_k; intro K hK) | (refine aw_run hc (by first | exact aw_nod | (intro _; rw [ordB_w hw]; kernel_rfl) | (intro _; rw [ordB_w0 hw0]; kernel_rfl) | (intro _; kernel_rfl)) ?_; simp [List.zipIdx, hdI, hd0I, hd0N, hA, hB, htk, hle1, hap1, -getM, getM_hit, getM_miss, getM_none]; (repeat (simp (disch := first | omega | assumption | fail) only [if_pos, if_neg, wrap64]; try simp [List.zipIdx, hdI, hd0I, hd0N, hA, hB, htk, hle1, hap1, -getM, getM_hit, getM_miss, getM_none])); try (repeat' (refine guardQ_split (fun h => ?_) (fun h => ?_) <;> simp at h <;> (simp [List.zipIdx, hdI, hd0I, hd0N, hA, hB, htk, hle1, hap1, -getM, getM_hit, getM_miss, getM_none]; (repeat (simp (disch := first | omega | assumption | fail) only [if_pos, if_neg, wrap64]; try simp [List.zipIdx, hdI, hd0I, hd0N, hA, hB, htk, hle1, hap1, -getM, getM_hit, getM_miss, getM_none])))))) | (refine aw_cond (b := _) (by exact rfl) (fun h => ?_) (fun h => ?_) <;> (try simp at h)) | (refine aw_block ?_) | (refine aw_skip ?_; simp only [thenQ, blockQ, if_true]) | (refine aw_exit ?_; simp [thenQ, blockQ]) | (refine aw_ret ?_; simp only [thenQ, blockQ]) | (refine aw_round ?_) | (refine hK _ ?_; clear hK) | (clear hK; refine hK _ ?_; clear hK) | (clear hK; clear hK; refine hK _ ?_; clear hK) | (clear hK; clear hK; clear hK; refine hK _ ?_; clear hK))
              refine ⟨d + 1, ?_, by omega, by omega⟩
              have hs2 : nodP (zos xs) n d ++ [n + (d : Int)] = nodP (zos xs) n (d + 1) := by rw [hs]; simp
              have hl2 : (nodP (zos xs) n d).length + 1 = (nodP (zos xs) n (d + 1)).length := by rw [← hs2]; simp
              simp only [hl2, hs2]
              refine le_turn (s1 := ?tus3) (m1 := ?tum3) [] [0, 1, 7, 8] [240] ?tua3 ?tub3 ?tuc3 ?tud3 ?tue3 ?tuf3 ?tug3
              case tua3 => first | (simp [keepS]; done) | (simp [keepS]; rfl)
              case tub3 => first | (simp; done) | (simp; rfl)
              case tuc3 => simp
              case tud3 => simp
              case tue3 => simp
              case tuf3 => simp
              case tug3 =>
                simp [swp, vr]
                exact le_of2 (by simp) (by simp [AVle, AV.under, AV.underL] <;> omega) (by simp [AOle, AO.under, AV.underL, AV.under] <;> omega)
            · simp only [ha, hb] at hA hB hs
              have hap1 : irows (nodP (zos xs) n d) ++ [[I (n - (d : Int))]] = irows (nodP (zos xs) n d ++ [n - (d : Int)]) := by rw [irows_one, irows_append]
              repeat' (first | (apply aw_seq_k; intro K hK) | (refine aw_run hc (by first | exact aw_nod | (intro _; rw [ordB_w hw]; kernel_rfl) | (intro _; rw [ordB_w0 hw0]; kernel_rfl) | (intro _; kernel_rfl)) ?_; simp [List.zipIdx, hdI, hd0I, hd0N, hA, hB, htk, hle1, hap1, -getM, getM_hit, getM_miss, getM_none]; (repeat (simp (disch := first | omega | assumption | fail) only [if_pos, if_neg, wrap64]; try simp [List.zipIdx, hdI, hd0I, hd0N, hA, hB, htk, hle1, hap1, -getM, getM_hit, getM_miss, getM_none])); try (repeat' (refine guardQ_split (fun h => ?_) (fun h => ?_) <;> simp at h <;> (simp [List.zipIdx, hdI, hd0I, hd0N, hA, hB, htk, hle1, hap1, -getM, getM_hit, getM_miss, getM_none]; (repeat (simp (disch := first | omega | assumption | fail) only [if_pos, if_neg, wrap64]; try simp [List.zipIdx, hdI, hd0I, hd0N, hA, hB, htk, hle1, hap1, -getM, getM_hit, getM_miss, getM_none])))))) | (refine aw_cond (b := _) (by exact rfl) (fun h => ?_) (fun h => ?_) <;> (try simp at h)) | (refine aw_block ?_) | (refine aw_skip ?_; simp only [thenQ, blockQ, if_true]) | (refine aw_exit ?_; simp [thenQ, blockQ]) | (refine aw_ret ?_; simp only [thenQ, blockQ]) | (refine aw_round ?_) | (refine hK _ ?_; clear hK) | (clear hK; refine hK _ ?_; clear hK) | (clear hK; clear hK; refine hK _ ?_; clear hK) | (clear hK; clear hK; clear hK; refine hK _ ?_; clear hK))
              refine ⟨d + 1, ?_, by omega, by omega⟩
              have hs2 : nodP (zos xs) n d ++ [n - (d : Int)] = nodP (zos xs) n (d + 1) := by rw [hs]; simp
              have hl2 : (nodP (zos xs) n d).length + 1 = (nodP (zos xs) n (d + 1)).length := by rw [← hs2]; simp
              simp only [hl2, hs2]
              refine le_turn (s1 := ?tus4) (m1 := ?tum4) [] [0, 1, 7, 8] [240] ?tua4 ?tub4 ?tuc4 ?tud4 ?tue4 ?tuf4 ?tug4
              case tua4 => first | (simp [keepS]; done) | (simp [keepS]; rfl)
              case tub4 => first | (simp; done) | (simp; rfl)
              case tuc4 => simp
              case tud4 => simp
              case tue4 => simp
              case tuf4 => simp
              case tug4 =>
                simp [swp, vr]
                exact le_of2 (by simp) (by simp [AVle, AV.under, AV.underL] <;> omega) (by simp [AOle, AO.under, AV.underL, AV.under] <;> omega)
            · simp only [ha, hb] at hA hB hs
              have hap1 : irows (nodP (zos xs) n d) ++ [[I (n - (d : Int))]] = irows (nodP (zos xs) n d ++ [n - (d : Int)]) := by rw [irows_one, irows_append]
              have htk1 : List.take ((nodP (zos xs) n d).length + 1) (irows (nodP (zos xs) n d ++ [n - (d : Int)])) = irows (nodP (zos xs) n d ++ [n - (d : Int)]) := by rw [irows_take, List.take_of_length_le (by simp)]
              have hap2 : irows (nodP (zos xs) n d ++ [n - (d : Int)]) ++ [[I (n + (d : Int))]] = irows (nodP (zos xs) n (d + 1)) := by rw [irows_one, irows_append, hs]; simp
              have hle2 : (nodP (zos xs) n d).length + 1 ≤ 1073741823 := by omega
              repeat' (first | (apply aw_seq_k; intro K hK) | (refine aw_run hc (by first | exact aw_nod | (intro _; rw [ordB_w hw]; kernel_rfl) | (intro _; rw [ordB_w0 hw0]; kernel_rfl) | (intro _; kernel_rfl)) ?_; simp [List.zipIdx, hdI, hd0I, hd0N, hA, hB, htk, hle1, hap1, htk1, hap2, hle2, -getM, getM_hit, getM_miss, getM_none]; (repeat (simp (disch := first | omega | assumption | fail) only [if_pos, if_neg, wrap64]; try simp [List.zipIdx, hdI, hd0I, hd0N, hA, hB, htk, hle1, hap1, htk1, hap2, hle2, -getM, getM_hit, getM_miss, getM_none])); try (repeat' (refine guardQ_split (fun h => ?_) (fun h => ?_) <;> simp at h <;> (simp [List.zipIdx, hdI, hd0I, hd0N, hA, hB, htk, hle1, hap1, htk1, hap2, hle2, -getM, getM_hit, getM_miss, getM_none]; (repeat (simp (disch := first | omega | assumption | fail) only [if_pos, if_neg, wrap64]; try simp [List.zipIdx, hdI, hd0I, hd0N, hA, hB, htk, hle1, hap1, htk1, hap2, hle2, -getM, getM_hit, getM_miss, getM_none])))))) | (refine aw_cond (b := _) (by exact rfl) (fun h => ?_) (fun h => ?_) <;> (try simp at h)) | (refine aw_block ?_) | (refine aw_skip ?_; simp only [thenQ, blockQ, if_true]) | (refine aw_exit ?_; simp [thenQ, blockQ]) | (refine aw_ret ?_; simp only [thenQ, blockQ]) | (refine aw_round ?_) | (refine hK _ ?_; clear hK) | (clear hK; refine hK _ ?_; clear hK) | (clear hK; clear hK; refine hK _ ?_; clear hK) | (clear hK; clear hK; clear hK; refine hK _ ?_; clear hK))
              refine ⟨d + 1, ?_, by omega, by omega⟩
              have hl2 : (nodP (zos xs) n d).length + 1 + 1 = (nodP (zos xs) n (d + 1)).length := by rw [hs]; simp
              simp only [hl2]
              refine le_turn (s1 := ?tus5) (m1 := ?tum5) [] [0, 1, 7, 8] [240] ?tua5 ?tub5 ?tuc5 ?tud5 ?tue5 ?tuf5 ?tug5
              case tua5 => first | (simp [keepS]; done) | (simp [keepS]; rfl)
              case tub5 => first | (simp; done) | (simp; rfl)
              case tuc5 => simp
              case tud5 => simp
              case tue5 => simp
              case tuf5 => simp
              case tug5 =>
                simp [swp, vr]
                exact le_of2 (by simp) (by simp [AVle, AV.under, AV.underL] <;> omega) (by simp [AOle, AO.under, AV.underL, AV.under] <;> omega)
        · obtain rfl : d = 4 := by omega
          rw [nodP_all]
          repeat' (first | (apply aw_seq_k; intro K hK) | (refine aw_run hc (by first | exact aw_nod | (intro _; rw [ordB_w hw]; kernel_rfl) | (intro _; rw [ordB_w0 hw0]; kernel_rfl) | (intro _; kernel_rfl)) ?_; simp [List.zipIdx, -getM, getM_hit, getM_miss, getM_none]; (repeat (simp (disch := first | omega | assumption | fail) only [if_pos, if_neg, wrap64]; try simp [List.zipIdx, -getM, getM_hit, getM_miss, getM_none])); try (repeat' (refine guardQ_split (fun h => ?_) (fun h => ?_) <;> simp at h <;> (simp [List.zipIdx, -getM, getM_hit, getM_miss, getM_none]; (repeat (simp (disch := first | omega | assumption | fail) only [if_pos, if_neg, wrap64]; try simp [List.zipIdx, -getM, getM_hit, getM_miss, getM_none])))))) | (refine aw_cond (b := _) (by exact rfl) (fun h => ?_) (fun h => ?_) <;> (try simp at h)) | (refine aw_block ?_) | (refine aw_skip ?_; simp only [thenQ, blockQ, if_true]) | (refine aw_exit ?_; simp [thenQ, blockQ]) | (refine aw_ret ?_; simp only [thenQ, blockQ]) | (refine aw_round ?_) | (refine hK _ ?_; clear hK) | (clear hK; refine hK _ ?_; clear hK) | (clear hK; clear hK; refine hK _ ?_; clear hK) | (clear hK; clear hK; clear hK; refine hK _ ?_; clear hK))
          refine ⟨by simp, ?_⟩
          simp [leaves_iff, Try.f16, take_irows]
          try (first | omega | (refine decide_eq_decide.2 ?_; omega) | (refine decide_eq_false ?_; omega) | (refine decide_eq_true ?_; omega))
  · rw [if_pos h, if_pos h]
    repeat' (first | (apply aw_seq_k; intro K hK) | (refine aw_run hc (by first | exact aw_nod | (intro _; rw [ordB_w hw]; kernel_rfl) | (intro _; rw [ordB_w0 hw0]; kernel_rfl) | (intro _; kernel_rfl)) ?_; simp [List.zipIdx, h14, h, -getM, getM_hit, getM_miss, getM_none]; (repeat (simp (disch := first | omega | assumption | fail) only [if_pos, if_neg, wrap64]; try simp [List.zipIdx, h14, h, -getM, getM_hit, getM_miss, getM_none])); try (repeat' (refine guardQ_split (fun h => ?_) (fun h => ?_) <;> simp at h <;> (simp [List.zipIdx, h14, h, -getM, getM_hit, getM_miss, getM_none]; (repeat (simp (disch := first | omega | assumption | fail) only [if_pos, if_neg, wrap64]; try simp [List.zipIdx, h14, h, -getM, getM_hit, getM_miss, getM_none])))))) | (refine aw_cond (b := _) (by exact rfl) (fun h => ?_) (fun h => ?_) <;> (try simp at h)) | (refine aw_block ?_) | (refine aw_skip ?_; simp only [thenQ, blockQ, if_true]) | (refine aw_exit ?_; simp [thenQ, blockQ]) | (refine aw_ret ?_; simp only [thenQ, blockQ]) | (refine aw_round ?_) | (refine hK _ ?_; clear hK) | (clear hK; refine hK _ ?_; clear hK) | (clear hK; clear hK; refine hK _ ?_; clear hK) | (clear hK; clear hK; clear hK; refine hK _ ?_; clear hK))
    refine ⟨by simp, ?_⟩
    simp [leaves_iff, Try.f16, irows]
    try (first | omega | (refine decide_eq_decide.2 ?_; omega) | (refine decide_eq_false ?_; omega) | (refine decide_eq_true ?_; omega))
end Go.AM
