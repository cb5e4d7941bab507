/- Zonelist: the reference's Order. -/
import Derived.Test.YtdhhdnbdceoenaaZl13
set_option linter.all false

namespace Go.AM
open Go Go.Proofs

def ordP (zs : List Zo) (L : List Int) (k : Bool) (n : Nat) : List Int := (L.take n).flatMap (onNode zs k)
theorem ordP_zero (zs : List Zo) (L : List Int) (k : Bool) : ordP zs L k 0 = [] := rfl
theorem ordP_all (zs : List Zo) (L : List Int) (k : Bool) {n : Nat} (h : L.length ≤ n) : ordP zs L k n = L.flatMap (onNode zs k) := by unfold ordP; rw [List.take_of_length_le h]
theorem ordP_succ {zs : List Zo} {L : List Int} {k : Bool} {n : Nat} (h : n < L.length) : ordP zs L k (n + 1) = ordP zs L k n ++ onNode zs k (gi L n) := by
  unfold ordP
  rw [take_succ_gi h, List.flatMap_append]
  simp
def zMov (n : Int) (z : Zo) : Bool := decide (z.node = n ∧ z.kind = 1)
def zNor (n : Int) (z : Zo) : Bool := decide (z.node = n ∧ z.kind = 0)
theorem onNode_len (zs : List Zo) (k : Bool) (n : Int) : (onNode zs k n).length ≤ 2 * zs.length := by
  have h1 := idxP_len zs (zMov n) zs.length
  have h2 := idxP_len zs (zNor n) zs.length
  rw [idxP_all] at h1 h2
  unfold onNode
  rw [List.length_append]
  have h3 : (idxZ zs fun z => decide (z.node = n ∧ z.kind = 0)).length ≤ zs.length := h2
  have h4 : (idxZ zs fun z => decide (z.node = n ∧ z.kind = 1)).length ≤ zs.length := h1
  cases k
  · rw [if_neg (by simp)]; omega
  · rw [if_pos rfl, List.length_nil]; omega
theorem ordP_len (zs : List Zo) (L : List Int) (k : Bool) (n : Nat) : (ordP zs L k n).length ≤ n * (2 * zs.length) := by
  unfold ordP
  induction n with
  | zero => simp
  | succ n ih =>
    by_cases h : n < L.length
    · rw [take_succ_gi h, List.flatMap_append, List.length_append]
      have := onNode_len zs k (gi L n)
      simp only [List.flatMap_cons, List.flatMap_nil, List.append_nil]
      rw [Nat.add_mul]; omega
    · rw [List.take_of_length_le (by omega)] at ih ⊢
      rw [Nat.add_mul]; omega

set_option maxHeartbeats 1000000 in
theorem s18 (X : AX) (hX : XOK Try.prog X) (hw : X.W wT)
    (h16 : ∀ xs n M k, X.call 16 [.rd 10 (zrows xs), I n] M k = some (.tup [.sl k 1 1 0 (nodesR (zos xs) n).1.length, I (nodesR (zos xs) n).2], [(k, .vec 1 1 false (irows (nodesR (zos xs) n).1))])) :
    PSound Try.prog 18 (specF (ι := List Zx × Int × Bool) (fun x => [.rd 10 (zrows x.1), I x.2.1, B x.2.2]) fun x => retOf [.ow 1 (irows (orderR (zos x.1) x.2.1 x.2.2).1), I (orderR (zos x.1) x.2.1 x.2.2).2]) := by
  refine psound_spec hX mixed Try.func18 rfl fun ⟨xs, f, kernel⟩ w0 G => ⟨by show 3 ≤ 90; decide, rfl, ?_⟩
  show AW ⟨Try.prog, X, 90, w0, .pure G⟩ _ _ _
  have hc : Cx.OK ⟨Try.prog, X, 90, w0, .pure G⟩ := ⟨hX, mixed⟩
  simp only
  unfold orderR
  rcases Decidable.em (errN (zos xs) f = 0) with h | h
  · obtain ⟨hok, hn⟩ := errN_zero.1 h
    rw [if_neg (by simp [h])]
    have hl : xs.length ≤ 6 := by have := hok.1; rwa [zos_len] at this
    simp only
    have hnr : nodesR (zos xs) f = (nodesL (zos xs) f, 0) := by unfold nodesR; rw [if_neg (by simp [h])]
    have h16z := fun M k => h16 xs f M k
    rw [hnr] at h16z
    simp only at h16z
    unfold orderL
    obtain ⟨L, hL⟩ : ∃ L, L = nodesL (zos xs) f := ⟨_, rfl⟩
    have hLl : L.length ≤ 7 := by rw [hL, ← nodP_all]; exact nodP_len _ _ _
    rw [← hL] at h16z ⊢
    have htk : ∀ L : List Int, List.take L.length (irows L) = irows L := take_irows
    have hap : ∀ (A : List Int) (x : Int), irows A ++ [[I x]] = irows (A ++ [x]) := fun A x => by rw [irows_one, irows_append]
    repeat' (first | (apply aw_seq_k; intro K hK) | (refine aw_run hc (by first | exact aw_nod | (intro _; rw [ordB_w hw]; kernel_rfl) | (intro _; rw [ordB_w0 hw0]; kernel_rfl) | (intro _; kernel_rfl)) ?_; simp [List.zipIdx, h16z, -getM, getM_hit, getM_miss, getM_none]; (repeat (simp (disch := first | omega | assumption | fail) only [if_pos, if_neg, wrap64]; try simp [List.zipIdx, h16z, -getM, getM_hit, getM_miss, getM_none])); try (repeat' (refine guardQ_split (fun h => ?_) (fun h => ?_) <;> simp at h <;> (simp [List.zipIdx, h16z, -getM, getM_hit, getM_miss, getM_none]; (repeat (simp (disch := first | omega | assumption | fail) only [if_pos, if_neg, wrap64]; try simp [List.zipIdx, h16z, -getM, getM_hit, getM_miss, getM_none])))))) | (refine aw_cond (b := _) (by exact rfl) (fun h => ?_) (fun h => ?_) <;> (try simp at h)) | (refine aw_block ?_) | (refine aw_skip ?_; simp only [thenQ, blockQ, if_true]) | (refine aw_exit ?_; simp [thenQ, blockQ]) | (refine aw_ret ?_; simp only [thenQ, blockQ]) | (refine aw_round ?_) | (refine hK _ ?_; clear hK) | (clear hK; refine hK _ ?_; clear hK) | (clear hK; clear hK; refine hK _ ?_; clear hK) | (clear hK; clear hK; clear hK; refine hK _ ?_; clear hK))
    refine aw_weaken (le_nilslot (t := 10) (sz := 1) (by simp)) ?_
    refine aw_loopK (s0 := ?lps1) (m0 := ?lpm1) (ι := {n : Nat // n ≤ L.length}) [0, 2, 8] (fun n => [(11, I n.1), (10, .sl 224 1 1 0 (ordP (zos xs) L kernel n.1).length)]) (fun n => [(224, .vec 1 1 false (irows (ordP (zos xs) L kernel n.1)))]) (fun n => L.length - n.1) ⟨0, by omega⟩ ?lhs1 ?lhm1 ?_ ?_
    case lhs1 => first | (simp [keepS]; done) | (simp [keepS]; rfl)
    case lhm1 => first | rfl | (simp; done) | (simp; rfl)
    · simp only [ordP_zero]
      exact le_of2 (by simp) (by simp [AVle, AV.under, AV.underL] <;> omega) (by simp [AOle, AO.under, AV.underL, AV.under] <;> omega)
    · rintro ⟨n, hn⟩
      simp only
      have hPl := ordP_len (zos xs) L kernel n
      have hPl2 : n * (2 * (zos xs).length) ≤ 7 * 12 := Nat.mul_le_mul (by omega) (by rw [zos_len]; omega)
      rcases Decidable.em (n < L.length) with hnl | hnl
      · have hnlI : (n : Int) < (L.length : Int) := by omega
        have hgL := irows_gi hnl
        have hgLE : ∀ h, (irows L)[n]'h = [I (gi L n)] := fun h => by rw [List.getElem?_eq_getElem h] at hgL; exact Option.some.inj hgL
        obtain ⟨P, hP⟩ : ∃ P, P = ordP (zos xs) L kernel n := ⟨_, rfl⟩
        obtain ⟨c, hcn⟩ : ∃ c, c = gi L n := ⟨_, rfl⟩
        rw [← hcn] at hgL hgLE
        have hsucc := ordP_succ (zs := zos xs) (k := kernel) hnl
        rw [← hP, ← hcn] at hsucc
        rw [← hP] at hPl ⊢
        repeat' (first | (apply aw_seq_k; intro K hK) | (refine aw_run hc (by first | exact aw_nod | (intro _; rw [ordB_w hw]; kernel_rfl) | (intro _; rw [ordB_w0 hw0]; kernel_rfl) | (intro _; kernel_rfl)) ?_; simp [List.zipIdx, hnlI, -getM, getM_hit, getM_miss, getM_none]; (repeat (simp (disch := first | omega | assumption | fail) only [if_pos, if_neg, wrap64]; try simp [List.zipIdx, hnlI, -getM, getM_hit, getM_miss, getM_none])); try (repeat' (refine guardQ_split (fun h => ?_) (fun h => ?_) <;> simp at h <;> (simp [List.zipIdx, hnlI, -getM, getM_hit, getM_miss, getM_none]; (repeat (simp (disch := first | omega | assumption | fail) only [if_pos, if_neg, wrap64]; try simp [List.zipIdx, hnlI, -getM, getM_hit, getM_miss, getM_none])))))) | (refine aw_cond (b := _) (by exact rfl) (fun h => ?_) (fun h => ?_) <;> (try simp at h)) | (refine aw_block ?_) | (refine aw_skip ?_; simp only [thenQ, blockQ, if_true]) | (refine aw_exit ?_; simp [thenQ, blockQ]) | (refine aw_ret ?_; simp only [thenQ, blockQ]) | (refine aw_round ?_) | (refine hK _ ?_; clear hK) | (clear hK; refine hK _ ?_; clear hK) | (clear hK; clear hK; refine hK _ ?_; clear hK) | (clear hK; clear hK; clear hK; refine hK _ ?_; clear hK))
        cases kernel
        · refine aw_loopK (s0 := ?lps2) (m0 := ?lpm2) (ι := {i : Nat // i ≤ xs.length}) [0, 2, 8, 11] (fun i => [(12, I i.1), (10, .sl 224 1 1 0 (P ++ idxP (zos xs) (zMov c) i.1).length)]) (fun i => [(224, .vec 1 1 false (irows (P ++ idxP (zos xs) (zMov c) i.1)))]) (fun i => xs.length - i.1) ⟨0, by omega⟩ ?lhs2 ?lhm2 ?_ ?_
          case lhs2 => first | (simp [keepS]; done) | (simp [keepS]; rfl)
          case lhm2 => first | rfl | (simp; done) | (simp; rfl)
          · simp only [idxP_zero, List.append_nil]
            exact le_of2 (by simp) (by simp [AVle, AV.under, AV.underL] <;> omega) (by simp [AOle, AO.under, AV.underL, AV.under] <;> omega)
          · rintro ⟨i, hi⟩
            simp only
            have hil' := idxP_len (zos xs) (zMov c) i
            rcases Decidable.em (i < xs.length) with hil | hil
            · have hilI : (i : Int) < (xs.length : Int) := by omega
              have hg := zrows_get hil
              simp only [Zx.row] at hg
              have hz := zx_z hil
              rw [hz] at hg
              obtain ⟨R, hR⟩ : ∃ R, R = P ++ idxP (zos xs) (zMov c) i := ⟨_, rfl⟩
              have hRl : R.length ≤ 1073741823 := by rw [hR, List.length_append]; omega
              cases hz : zMov c (zg (zos xs) i)
              · have hnx := idxP_out hz
                have hA : P ++ idxP (zos xs) (zMov c) (i + 1) = R := by rw [hnx, hR]
                have hB : P.length + (idxP (zos xs) (zMov c) (i + 1)).length = R.length := by rw [← hA, List.length_append]
                rw [← hR]
                simp [zMov] at hz
                rcases Decidable.em ((zg (zos xs) i).node = c) with hc1 | hc1
                · have hc2 := hz hc1
                  repeat' (first | (apply aw_seq_k; intro K hK) | (refine aw_run hc (by first | exact aw_nod | (intro _; rw [ordB_w hw]; kernel_rfl) | (intro _; rw [ordB_w0 hw0]; kernel_rfl) | (intro _; kernel_rfl)) ?_; simp [List.zipIdx, hilI, hg, hgL, hgLE, hc1, hc2, -getM, getM_hit, getM_miss, getM_none]; (repeat (simp (disch := first | omega | assumption | fail) only [if_pos, if_neg, wrap64]; try simp [List.zipIdx, hilI, hg, hgL, hgLE, hc1, hc2, -getM, getM_hit, getM_miss, getM_none])); try (repeat' (refine guardQ_split (fun h => ?_) (fun h => ?_) <;> simp at h <;> (simp [List.zipIdx, hilI, hg, hgL, hgLE, hc1, hc2, -getM, getM_hit, getM_miss, getM_none]; (repeat (simp (disch := first | omega | assumption | fail) only [if_pos, if_neg, wrap64]; try simp [List.zipIdx, hilI, hg, hgL, hgLE, hc1, hc2, -getM, getM_hit, getM_miss, getM_none])))))) | (refine aw_cond (b := _) (by exact rfl) (fun h => ?_) (fun h => ?_) <;> (try simp at h)) | (refine aw_block ?_) | (refine aw_skip ?_; simp only [thenQ, blockQ, if_true]) | (refine aw_exit ?_; simp [thenQ, blockQ]) | (refine aw_ret ?_; simp only [thenQ, blockQ]) | (refine aw_round ?_) | (refine hK _ ?_; clear hK) | (clear hK; refine hK _ ?_; clear hK) | (clear hK; clear hK; refine hK _ ?_; clear hK) | (clear hK; clear hK; clear hK; refine hK _ ?_; clear hK))
                  refine ⟨i + 1, ?_, by omega, by omega⟩
                  simp only [hA, hB]
                  exact le_of2 (by simp) (by simp [AVle, AV.under, AV.underL] <;> omega) (by simp [AOle, AO.under, AV.underL, AV.under] <;> omega)
                · repeat' (first | (apply aw_seq_k; intro K hK) | (refine aw_run hc (by first | exact aw_nod | (intro _; rw [ordB_w hw]; kernel_rfl) | (intro _; rw [ordB_w0 hw0]; kernel_rfl) | (intro _; kernel_rfl)) ?_; simp [List.zipIdx, hilI, hg, hgL, hgLE, hc1, -getM, getM_hit, getM_miss, getM_none]; (repeat (simp (disch := first | omega | assumption | fail) only [if_pos, if_neg, wrap64]; try simp [List.zipIdx, hilI, hg, hgL, hgLE, hc1, -getM, getM_hit, getM_miss, getM_none])); try (repeat' (refine guardQ_split (fun h => ?_) (fun h => ?_) <;> simp at h <;> (simp [List.zipIdx, hilI, hg, hgL, hgLE, hc1, -getM, getM_hit, getM_miss, getM_none]; (repeat (simp (disch := first | omega | assumption | fail) only [if_pos, if_neg, wrap64]; try simp [List.zipIdx, hilI, hg, hgL, hgLE, hc1, -getM, getM_hit, getM_miss, getM_none])))))) | (refine aw_cond (b := _) (by exact rfl) (fun h => ?_) (fun h => ?_) <;> (try simp at h)) | (refine aw_block ?_) | (refine aw_skip ?_; simp only [thenQ, blockQ, if_true]) | (refine aw_exit ?_; simp [thenQ, blockQ]) | (refine aw_ret ?_; simp only [thenQ, blockQ]) | (refine aw_round ?_) | (refine hK _ ?_; clear hK) | (clear hK; refine hK _ ?_; clear hK) | (clear hK; clear hK; refine hK _ ?_; clear hK) | (clear hK; clear hK; clear hK; refine hK _ ?_; clear hK))
                  refine ⟨i + 1, ?_, by omega, by omega⟩
                  simp only [hA, hB]
                  exact le_of2 (by simp) (by simp [AVle, AV.under, AV.underL] <;> omega) (by simp [AOle, AO.under, AV.underL, AV.under] <;> omega)
              · have hnx := idxP_in hz
                have hA : P ++ idxP (zos xs) (zMov c) (i + 1) = R ++ [(i : Int)] := by rw [hnx, hR, List.append_assoc]
                have hB : P.length + (idxP (zos xs) (zMov c) (i + 1)).length = R.length + 1 := by rw [← List.length_append, hA]; simp
                rw [← hR]
                simp [zMov] at hz
                repeat' (first | (apply aw_seq_k; intro K hK) | (refine aw_run hc (by first | exact aw_nod | (intro _; rw [ordB_w hw]; kernel_rfl) | (intro _; rw [ordB_w0 hw0]; kernel_rfl) | (intro _; kernel_rfl)) ?_; simp [List.zipIdx, hilI, hg, hgL, hgLE, hz.1, hz.2, htk, hRl, hap, -getM, getM_hit, getM_miss, getM_none]; (repeat (simp (disch := first | omega | assumption | fail) only [if_pos, if_neg, wrap64]; try simp [List.zipIdx, hilI, hg, hgL, hgLE, hz.1, hz.2, htk, hRl, hap, -getM, getM_hit, getM_miss, getM_none])); try (repeat' (refine guardQ_split (fun h => ?_) (fun h => ?_) <;> simp at h <;> (simp [List.zipIdx, hilI, hg, hgL, hgLE, hz.1, hz.2, htk, hRl, hap, -getM, getM_hit, getM_miss, getM_none]; (repeat (simp (disch := first | omega | assumption | fail) only [if_pos, if_neg, wrap64]; try simp [List.zipIdx, hilI, hg, hgL, hgLE, hz.1, hz.2, htk, hRl, hap, -getM, getM_hit, getM_miss, getM_none])))))) | (refine aw_cond (b := _) (by exact rfl) (fun h => ?_) (fun h => ?_) <;> (try simp at h)) | (refine aw_block ?_) | (refine aw_skip ?_; simp only [thenQ, blockQ, if_true]) | (refine aw_exit ?_; simp [thenQ, blockQ]) | (refine aw_ret ?_; simp only [thenQ, blockQ]) | (refine aw_round ?_) | (refine hK _ ?_; clear hK) | (clear hK; refine hK _ ?_; clear hK) | (clear hK; clear hK; refine hK _ ?_; clear hK) | (clear hK; clear hK; clear hK; refine hK _ ?_; clear hK))
                refine ⟨i + 1, ?_, by omega, by omega⟩
                simp only [hA, hB]
                refine le_turn (s1 := ?tus3) (m1 := ?tum3) [] [0, 2, 8, 11, 10, 12] [64, 224] ?tua3 ?tub3 ?tuc3 ?tud3 ?tue3 ?tuf3 ?tug3
                case tua3 => first | (simp [keepS]; done) | (simp [keepS]; rfl)
                case tub3 => first | (simp; done) | (simp; rfl)
                case tuc3 => simp
                case tud3 => simp
                case tue3 => simp
                case tuf3 => simp
                case tug3 =>
                  simp [swp, vr]
                  exact le_of2 (by simp) (by simp [AVle, AV.under, AV.underL] <;> omega) (by simp [AOle, AO.under, AV.underL, AV.under] <;> omega)
            · obtain rfl : i = xs.length := by omega
              have hall := idxP_all (zos xs) (zMov c)
              rw [zos_len] at hall
              rw [hall]
              obtain ⟨Q, hQ⟩ : ∃ Q, Q = P ++ idxZ (zos xs) (zMov c) := ⟨_, rfl⟩
              have hQl : Q.length ≤ 200 := by rw [hQ, ← hall, List.length_append]; omega
              have hfin : Q ++ idxZ (zos xs) (zNor c) = P ++ onNode (zos xs) false c := by rw [hQ, List.append_assoc]; rfl
              rw [← hQ]
              repeat' (first | (apply aw_seq_k; intro K hK) | (refine aw_run hc (by first | exact aw_nod | (intro _; rw [ordB_w hw]; kernel_rfl) | (intro _; rw [ordB_w0 hw0]; kernel_rfl) | (intro _; kernel_rfl)) ?_; simp [List.zipIdx, -getM, getM_hit, getM_miss, getM_none]; (repeat (simp (disch := first | omega | assumption | fail) only [if_pos, if_neg, wrap64]; try simp [List.zipIdx, -getM, getM_hit, getM_miss, getM_none])); try (repeat' (refine guardQ_split (fun h => ?_) (fun h => ?_) <;> simp at h <;> (simp [List.zipIdx, -getM, getM_hit, getM_miss, getM_none]; (repeat (simp (disch := first | omega | assumption | fail) only [if_pos, if_neg, wrap64]; try simp [List.zipIdx, -getM, getM_hit, getM_miss, getM_none])))))) | (refine aw_cond (b := _) (by exact rfl) (fun h => ?_) (fun h => ?_) <;> (try simp at h)) | (refine aw_block ?_) | (refine aw_skip ?_; simp only [thenQ, blockQ, if_true]) | (refine aw_exit ?_; simp [thenQ, blockQ]) | (refine aw_ret ?_; simp only [thenQ, blockQ]) | (refine aw_round ?_) | (refine hK _ ?_; clear hK) | (clear hK; refine hK _ ?_; clear hK) | (clear hK; clear hK; refine hK _ ?_; clear hK) | (clear hK; clear hK; clear hK; refine hK _ ?_; clear hK))
              refine aw_loopK (s0 := ?lps4) (m0 := ?lpm4) (ι := {i : Nat // i ≤ xs.length}) [0, 2, 8, 11] (fun i => [(13, I i.1), (10, .sl 224 1 1 0 (Q ++ idxP (zos xs) (zNor c) i.1).length)]) (fun i => [(224, .vec 1 1 false (irows (Q ++ idxP (zos xs) (zNor c) i.1)))]) (fun i => xs.length - i.1) ⟨0, by omega⟩ ?lhs4 ?lhm4 ?_ ?_
              case lhs4 => first | (simp [keepS]; done) | (simp [keepS]; rfl)
              case lhm4 => first | rfl | (simp; done) | (simp; rfl)
              · simp only [idxP_zero, List.append_nil]
                refine le_turn (s1 := ?tus5) (m1 := ?tum5) [] [0, 2, 8, 11, 10, 13] [64, 224] ?tua5 ?tub5 ?tuc5 ?tud5 ?tue5 ?tuf5 ?tug5
                case tua5 => first | (simp [keepS]; done) | (simp [keepS]; rfl)
                case tub5 => first | (simp; done) | (simp; rfl)
                case tuc5 => simp
                case tud5 => simp
                case tue5 => simp
                case tuf5 => simp
                case tug5 =>
                  simp [swp, vr]
                  exact le_of2 (by simp) (by simp [AVle, AV.under, AV.underL] <;> omega) (by simp [AOle, AO.under, AV.underL, AV.under] <;> omega)
              · rintro ⟨i, hi⟩
                simp only
                have hil' := idxP_len (zos xs) (zNor c) i
                rcases Decidable.em (i < xs.length) with hil | hil
                · have hilI : (i : Int) < (xs.length : Int) := by omega
                  have hg := zrows_get hil
                  simp only [Zx.row] at hg
                  have hz := zx_z hil
                  rw [hz] at hg
                  obtain ⟨R, hR⟩ : ∃ R, R = Q ++ idxP (zos xs) (zNor c) i := ⟨_, rfl⟩
                  have hRl : R.length ≤ 1073741823 := by rw [hR, List.length_append]; omega
                  cases hz : zNor c (zg (zos xs) i)
                  · have hnx := idxP_out hz
                    have hA : Q ++ idxP (zos xs) (zNor c) (i + 1) = R := by rw [hnx, hR]
                    have hB : Q.length + (idxP (zos xs) (zNor c) (i + 1)).length = R.length := by rw [← hA, List.length_append]
                    rw [← hR]
                    simp [zNor] at hz
                    rcases Decidable.em ((zg (zos xs) i).node = c) with hc1 | hc1
                    · have hc2 := hz hc1
                      repeat' (first | (apply aw_seq_k; intro K hK) | (refine aw_run hc (by first | exact aw_nod | (intro _; rw [ordB_w hw]; kernel_rfl) | (intro _; rw [ordB_w0 hw0]; kernel_rfl) | (intro _; kernel_rfl)) ?_; simp [List.zipIdx, hilI, hg, hgL, hgLE, hc1, hc2, -getM, getM_hit, getM_miss, getM_none]; (repeat (simp (disch := first | omega | assumption | fail) only [if_pos, if_neg, wrap64]; try simp [List.zipIdx, hilI, hg, hgL, hgLE, hc1, hc2, -getM, getM_hit, getM_miss, getM_none])); try (repeat' (refine guardQ_split (fun h => ?_) (fun h => ?_) <;> simp at h <;> (simp [List.zipIdx, hilI, hg, hgL, hgLE, hc1, hc2, -getM, getM_hit, getM_miss, getM_none]; (repeat (simp (disch := first | omega | assumption | fail) only [if_pos, if_neg, wrap64]; try simp [List.zipIdx, hilI, hg, hgL, hgLE, hc1, hc2, -getM, getM_hit, getM_miss, getM_none])))))) | (refine aw_cond (b := _) (by exact rfl) (fun h => ?_) (fun h => ?_) <;> (try simp at h)) | (refine aw_block ?_) | (refine aw_skip ?_; simp only [thenQ, blockQ, if_true]) | (refine aw_exit ?_; simp [thenQ, blockQ]) | (refine aw_ret ?_; simp only [thenQ, blockQ]) | (refine aw_round ?_) | (refine hK _ ?_; clear hK) | (clear hK; refine hK _ ?_; clear hK) | (clear hK; clear hK; refine hK _ ?_; clear hK) | (clear hK; clear hK; clear hK; refine hK _ ?_; clear hK))
                      refine ⟨i + 1, ?_, by omega, by omega⟩
                      simp only [hA, hB]
                      exact le_of2 (by simp) (by simp [AVle, AV.under, AV.underL] <;> omega) (by simp [AOle, AO.under, AV.underL, AV.under] <;> omega)
                    · repeat' (first | (apply aw_seq_k; intro K hK) | (refine aw_run hc (by first | exact aw_nod | (intro _; rw [ordB_w hw]; kernel_rfl) | (intro _; rw [ordB_w0 hw0]; kernel_rfl) | (intro _; kernel_rfl)) ?_; simp [List.zipIdx, hilI, hg, hgL, hgLE, hc1, -getM, getM_hit, getM_miss, getM_none]; (repeat (simp (disch := first | omega | assumption | fail) only [if_pos, if_neg, wrap64]; try simp [List.zipIdx, hilI, hg, hgL, hgLE, hc1, -getM, getM_hit, getM_miss, getM_none])); try (repeat' (refine guardQ_split (fun h => ?_) (fun h => ?_) <;> simp at h <;> (simp [List.zipIdx, hilI, hg, hgL, hgLE, hc1, -getM, getM_hit, getM_miss, getM_none]; (repeat (simp (disch := first | omega | assumption | fail) only [if_pos, if_neg, wrap64]; try simp [List.zipIdx, hilI, hg, hgL, hgLE, hc1, -getM, getM_hit, getM_miss, getM_none])))))) | (refine aw_cond (b := _) (by exact rfl) (fun h => ?_) (fun h => ?_) <;> (try simp at h)) | (refine aw_block ?_) | (refine aw_skip ?_; simp only [thenQ, blockQ, if_true]) | (refine aw_exit ?_; simp [thenQ, blockQ]) | (refine aw_ret ?_; simp only [thenQ, blockQ]) | (refine aw_round ?_) | (refine hK _ ?_; clear hK) | (clear hK; refine hK _ ?_; clear hK) | (clear hK; clear hK; refine hK _ ?_; clear hK) | (clear hK; clear hK; clear hK; refine hK _ ?_; clear hK))
                      refine ⟨i + 1, ?_, by omega, by omega⟩
                      simp only [hA, hB]
                      exact le_of2 (by simp) (by simp [AVle, AV.under, AV.underL] <;> omega) (by simp [AOle, AO.under, AV.underL, AV.under] <;> omega)
                  · have hnx := idxP_in hz
                    have hA : Q ++ idxP (zos xs) (zNor c) (i + 1) = R ++ [(i : Int)] := by rw [hnx, hR, List.append_assoc]
                    have hB : Q.length + (idxP (zos xs) (zNor c) (i + 1)).length = R.length + 1 := by rw [← List.length_append, hA]; simp
                    rw [← hR]
                    simp [zNor] at hz
                    repeat' (first | (apply aw_seq_k; intro K hK) | (refine aw_run hc (by first | exact aw_nod | (intro _; rw [ordB_w hw]; kernel_rfl) | (intro _; rw [ordB_w0 hw0]; kernel_rfl) | (intro _; kernel_rfl)) ?_; simp [List.zipIdx, hilI, hg, hgL, hgLE, hz.1, hz.2, htk, hRl, hap, -getM, getM_hit, getM_miss, getM_none]; (repeat (simp (disch := first | omega | assumption | fail) only [if_pos, if_neg, wrap64]; try simp [List.zipIdx, hilI, hg, hgL, hgLE, hz.1, hz.2, htk, hRl, hap, -getM, getM_hit, getM_miss, getM_none])); try (repeat' (refine guardQ_split (fun h => ?_) (fun h => ?_) <;> simp at h <;> (simp [List.zipIdx, hilI, hg, hgL, hgLE, hz.1, hz.2, htk, hRl, hap, -getM, getM_hit, getM_miss, getM_none]; (repeat (simp (disch := first | omega | assumption | fail) only [if_pos, if_neg, wrap64]; try simp [List.zipIdx, hilI, hg, hgL, hgLE, hz.1, hz.2, htk, hRl, hap, -getM, getM_hit, getM_miss, getM_none])))))) | (refine aw_cond (b := _) (by exact rfl) (fun h => ?_) (fun h => ?_) <;> (try simp at h)) | (refine aw_block ?_) | (refine aw_skip ?_; simp only [thenQ, blockQ, if_true]) | (refine aw_exit ?_; simp [thenQ, blockQ]) | (refine aw_ret ?_; simp only [thenQ, blockQ]) | (refine aw_round ?_) | (refine hK _ ?_; clear hK) | (clear hK; refine hK _ ?_; clear hK) | (clear hK; clear hK; refine hK _ ?_; clear hK) | (clear hK; clear hK; clear hK; refine hK _ ?_; clear hK))
                    refine ⟨i + 1, ?_, by omega, by omega⟩
                    simp only [hA, hB]
                    refine le_turn (s1 := ?tus6) (m1 := ?tum6) [] [0, 2, 8, 11, 10, 13] [64, 224] ?tua6 ?tub6 ?tuc6 ?tud6 ?tue6 ?tuf6 ?tug6
                    case tua6 => first | (simp [keepS]; done) | (simp [keepS]; rfl)
                    case tub6 => first | (simp; done) | (simp; rfl)
                    case tuc6 => simp
                    case tud6 => simp
                    case tue6 => simp
                    case tuf6 => simp
                    case tug6 =>
                      simp [swp, vr]
                      exact le_of2 (by simp) (by simp [AVle, AV.under, AV.underL] <;> omega) (by simp [AOle, AO.under, AV.underL, AV.under] <;> omega)
                · obtain rfl : i = xs.length := by omega
                  have hall := idxP_all (zos xs) (zNor c)
                  rw [zos_len] at hall
                  rw [hall, hfin]
                  repeat' (first | (apply aw_seq_k; intro K hK) | (refine aw_run hc (by first | exact aw_nod | (intro _; rw [ordB_w hw]; kernel_rfl) | (intro _; rw [ordB_w0 hw0]; kernel_rfl) | (intro _; kernel_rfl)) ?_; simp [List.zipIdx, -getM, getM_hit, getM_miss, getM_none]; (repeat (simp (disch := first | omega | assumption | fail) only [if_pos, if_neg, wrap64]; try simp [List.zipIdx, -getM, getM_hit, getM_miss, getM_none])); try (repeat' (refine guardQ_split (fun h => ?_) (fun h => ?_) <;> simp at h <;> (simp [List.zipIdx, -getM, getM_hit, getM_miss, getM_none]; (repeat (simp (disch := first | omega | assumption | fail) only [if_pos, if_neg, wrap64]; try simp [List.zipIdx, -getM, getM_hit, getM_miss, getM_none])))))) | (refine aw_cond (b := _) (by exact rfl) (fun h => ?_) (fun h => ?_) <;> (try simp at h)) | (refine aw_block ?_) | (refine aw_skip ?_; simp only [thenQ, blockQ, if_true]) | (refine aw_exit ?_; simp [thenQ, blockQ]) | (refine aw_ret ?_; simp only [thenQ, blockQ]) | (refine aw_round ?_) | (refine hK _ ?_; clear hK) | (clear hK; refine hK _ ?_; clear hK) | (clear hK; clear hK; refine hK _ ?_; clear hK) | (clear hK; clear hK; clear hK; refine hK _ ?_; clear hK))
                  refine ⟨n + 1, ?_, by omega, by omega⟩
                  rw [hsucc]
                  refine le_turn (s1 := ?tus7) (m1 := ?tum7) [] [0, 2, 8, 11, 10] [64, 224] ?tua7 ?tub7 ?tuc7 ?tud7 ?tue7 ?tuf7 ?tug7
                  case tua7 => first | (simp [keepS]; done) | (simp [keepS]; rfl)
                  case tub7 => first | (simp; done) | (simp; rfl)
                  case tuc7 => simp
                  case tud7 => simp
                  case tue7 => simp
                  case tuf7 => simp
                  case tug7 =>
                    simp [swp, vr]
                    exact le_of2 (by simp) (by simp [AVle, AV.under, AV.underL] <;> omega) (by simp [AOle, AO.under, AV.underL, AV.under] <;> omega)
        · rcases Decidable.em (xs = []) with hxe | hxe
          · subst hxe
            refine aw_rounds 1 (aw_round ?_)
            repeat' (first | (apply aw_seq_k; intro K hK) | (refine aw_run hc (by first | exact aw_nod | (intro _; rw [ordB_w hw]; kernel_rfl) | (intro _; rw [ordB_w0 hw0]; kernel_rfl) | (intro _; kernel_rfl)) ?_; simp [List.zipIdx, -getM, getM_hit, getM_miss, getM_none]; (repeat (simp (disch := first | omega | assumption | fail) only [if_pos, if_neg, wrap64]; try simp [List.zipIdx, -getM, getM_hit, getM_miss, getM_none])); try (repeat' (refine guardQ_split (fun h => ?_) (fun h => ?_) <;> simp at h <;> (simp [List.zipIdx, -getM, getM_hit, getM_miss, getM_none]; (repeat (simp (disch := first | omega | assumption | fail) only [if_pos, if_neg, wrap64]; try simp [List.zipIdx, -getM, getM_hit, getM_miss, getM_none])))))) | (refine aw_cond (b := _) (by exact rfl) (fun h => ?_) (fun h => ?_) <;> (try simp at h)) | (refine aw_block ?_) | (refine aw_skip ?_; simp only [thenQ, blockQ, if_true]) | (refine aw_exit ?_; simp [thenQ, blockQ]) | (refine aw_ret ?_; simp only [thenQ, blockQ]) | (refine aw_round ?_) | (refine hK _ ?_; clear hK) | (clear hK; refine hK _ ?_; clear hK) | (clear hK; clear hK; refine hK _ ?_; clear hK) | (clear hK; clear hK; clear hK; refine hK _ ?_; clear hK))
            refine aw_rounds 1 (aw_round ?_)
            repeat' (first | (apply aw_seq_k; intro K hK) | (refine aw_run hc (by first | exact aw_nod | (intro _; rw [ordB_w hw]; kernel_rfl) | (intro _; rw [ordB_w0 hw0]; kernel_rfl) | (intro _; kernel_rfl)) ?_; simp [List.zipIdx, -getM, getM_hit, getM_miss, getM_none]; (repeat (simp (disch := first | omega | assumption | fail) only [if_pos, if_neg, wrap64]; try simp [List.zipIdx, -getM, getM_hit, getM_miss, getM_none])); try (repeat' (refine guardQ_split (fun h => ?_) (fun h => ?_) <;> simp at h <;> (simp [List.zipIdx, -getM, getM_hit, getM_miss, getM_none]; (repeat (simp (disch := first | omega | assumption | fail) only [if_pos, if_neg, wrap64]; try simp [List.zipIdx, -getM, getM_hit, getM_miss, getM_none])))))) | (refine aw_cond (b := _) (by exact rfl) (fun h => ?_) (fun h => ?_) <;> (try simp at h)) | (refine aw_block ?_) | (refine aw_skip ?_; simp only [thenQ, blockQ, if_true]) | (refine aw_exit ?_; simp [thenQ, blockQ]) | (refine aw_ret ?_; simp only [thenQ, blockQ]) | (refine aw_round ?_) | (refine hK _ ?_; clear hK) | (clear hK; refine hK _ ?_; clear hK) | (clear hK; clear hK; refine hK _ ?_; clear hK) | (clear hK; clear hK; clear hK; refine hK _ ?_; clear hK))
            refine ⟨n + 1, ?_, by omega, by omega⟩
            have ho : P ++ onNode (zos []) true c = P := by simp [onNode, idxZ, zos]
            rw [hsucc, ho]
            refine le_turn (s1 := ?tus8) (m1 := ?tum8) [] [0, 2, 8, 11, 10] [64, 224] ?tua8 ?tub8 ?tuc8 ?tud8 ?tue8 ?tuf8 ?tug8
            case tua8 => first | (simp [keepS]; done) | (simp [keepS]; rfl)
            case tub8 => first | (simp; done) | (simp; rfl)
            case tuc8 => simp
            case tud8 => simp
            case tue8 => simp
            case tuf8 => simp
            case tug8 =>
              simp [swp, vr]
              exact le_of2 (by simp) (by simp [AVle, AV.under, AV.underL] <;> omega) (by simp [AOle, AO.under, AV.underL, AV.under] <;> omega)
          · have hx0 : 0 < xs.length := List.length_pos_iff.2 hxe
            refine aw_rounds 1 (aw_round ?_)
            repeat' (first | (apply aw_seq_k; intro K hK) | (refine aw_run hc (by first | exact aw_nod | (intro _; rw [ordB_w hw]; kernel_rfl) | (intro _; rw [ordB_w0 hw0]; kernel_rfl) | (intro _; kernel_rfl)) ?_; simp [List.zipIdx, hx0, hxe, -getM, getM_hit, getM_miss, getM_none]; (repeat (simp (disch := first | omega | assumption | fail) only [if_pos, if_neg, wrap64]; try simp [List.zipIdx, hx0, hxe, -getM, getM_hit, getM_miss, getM_none])); try (repeat' (refine guardQ_split (fun h => ?_) (fun h => ?_) <;> simp at h <;> (simp [List.zipIdx, hx0, hxe, -getM, getM_hit, getM_miss, getM_none]; (repeat (simp (disch := first | omega | assumption | fail) only [if_pos, if_neg, wrap64]; try simp [List.zipIdx, hx0, hxe, -getM, getM_hit, getM_miss, getM_none])))))) | (refine aw_cond (b := _) (by exact rfl) (fun h => ?_) (fun h => ?_) <;> (try simp at h)) | (refine aw_block ?_) | (refine aw_skip ?_; simp only [thenQ, blockQ, if_true]) | (refine aw_exit ?_; simp [thenQ, blockQ]) | (refine aw_ret ?_; simp only [thenQ, blockQ]) | (refine aw_round ?_) | (refine hK _ ?_; clear hK) | (clear hK; refine hK _ ?_; clear hK) | (clear hK; clear hK; refine hK _ ?_; clear hK) | (clear hK; clear hK; clear hK; refine hK _ ?_; clear hK))
            have hfin : P ++ idxZ (zos xs) (zNor c) = P ++ onNode (zos xs) true c := by rfl
            refine aw_loopK (s0 := ?lps9) (m0 := ?lpm9) (ι := {i : Nat // i ≤ xs.length}) [0, 2, 8, 11] (fun i => [(13, I i.1), (10, .sl 224 1 1 0 (P ++ idxP (zos xs) (zNor c) i.1).length)]) (fun i => [(224, .vec 1 1 false (irows (P ++ idxP (zos xs) (zNor c) i.1)))]) (fun i => xs.length - i.1) ⟨0, by omega⟩ ?lhs9 ?lhm9 ?_ ?_
            case lhs9 => first | (simp [keepS]; done) | (simp [keepS]; rfl)
            case lhm9 => first | rfl | (simp; done) | (simp; rfl)
            · simp only [idxP_zero, List.append_nil]
              refine le_turn (s1 := ?tus10) (m1 := ?tum10) [] [0, 2, 8, 11, 10, 13] [64, 224] ?tua10 ?tub10 ?tuc10 ?tud10 ?tue10 ?tuf10 ?tug10
              case tua10 => first | (simp [keepS]; done) | (simp [keepS]; rfl)
              case tub10 => first | (simp; done) | (simp; rfl)
              case tuc10 => simp
              case tud10 => simp
              case tue10 => simp
              case tuf10 => simp
              case tug10 =>
                simp [swp, vr]
                exact le_of2 (by simp) (by simp [AVle, AV.under, AV.underL] <;> omega) (by simp [AOle, AO.under, AV.underL, AV.under] <;> omega)
            · rintro ⟨i, hi⟩
              simp only
              have hil' := idxP_len (zos xs) (zNor c) i
              rcases Decidable.em (i < xs.length) with hil | hil
              · have hilI : (i : Int) < (xs.length : Int) := by omega
                have hg := zrows_get hil
                simp only [Zx.row] at hg
                have hz := zx_z hil
                rw [hz] at hg
                obtain ⟨R, hR⟩ : ∃ R, R = P ++ idxP (zos xs) (zNor c) i := ⟨_, rfl⟩
                have hRl : R.length ≤ 1073741823 := by rw [hR, List.length_append]; omega
                cases hz : zNor c (zg (zos xs) i)
                · have hnx := idxP_out hz
                  have hA : P ++ idxP (zos xs) (zNor c) (i + 1) = R := by rw [hnx, hR]
                  have hB : P.length + (idxP (zos xs) (zNor c) (i + 1)).length = R.length := by rw [← hA, List.length_append]
                  rw [← hR]
                  simp [zNor] at hz
                  rcases Decidable.em ((zg (zos xs) i).node = c) with hc1 | hc1
                  · have hc2 := hz hc1
                    repeat' (first | (apply aw_seq_k; intro K hK) | (refine aw_run hc (by first | exact aw_nod | (intro _; rw [ordB_w hw]; kernel_rfl) | (intro _; rw [ordB_w0 hw0]; kernel_rfl) | (intro _; kernel_rfl)) ?_; simp [List.zipIdx, hilI, hg, hgL, hgLE, hc1, hc2, -getM, getM_hit, getM_miss, getM_none]; (repeat (simp (disch := first | omega | assumption | fail) only [if_pos, if_neg, wrap64]; try simp [List.zipIdx, hilI, hg, hgL, hgLE, hc1, hc2, -getM, getM_hit, getM_miss, getM_none])); try (repeat' (refine guardQ_split (fun h => ?_) (fun h => ?_) <;> simp at h <;> (simp [List.zipIdx, hilI, hg, hgL, hgLE, hc1, hc2, -getM, getM_hit, getM_miss, getM_none]; (repeat (simp (disch := first | omega | assumption | fail) only [if_pos, if_neg, wrap64]; try simp [List.zipIdx, hilI, hg, hgL, hgLE, hc1, hc2, -getM, getM_hit, getM_miss, getM_none])))))) | (refine aw_cond (b := _) (by exact rfl) (fun h => ?_) (fun h => ?_) <;> (try simp at h)) | (refine aw_block ?_) | (refine aw_skip ?_; simp only [thenQ, blockQ, if_true]) | (refine aw_exit ?_; simp [thenQ, blockQ]) | (refine aw_ret ?_; simp only [thenQ, blockQ]) | (refine aw_round ?_) | (refine hK _ ?_; clear hK) | (clear hK; refine hK _ ?_; clear hK) | (clear hK; clear hK; refine hK _ ?_; clear hK) | (clear hK; clear hK; clear hK; refine hK _ ?_; clear hK))
                    refine ⟨i + 1, ?_, by omega, by omega⟩
                    simp only [hA, hB]
                    exact le_of2 (by simp) (by simp [AVle, AV.under, AV.underL] <;> omega) (by simp [AOle, AO.under, AV.underL, AV.under] <;> omega)
                  · repeat' (first | (apply aw_seq_k; intro K hK) | (refine aw_run hc (by first | exact aw_nod | (intro _; rw [ordB_w hw]; kernel_rfl) | (intro _; rw [ordB_w0 hw0]; kernel_rfl) | (intro _; kernel_rfl)) ?_; simp [List.zipIdx, hilI, hg, hgL, hgLE, hc1, -getM, getM_hit, getM_miss, getM_none]; (repeat (simp (disch := first | omega | assumption | fail) only [if_pos, if_neg, wrap64]; try simp [List.zipIdx, hilI, hg, hgL, hgLE, hc1, -getM, getM_hit, getM_miss, getM_none])); try (repeat' (refine guardQ_split (fun h => ?_) (fun h => ?_) <;> simp at h <;> (simp [List.zipIdx, hilI, hg, hgL, hgLE, hc1, -getM, getM_hit, getM_miss, getM_none]; (repeat (simp (disch := first | omega | assumption | fail) only [if_pos, if_neg, wrap64]; try simp [List.zipIdx, hilI, hg, hgL, hgLE, hc1, -getM, getM_hit, getM_miss, getM_none])))))) | (refine aw_cond (b := _) (by exact rfl) (fun h => ?_) (fun h => ?_) <;> (try simp at h)) | (refine aw_block ?_) | (refine aw_skip ?_; simp only [thenQ, blockQ, if_true]) | (refine aw_exit ?_; simp [thenQ, blockQ]) | (refine aw_ret ?_; simp only [thenQ, blockQ]) | (refine aw_round ?_) | (refine hK _ ?_; clear hK) | (clear hK; refine hK _ ?_; clear hK) | (clear hK; clear hK; refine hK _ ?_; clear hK) | (clear hK; clear hK; clear hK; refine hK _ ?_; clear hK))
                    refine ⟨i + 1, ?_, by omega, by omega⟩
                    simp only [hA, hB]
                    exact le_of2 (by simp) (by simp [AVle, AV.under, AV.underL] <;> omega) (by simp [AOle, AO.under, AV.underL, AV.under] <;> omega)
                · have hnx := idxP_in hz
                  have hA : P ++ idxP (zos xs) (zNor c) (i + 1) = R ++ [(i : Int)] := by rw [hnx, hR, List.append_assoc]
                  have hB : P.length + (idxP (zos xs) (zNor c) (i + 1)).length = R.length + 1 := by rw [← List.length_append, hA]; simp
                  rw [← hR]
                  simp [zNor] at hz
                  repeat' (first | (apply aw_seq_k; intro K hK) | (refine aw_run hc (by first | exact aw_nod | (intro _; rw [ordB_w hw]; kernel_rfl) | (intro _; rw [ordB_w0 hw0]; kernel_rfl) | (intro _; kernel_rfl)) ?_; simp [List.zipIdx, hilI, hg, hgL, hgLE, hz.1, hz.2, htk, hRl, hap, -getM, getM_hit, getM_miss, getM_none]; (repeat (simp (disch := first | omega | assumption | fail) only [if_pos, if_neg, wrap64]; try simp [List.zipIdx, hilI, hg, hgL, hgLE, hz.1, hz.2, htk, hRl, hap, -getM, getM_hit, getM_miss, getM_none])); try (repeat' (refine guardQ_split (fun h => ?_) (fun h => ?_) <;> simp at h <;> (simp [List.zipIdx, hilI, hg, hgL, hgLE, hz.1, hz.2, htk, hRl, hap, -getM, getM_hit, getM_miss, getM_none]; (repeat (simp (disch := first | omega | assumption | fail) only [if_pos, if_neg, wrap64]; try simp [List.zipIdx, hilI, hg, hgL, hgLE, hz.1, hz.2, htk, hRl, hap, -getM, getM_hit, getM_miss, getM_none])))))) | (refine aw_cond (b := _) (by exact rfl) (fun h => ?_) (fun h => ?_) <;> (try simp at h)) | (refine aw_block ?_) | (refine aw_skip ?_; simp only [thenQ, blockQ, if_true]) | (refine aw_exit ?_; simp [thenQ, blockQ]) | (refine aw_ret ?_; simp only [thenQ, blockQ]) | (refine aw_round ?_) | (refine hK _ ?_; clear hK) | (clear hK; refine hK _ ?_; clear hK) | (clear hK; clear hK; refine hK _ ?_; clear hK) | (clear hK; clear hK; clear hK; refine hK _ ?_; clear hK))
                  refine ⟨i + 1, ?_, by omega, by omega⟩
                  simp only [hA, hB]
                  refine le_turn (s1 := ?tus11) (m1 := ?tum11) [] [0, 2, 8, 11, 10, 13] [64, 224] ?tua11 ?tub11 ?tuc11 ?tud11 ?tue11 ?tuf11 ?tug11
                  case tua11 => first | (simp [keepS]; done) | (simp [keepS]; rfl)
                  case tub11 => first | (simp; done) | (simp; rfl)
                  case tuc11 => simp
                  case tud11 => simp
                  case tue11 => simp
                  case tuf11 => simp
                  case tug11 =>
                    simp [swp, vr]
                    exact le_of2 (by simp) (by simp [AVle, AV.under, AV.underL] <;> omega) (by simp [AOle, AO.under, AV.underL, AV.under] <;> omega)
              · obtain rfl : i = xs.length := by omega
                have hall := idxP_all (zos xs) (zNor c)
                rw [zos_len] at hall
                rw [hall, hfin]
                repeat' (first | (apply aw_seq_k; intro K hK) | (refine aw_run hc (by first | exact aw_nod | (intro _; rw [ordB_w hw]; kernel_rfl) | (intro _; rw [ordB_w0 hw0]; kernel_rfl) | (intro _; kernel_rfl)) ?_; simp [List.zipIdx, -getM, getM_hit, getM_miss, getM_none]; (repeat (simp (disch := first | omega | assumption | fail) only [if_pos, if_neg, wrap64]; try simp [List.zipIdx, -getM, getM_hit, getM_miss, getM_none])); try (repeat' (refine guardQ_split (fun h => ?_) (fun h => ?_) <;> simp at h <;> (simp [List.zipIdx, -getM, getM_hit, getM_miss, getM_none]; (repeat (simp (disch := first | omega | assumption | fail) only [if_pos, if_neg, wrap64]; try simp [List.zipIdx, -getM, getM_hit, getM_miss, getM_none])))))) | (refine aw_cond (b := _) (by exact rfl) (fun h => ?_) (fun h => ?_) <;> (try simp at h)) | (refine aw_block ?_) | (refine aw_skip ?_; simp only [thenQ, blockQ, if_true]) | (refine aw_exit ?_; simp [thenQ, blockQ]) | (refine aw_ret ?_; simp only [thenQ, blockQ]) | (refine aw_round ?_) | (refine hK _ ?_; clear hK) | (clear hK; refine hK _ ?_; clear hK) | (clear hK; clear hK; refine hK _ ?_; clear hK) | (clear hK; clear hK; clear hK; refine hK _ ?_; clear hK))
                refine ⟨n + 1, ?_, by omega, by omega⟩
                rw [hsucc]
                refine le_turn (s1 := ?tus12) (m1 := ?tum12) [] [0, 2, 8, 11, 10] [64, 224] ?tua12 ?tub12 ?tuc12 ?tud12 ?tue12 ?tuf12 ?tug12
                case tua12 => first | (simp [keepS]; done) | (simp [keepS]; rfl)
                case tub12 => first | (simp; done) | (simp; rfl)
                case tuc12 => simp
                case tud12 => simp
                case tue12 => simp
                case tuf12 => simp
                case tug12 =>
                  simp [swp, vr]
                  exact le_of2 (by simp) (by simp [AVle, AV.under, AV.underL] <;> omega) (by simp [AOle, AO.under, AV.underL, AV.under] <;> omega)
      · obtain rfl : n = L.length := by omega
        rw [ordP_all _ _ _ (Nat.le_refl _)]
        obtain ⟨Z, hZ⟩ : ∃ Z, Z = L.flatMap (onNode (zos xs) kernel) := ⟨_, rfl⟩
        rw [← hZ]
        repeat' (first | (apply aw_seq_k; intro K hK) | (refine aw_run hc (by first | exact aw_nod | (intro _; rw [ordB_w hw]; kernel_rfl) | (intro _; rw [ordB_w0 hw0]; kernel_rfl) | (intro _; kernel_rfl)) ?_; simp [List.zipIdx, -getM, getM_hit, getM_miss, getM_none]; (repeat (simp (disch := first | omega | assumption | fail) only [if_pos, if_neg, wrap64]; try simp [List.zipIdx, -getM, getM_hit, getM_miss, getM_none])); try (repeat' (refine guardQ_split (fun h => ?_) (fun h => ?_) <;> simp at h <;> (simp [List.zipIdx, -getM, getM_hit, getM_miss, getM_none]; (repeat (simp (disch := first | omega | assumption | fail) only [if_pos, if_neg, wrap64]; try simp [List.zipIdx, -getM, getM_hit, getM_miss, getM_none])))))) | (refine aw_cond (b := _) (by exact rfl) (fun h => ?_) (fun h => ?_) <;> (try simp at h)) | (refine aw_block ?_) | (refine aw_skip ?_; simp only [thenQ, blockQ, if_true]) | (refine aw_exit ?_; simp [thenQ, blockQ]) | (refine aw_ret ?_; simp only [thenQ, blockQ]) | (refine aw_round ?_) | (refine hK _ ?_; clear hK) | (clear hK; refine hK _ ?_; clear hK) | (clear hK; clear hK; refine hK _ ?_; clear hK) | (clear hK; clear hK; clear hK; refine hK _ ?_; clear hK))
        refine ⟨by simp, ?_⟩
        simp [leaves_iff, Try.f18, take_irows]
        try (first | omega | (refine decide_eq_decide.2 ?_; omega) | (refine decide_eq_false ?_; omega) | (refine decide_eq_true ?_; omega))
        rw [hZ]
  · rw [if_pos h]
    have hnr : nodesR (zos xs) f = ([], errN (zos xs) f) := by unfold nodesR; rw [if_pos h]
    have h16z := fun M k => h16 xs f M k
    rw [hnr] at h16z
    simp only at h16z
    repeat' (first | (apply aw_seq_k; intro K hK) | (refine aw_run hc (by first | exact aw_nod | (intro _; rw [ordB_w hw]; kernel_rfl) | (intro _; rw [ordB_w0 hw0]; kernel_rfl) | (intro _; kernel_rfl)) ?_; simp [List.zipIdx, h16z, h, -getM, getM_hit, getM_miss, getM_none]; (repeat (simp (disch := first | omega | assumption | fail) only [if_pos, if_neg, wrap64]; try simp [List.zipIdx, h16z, h, -getM, getM_hit, getM_miss, getM_none])); try (repeat' (refine guardQ_split (fun h => ?_) (fun h => ?_) <;> simp at h <;> (simp [List.zipIdx, h16z, h, -getM, getM_hit, getM_miss, getM_none]; (repeat (simp (disch := first | omega | assumption | fail) only [if_pos, if_neg, wrap64]; try simp [List.zipIdx, h16z, h, -getM, getM_hit, getM_miss, getM_none])))))) | (refine aw_cond (b := _) (by exact rfl) (fun h => ?_) (fun h => ?_) <;> (try simp at h)) | (refine aw_block ?_) | (refine aw_skip ?_; simp only [thenQ, blockQ, if_true]) | (refine aw_exit ?_; simp [thenQ, blockQ]) | (refine aw_ret ?_; simp only [thenQ, blockQ]) | (refine aw_round ?_) | (refine hK _ ?_; clear hK) | (clear hK; refine hK _ ?_; clear hK) | (clear hK; clear hK; refine hK _ ?_; clear hK) | (clear hK; clear hK; clear hK; refine hK _ ?_; clear hK))
    refine ⟨by simp, ?_⟩
    simp [leaves_iff, Try.f18, irows]
    try (first | omega | (refine decide_eq_decide.2 ?_; omega) | (refine decide_eq_false ?_; omega) | (refine decide_eq_true ?_; omega))
end Go.AM
