/- A part of the proof: what functions of the program compute, by abstract execution of their code. Its theorems hold without further condition. -/
import Derived.Test.YtjdahonmgfhpgaaBd9
set_option linter.all false
namespace Go.AM
open Go Go.Proofs

def orderOK (z : Zn) : Prop := ∀ k i, k ≤ 4 → i < (z.fr k).length → badAt z k i = 0

theorem rep256 : List.replicate 256 [AV.v (.int .i64 0)] = irows (cnts []) := by
  rw [← cnts_nil, irows_replicate]
@[simp] theorem coverL_zero {z : Zn} : coverL z 0 = [] := rfl
@[simp] theorem irows_cnts_len {P : List Int} : (irows (cnts P)).length = 256 := by rw [irows_length, cnts_len]
/-- How often a frame is covered. -/
def cnt (P : List Int) (y : Int) : Nat := P.count y
theorem cnts_get {P : List Int} {y : Nat} (h : y < 256) : (irows (cnts P))[y]? = some [I (cnt P (y : Int))] := by
  rw [irows_gi (by rw [cnts_len]; exact h), cnts_gi h]; rfl
theorem cnts_st {P : List Int} {y : Nat} {x : Int} (h : y < 256) (hx : x = (y : Int)) : (irows (cnts P)).set y [I ((cnt P x : Int) + 1)] = irows (cnts (P ++ [x])) := by
  subst hx; rw [irows_set, ← cnts_set h]; rfl
@[simp] theorem span_zero (f : Int) : span f 0 = [] := rfl
attribute [simp] cnts_len
theorem rowCover_len (k : Nat) : ∀ l : List Int, (rowCover k l).length = l.length * 2 ^ k
  | [] => by simp [rowCover]
  | a :: r => by
    have := rowCover_len k r
    simp only [rowCover, List.flatMap_cons, List.length_append, List.length_cons] at this ⊢
    rw [this]; simp [span, Nat.add_mul]; omega
theorem cover_len {z : Zn} (hl : ∀ k, k ≤ 4 → (z.fr k).length ≤ 1000) : (coverL z 5).length ≤ 80000 := by
  have e : coverL z 5 = rowCover 0 (z.fr 0) ++ (rowCover 1 (z.fr 1) ++ (rowCover 2 (z.fr 2) ++ (rowCover 3 (z.fr 3) ++ (rowCover 4 (z.fr 4) ++ [])))) := rfl
  rw [e]
  simp only [List.length_append, rowCover_len, List.length_nil]
  have := hl 0 (by omega)
  have := hl 1 (by omega)
  have := hl 2 (by omega)
  have := hl 3 (by omega)
  have := hl 4 (by omega)
  omega
theorem cnt_le {z : Zn} (hl : ∀ k, k ≤ 4 → (z.fr k).length ≤ 1000) {k i n : Nat} (hk : k ≤ 4) (hi : i < (z.fr k).length) (hn : n ≤ 2 ^ k) (y : Int) : cnt (coverP z k i ++ span (gi (z.fr k) i) n) y ≤ 80000 :=
  Nat.le_trans (List.count_le_length ..) (Nat.le_trans (cover_part hk hi hn).length_le (cover_len hl))
theorem inside_bounds {z : Zn} {f : Int} {k : Nat} (hz : rangesZ z) (h : insideZ z f k) : 0 ≤ f ∧ f + 2 ^ k ≤ 256 := by
  obtain ⟨a, b, c, d⟩ := h
  unfold rangesZ at hz
  omega

theorem s46 (X : AX) (hX : XOK Try.prog X) : PSound Try.prog 46 (specF (ι := {z : Zn // rangesZ z ∧ orderOK z ∧ ∀ k, k ≤ 4 → (z.fr k).length ≤ 1000}) (fun z => [.agg z.1.cells]) fun z => retOf [.ow 1 (irows (cnts (coverL z.1 5)))]) := by
  refine psound_spec hX mixed Try.func46 rfl fun ⟨z, hz, ho, hl⟩ w0 G => ⟨by show 1 ≤ 50; decide, rfl, ?_⟩
  show AW ⟨Try.prog, X, 50, w0, .pure G⟩ _ _ _
  have hc : Cx.OK ⟨Try.prog, X, 50, w0, .pure G⟩ := ⟨hX, mixed⟩
  repeat' (first | (apply aw_seq_k; intro K hK) | (refine aw_run hc (by first | exact aw_nod | (intro _; rw [ordB_w hw]; kernel_rfl) | (intro _; kernel_rfl)) ?_; simp (disch := first | omega | assumption | (simp; done) | fail) [if_pos, if_neg, List.zipIdx, rep256, -List.reduceReplicate]; try (repeat' (refine guardQ_split (fun h => ?_) (fun h => ?_) <;> simp at h <;> simp (disch := first | omega | assumption | (simp; done) | fail) [if_pos, if_neg, List.zipIdx, rep256, -List.reduceReplicate]))) | (refine aw_cond (b := _) (by exact rfl) (fun h => ?_) (fun h => ?_) <;> (try simp at h)) | (refine aw_block ?_) | (refine aw_skip ?_; simp only [thenQ, blockQ, if_true]) | (refine aw_exit ?_; simp [thenQ, blockQ]) | (refine aw_ret ?_; simp only [thenQ, blockQ]) | (refine hK _ ?_; clear hK) | (clear hK; refine hK _ ?_; clear hK) | (clear hK; clear hK; refine hK _ ?_; clear hK) | (clear hK; clear hK; clear hK; refine hK _ ?_; clear hK))
  refine aw_loopK (s0 := ?lps1) (m0 := ?lpm1) (ι := {k : Nat // k ≤ 5}) [1, 3] (fun i => [(4, I i.1)]) (fun i => [(32, .vec 1 1 false (irows (cnts (coverL z i.1))))]) (fun i => 5 - i.1) ⟨0, by omega⟩ ?lhs1 ?lhm1 ?_ ?_
  case lhs1 => first | (simp [keepS]; done) | (simp [keepS]; rfl)
  case lhm1 => first | rfl | (simp; done) | (simp; rfl)
  · exact le_of2 (by simp) (by simp [AVle, AV.under, AV.underL] <;> omega) (by simp [AOle, AO.under, AV.underL, AV.under] <;> omega)
  · rintro ⟨k, hk⟩
    simp only
    repeat' (first | (apply aw_seq_k; intro K hK) | (refine aw_run hc (by first | exact aw_nod | (intro _; rw [ordB_w hw]; kernel_rfl) | (intro _; kernel_rfl)) ?_; simp (disch := first | omega | assumption | (simp; done) | fail) [if_pos, if_neg, List.zipIdx, wrap64, Zn.cf]; try (repeat' (refine guardQ_split (fun h => ?_) (fun h => ?_) <;> simp at h <;> simp (disch := first | omega | assumption | (simp; done) | fail) [if_pos, if_neg, List.zipIdx, wrap64, Zn.cf]))) | (refine aw_cond (b := _) (by exact rfl) (fun h => ?_) (fun h => ?_) <;> (try simp at h)) | (refine aw_block ?_) | (refine aw_skip ?_; simp only [thenQ, blockQ, if_true]) | (refine aw_exit ?_; simp [thenQ, blockQ]) | (refine aw_ret ?_; simp only [thenQ, blockQ]) | (refine hK _ ?_; clear hK) | (clear hK; refine hK _ ?_; clear hK) | (clear hK; clear hK; refine hK _ ?_; clear hK) | (clear hK; clear hK; clear hK; refine hK _ ?_; clear hK))
    · have hk4 : k ≤ 4 := by omega
      have hlk := hl k hk4
      have hp5 := pow_le5 (show k ≤ 5 by omega)
      obtain ⟨w, hw1, hw2⟩ : ∃ w : Nat, (2 : Int) ^ k = w ∧ 2 ^ k = w := ⟨2 ^ k, by simp, rfl⟩
      rw [hw1] at hp5
      refine aw_loopK (s0 := ?lps2) (m0 := ?lpm2) (ι := {i : Nat // i ≤ (z.fr k).length}) [1, 3, 4] (fun i => [(5, I i.1)]) (fun i => [(32, .vec 1 1 false (irows (cnts (coverP z k i.1))))]) (fun i => (z.fr k).length - i.1) ⟨0, by omega⟩ ?lhs2 ?lhm2 ?_ ?_
      case lhs2 => first | (simp [keepS]; done) | (simp [keepS]; rfl)
      case lhm2 => first | rfl | (simp; done) | (simp; rfl)
      · rw [← coverP_zero]
        exact le_of2 (by simp) (by simp [AVle, AV.under, AV.underL] <;> omega) (by simp [AOle, AO.under, AV.underL, AV.under] <;> omega)
      · rintro ⟨i, hi⟩
        simp only
        repeat' (first | (apply aw_seq_k; intro K hK) | (refine aw_run hc (by first | exact aw_nod | (intro _; rw [ordB_w hw]; kernel_rfl) | (intro _; kernel_rfl)) ?_; simp (disch := first | omega | assumption | (simp; done) | fail) [if_pos, if_neg, List.zipIdx, wrap64, Zn.cf, irows_gi]; try (repeat' (refine guardQ_split (fun h => ?_) (fun h => ?_) <;> simp at h <;> simp (disch := first | omega | assumption | (simp; done) | fail) [if_pos, if_neg, List.zipIdx, wrap64, Zn.cf, irows_gi]))) | (refine aw_cond (b := _) (by exact rfl) (fun h => ?_) (fun h => ?_) <;> (try simp at h)) | (refine aw_block ?_) | (refine aw_skip ?_; simp only [thenQ, blockQ, if_true]) | (refine aw_exit ?_; simp [thenQ, blockQ]) | (refine aw_ret ?_; simp only [thenQ, blockQ]) | (refine hK _ ?_; clear hK) | (clear hK; refine hK _ ?_; clear hK) | (clear hK; clear hK; refine hK _ ?_; clear hK) | (clear hK; clear hK; clear hK; refine hK _ ?_; clear hK))
        · have hin := (badAt_zero (ho k i hk4 (by omega))).1
          have hb := inside_bounds hz hin
          rw [hw1] at hb
          obtain ⟨f, hf⟩ := Int.eq_ofNat_of_zero_le hb.1
          have hcl := fun n hn y => cnt_le hl (n := n) hk4 (show i < (z.fr k).length by omega) hn y
          rw [hf] at hb hcl
          rw [hw2] at hcl
          rw [hf]
          refine aw_loopK (s0 := ?lps3) (m0 := ?lpm3) (ι := {n : Nat // n ≤ w}) [1, 3, 4, 5] (fun n => [(6, I (((f + n.1 : Nat) : Int)))]) (fun n => [(32, .vec 1 1 false (irows (cnts (coverP z k i ++ span f n.1))))]) (fun n => w - n.1) ⟨0, by omega⟩ ?lhs3 ?lhm3 ?_ ?_
          case lhs3 => first | (simp [keepS]; done) | (simp [keepS]; rfl)
          case lhm3 => first | rfl | (simp; done) | (simp; rfl)
          · exact le_of2 (by simp) (by simp [AVle, AV.under, AV.underL] <;> omega) (by simp [AOle, AO.under, AV.underL, AV.under] <;> omega)
          · rintro ⟨n, hn⟩
            have hcn := hcl n hn ((f : Int) + n)
            simp only
            repeat' (first | (apply aw_seq_k; intro K hK) | (refine aw_run hc (by first | exact aw_nod | (intro _; rw [ordB_w hw]; kernel_rfl) | (intro _; kernel_rfl)) ?_; simp (disch := first | omega | assumption | (simp; done) | fail) [if_pos, if_neg, List.zipIdx, wrap64, wrapU64, Zn.cf, irows_gi, bits64, Nat.min_eq_left (show k ≤ 64 by omega), wrap_pow (show k ≤ 62 by omega), hf, hw1, cnts_get, cnts_st]; try (repeat' (refine guardQ_split (fun h => ?_) (fun h => ?_) <;> simp at h <;> simp (disch := first | omega | assumption | (simp; done) | fail) [if_pos, if_neg, List.zipIdx, wrap64, wrapU64, Zn.cf, irows_gi, bits64, Nat.min_eq_left (show k ≤ 64 by omega), wrap_pow (show k ≤ 62 by omega), hf, hw1, cnts_get, cnts_st]))) | (refine aw_cond (b := _) (by exact rfl) (fun h => ?_) (fun h => ?_) <;> (try simp at h)) | (refine aw_block ?_) | (refine aw_skip ?_; simp only [thenQ, blockQ, if_true]) | (refine aw_exit ?_; simp [thenQ, blockQ]) | (refine aw_ret ?_; simp only [thenQ, blockQ]) | (refine hK _ ?_; clear hK) | (clear hK; refine hK _ ?_; clear hK) | (clear hK; clear hK; refine hK _ ?_; clear hK) | (clear hK; clear hK; clear hK; refine hK _ ?_; clear hK))
            · refine ⟨n + 1, ?_, by omega, by omega⟩
              rw [span_succ, ← List.append_assoc]
              exact le_of2 (by simp) (by simp [AVle, AV.under, AV.underL] <;> omega) (by simp [AOle, AO.under, AV.underL, AV.under] <;> omega)
            · obtain rfl : n = w := by omega
              refine ⟨i + 1, ?_, by omega, by omega⟩
              rw [coverP_succ (by omega), hw2, hf]
              exact le_of2 (by simp) (by simp [AVle, AV.under, AV.underL] <;> omega) (by simp [AOle, AO.under, AV.underL, AV.under] <;> omega)
        · obtain rfl : i = (z.fr k).length := by omega
          refine ⟨k + 1, ?_, by omega, by omega⟩
          rw [coverP_full]
          exact le_of2 (by simp) (by simp [AVle, AV.under, AV.underL] <;> omega) (by simp [AOle, AO.under, AV.underL, AV.under] <;> omega)
    · obtain rfl : k = 5 := by omega
      refine ⟨by simp, ?_⟩
      simp [leaves_iff, Try.f46]
      try (first | omega | (refine decide_eq_decide.2 ?_; omega) | (refine decide_eq_false ?_; omega) | (refine decide_eq_true ?_; omega))
      rw [List.take_of_length_le (by simp)]
end Go.AM
