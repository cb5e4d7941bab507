/- Workingset: the laws Distances, Refaults, Lists, Estimates. -/
import Derived.Test.YtpkbbmimfoakcaaWs12
set_option linter.all false

namespace Go.AM
open Go Go.Proofs

theorem refR_len (l : List Int) (s : Int) : (refR l s).1.length ≤ l.length := by
  unfold refR
  split
  · rename_i h
    have := (rrun_inv (errS_zero.1 h).2.1 l l.length).out
    simp only
    omega
  · simp
theorem lisR_len (l : List Int) (s b : Int) : (lisR l s b).1.length ≤ l.length := by
  unfold lisR
  split
  · rename_i h
    have h0 : errS l.length s = 0 := by
      unfold lisE at h
      split at h
      · assumption
      · assumption
    have := (lrun_inv (b := b) (errS_zero.1 h0).2.1 l l.length).out
    simp only
    omega
  · simp

theorem s3 (X : AX) (L : LawX X) (h11 : ∀ M n, X.call 11 [] M n = some (B true, [])) : PSound Try.prog 3 (specF (ι := Int × Int × Int) (fun x => [I x.1, I x.2.1, I x.2.2]) fun _ => retOf [B true]) := by
  have hX := L.ok
  refine psound_spec hX mixed Try.func3 rfl fun ⟨a, b, s⟩ w0 G => ⟨by show 3 ≤ 42; decide, rfl, ?_⟩
  show AW ⟨Try.prog, X, 42, w0, .pure G⟩ _ _ _
  have hc : Cx.OK ⟨Try.prog, X, 42, w0, .pure G⟩ := ⟨hX, mixed⟩
  rcases Decidable.em (0 ≤ b ∧ b ≤ s) with h | h
  · repeat' (first | (apply aw_seq_k; intro K hK) | (refine aw_run hc (by first | exact aw_nod | (intro _; rw [ordB_w hw]; kernel_rfl) | (intro _; rw [ordB_w0 hw0]; kernel_rfl) | (intro _; kernel_rfl)) ?_; simp [List.zipIdx, h11, L.h12, L.h13, L.h14, L.h15, h, -getM, getM_hit, getM_miss, getM_none]; (repeat (simp (disch := first | omega | assumption | fail) only [if_pos, if_neg, wrap64]; try simp [List.zipIdx, h11, L.h12, L.h13, L.h14, L.h15, h, -getM, getM_hit, getM_miss, getM_none])); try (repeat' (refine guardQ_split (fun h => ?_) (fun h => ?_) <;> simp at h <;> (simp [List.zipIdx, h11, L.h12, L.h13, L.h14, L.h15, h, -getM, getM_hit, getM_miss, getM_none]; (repeat (simp (disch := first | omega | assumption | fail) only [if_pos, if_neg, wrap64]; try simp [List.zipIdx, h11, L.h12, L.h13, L.h14, L.h15, h, -getM, getM_hit, getM_miss, getM_none])))))) | (refine aw_cond (b := _) (by exact rfl) (fun h => ?_) (fun h => ?_) <;> (try simp at h)) | (refine aw_block ?_) | (refine aw_skip ?_; simp only [thenQ, blockQ, if_true]) | (refine aw_exit ?_; simp [thenQ, blockQ]) | (refine aw_ret ?_; simp only [thenQ, blockQ]) | (refine aw_round ?_) | (refine hK _ ?_; clear hK) | (clear hK; refine hK _ ?_; clear hK) | (clear hK; clear hK; refine hK _ ?_; clear hK) | (clear hK; clear hK; clear hK; refine hK _ ?_; clear hK))
    refine ⟨by simp, ?_⟩
    simp [leaves_iff, Try.f3]
    try (first | omega | (refine decide_eq_decide.2 ?_; omega) | (refine decide_eq_false ?_; omega) | (refine decide_eq_true ?_; omega))
  · repeat' (first | (apply aw_seq_k; intro K hK) | (refine aw_run hc (by first | exact aw_nod | (intro _; rw [ordB_w hw]; kernel_rfl) | (intro _; rw [ordB_w0 hw0]; kernel_rfl) | (intro _; kernel_rfl)) ?_; simp [List.zipIdx, h11, L.h12, L.h13, L.h14, L.h15, h, -getM, getM_hit, getM_miss, getM_none]; (repeat (simp (disch := first | omega | assumption | fail) only [if_pos, if_neg, wrap64]; try simp [List.zipIdx, h11, L.h12, L.h13, L.h14, L.h15, h, -getM, getM_hit, getM_miss, getM_none])); try (repeat' (refine guardQ_split (fun h => ?_) (fun h => ?_) <;> simp at h <;> (simp [List.zipIdx, h11, L.h12, L.h13, L.h14, L.h15, h, -getM, getM_hit, getM_miss, getM_none]; (repeat (simp (disch := first | omega | assumption | fail) only [if_pos, if_neg, wrap64]; try simp [List.zipIdx, h11, L.h12, L.h13, L.h14, L.h15, h, -getM, getM_hit, getM_miss, getM_none])))))) | (refine aw_cond (b := _) (by exact rfl) (fun h => ?_) (fun h => ?_) <;> (try simp at h)) | (refine aw_block ?_) | (refine aw_skip ?_; simp only [thenQ, blockQ, if_true]) | (refine aw_exit ?_; simp [thenQ, blockQ]) | (refine aw_ret ?_; simp only [thenQ, blockQ]) | (refine aw_round ?_) | (refine hK _ ?_; clear hK) | (clear hK; refine hK _ ?_; clear hK) | (clear hK; clear hK; refine hK _ ?_; clear hK) | (clear hK; clear hK; clear hK; refine hK _ ?_; clear hK))
    refine ⟨by simp, ?_⟩
    simp [leaves_iff, Try.f3]
    try (first | omega | (refine decide_eq_decide.2 ?_; omega) | (refine decide_eq_false ?_; omega) | (refine decide_eq_true ?_; omega))

theorem s4 (X : AX) (L : LawX X) (h11 : ∀ M n, X.call 11 [] M n = some (B true, [])) : PSound Try.prog 4 (specF (ι := List Int × Int) (fun x => [.rd 1 (irows x.1), I x.2]) fun _ => retOf [B true]) := by
  have hX := L.ok
  have hw := L.w
  refine psound_spec hX mixed Try.func4 rfl fun ⟨l, s⟩ w0 G => ⟨by show 2 ≤ 37; decide, rfl, ?_⟩
  show AW ⟨Try.prog, X, 37, w0, .pure G⟩ _ _ _
  have hc : Cx.OK ⟨Try.prog, X, 37, w0, .pure G⟩ := ⟨hX, mixed⟩
  rcases Decidable.em (300 < (l.length : Int)) with h | h
  · repeat' (first | (apply aw_seq_k; intro K hK) | (refine aw_run hc (by first | exact aw_nod | (intro _; rw [ordB_w hw]; kernel_rfl) | (intro _; rw [ordB_w0 hw0]; kernel_rfl) | (intro _; kernel_rfl)) ?_; simp [List.zipIdx, h11, h, -getM, getM_hit, getM_miss, getM_none]; (repeat (simp (disch := first | omega | assumption | fail) only [if_pos, if_neg, wrap64]; try simp [List.zipIdx, h11, h, -getM, getM_hit, getM_miss, getM_none])); try (repeat' (refine guardQ_split (fun h => ?_) (fun h => ?_) <;> simp at h <;> (simp [List.zipIdx, h11, h, -getM, getM_hit, getM_miss, getM_none]; (repeat (simp (disch := first | omega | assumption | fail) only [if_pos, if_neg, wrap64]; try simp [List.zipIdx, h11, h, -getM, getM_hit, getM_miss, getM_none])))))) | (refine aw_cond (b := _) (by exact rfl) (fun h => ?_) (fun h => ?_) <;> (try simp at h)) | (refine aw_block ?_) | (refine aw_skip ?_; simp only [thenQ, blockQ, if_true]) | (refine aw_exit ?_; simp [thenQ, blockQ]) | (refine aw_ret ?_; simp only [thenQ, blockQ]) | (refine aw_round ?_) | (refine hK _ ?_; clear hK) | (clear hK; refine hK _ ?_; clear hK) | (clear hK; clear hK; refine hK _ ?_; clear hK) | (clear hK; clear hK; clear hK; refine hK _ ?_; clear hK))
    refine ⟨by simp, ?_⟩
    simp [leaves_iff, Try.f4]
    try (first | omega | (refine decide_eq_decide.2 ?_; omega) | (refine decide_eq_false ?_; omega) | (refine decide_eq_true ?_; omega))
  · have h16 := F16_at l s
    have hl := refR_len l s
    have h18 := F18_at (refR l s).1 (refR l s).1 ⟨by omega, by omega⟩
    repeat' (first | (apply aw_seq_k; intro K hK) | (refine aw_run hc (by first | exact aw_nod | (intro _; rw [ordB_w hw]; kernel_rfl) | (intro _; rw [ordB_w0 hw0]; kernel_rfl) | (intro _; kernel_rfl)) ?_; simp [List.zipIdx, h11, h, L.h16, L.h17, h16, L.h18, h18, tkI, -getM, getM_hit, getM_miss, getM_none]; (repeat (simp (disch := first | omega | assumption | fail) only [if_pos, if_neg, wrap64]; try simp [List.zipIdx, h11, h, L.h16, L.h17, h16, L.h18, h18, tkI, -getM, getM_hit, getM_miss, getM_none])); try (repeat' (refine guardQ_split (fun h => ?_) (fun h => ?_) <;> simp at h <;> (simp [List.zipIdx, h11, h, L.h16, L.h17, h16, L.h18, h18, tkI, -getM, getM_hit, getM_miss, getM_none]; (repeat (simp (disch := first | omega | assumption | fail) only [if_pos, if_neg, wrap64]; try simp [List.zipIdx, h11, h, L.h16, L.h17, h16, L.h18, h18, tkI, -getM, getM_hit, getM_miss, getM_none])))))) | (refine aw_cond (b := _) (by exact rfl) (fun h => ?_) (fun h => ?_) <;> (try simp at h)) | (refine aw_block ?_) | (refine aw_skip ?_; simp only [thenQ, blockQ, if_true]) | (refine aw_exit ?_; simp [thenQ, blockQ]) | (refine aw_ret ?_; simp only [thenQ, blockQ]) | (refine aw_round ?_) | (refine hK _ ?_; clear hK) | (clear hK; refine hK _ ?_; clear hK) | (clear hK; clear hK; refine hK _ ?_; clear hK) | (clear hK; clear hK; clear hK; refine hK _ ?_; clear hK))
    refine ⟨by simp, ?_⟩
    simp [leaves_iff, Try.f4]
    try (first | omega | (refine decide_eq_decide.2 ?_; omega) | (refine decide_eq_false ?_; omega) | (refine decide_eq_true ?_; omega))

theorem s5 (X : AX) (L : LawX X) (h11 : ∀ M n, X.call 11 [] M n = some (B true, [])) : PSound Try.prog 5 (specF (ι := List Int × Int × Int) (fun x => [.rd 1 (irows x.1), I x.2.1, I x.2.2]) fun _ => retOf [B true]) := by
  have hX := L.ok
  have hw := L.w
  refine psound_spec hX mixed Try.func5 rfl fun ⟨l, s, b⟩ w0 G => ⟨by show 3 ≤ 41; decide, rfl, ?_⟩
  show AW ⟨Try.prog, X, 41, w0, .pure G⟩ _ _ _
  have hc : Cx.OK ⟨Try.prog, X, 41, w0, .pure G⟩ := ⟨hX, mixed⟩
  rcases Decidable.em (300 < (l.length : Int)) with h | h
  · repeat' (first | (apply aw_seq_k; intro K hK) | (refine aw_run hc (by first | exact aw_nod | (intro _; rw [ordB_w hw]; kernel_rfl) | (intro _; rw [ordB_w0 hw0]; kernel_rfl) | (intro _; kernel_rfl)) ?_; simp [List.zipIdx, h11, h, -getM, getM_hit, getM_miss, getM_none]; (repeat (simp (disch := first | omega | assumption | fail) only [if_pos, if_neg, wrap64]; try simp [List.zipIdx, h11, h, -getM, getM_hit, getM_miss, getM_none])); try (repeat' (refine guardQ_split (fun h => ?_) (fun h => ?_) <;> simp at h <;> (simp [List.zipIdx, h11, h, -getM, getM_hit, getM_miss, getM_none]; (repeat (simp (disch := first | omega | assumption | fail) only [if_pos, if_neg, wrap64]; try simp [List.zipIdx, h11, h, -getM, getM_hit, getM_miss, getM_none])))))) | (refine aw_cond (b := _) (by exact rfl) (fun h => ?_) (fun h => ?_) <;> (try simp at h)) | (refine aw_block ?_) | (refine aw_skip ?_; simp only [thenQ, blockQ, if_true]) | (refine aw_exit ?_; simp [thenQ, blockQ]) | (refine aw_ret ?_; simp only [thenQ, blockQ]) | (refine aw_round ?_) | (refine hK _ ?_; clear hK) | (clear hK; refine hK _ ?_; clear hK) | (clear hK; clear hK; refine hK _ ?_; clear hK) | (clear hK; clear hK; clear hK; refine hK _ ?_; clear hK))
    refine ⟨by simp, ?_⟩
    simp [leaves_iff, Try.f5]
    try (first | omega | (refine decide_eq_decide.2 ?_; omega) | (refine decide_eq_false ?_; omega) | (refine decide_eq_true ?_; omega))
  · have h19 := F19_at l s b
    have hl := lisR_len l s b
    have h18 := F18_at (lisR l s b).1 (lisR l s b).1 ⟨by omega, by omega⟩
    repeat' (first | (apply aw_seq_k; intro K hK) | (refine aw_run hc (by first | exact aw_nod | (intro _; rw [ordB_w hw]; kernel_rfl) | (intro _; rw [ordB_w0 hw0]; kernel_rfl) | (intro _; kernel_rfl)) ?_; simp [List.zipIdx, h11, h, L.h19, L.h20, h19, L.h18, h18, tkI, -getM, getM_hit, getM_miss, getM_none]; (repeat (simp (disch := first | omega | assumption | fail) only [if_pos, if_neg, wrap64]; try simp [List.zipIdx, h11, h, L.h19, L.h20, h19, L.h18, h18, tkI, -getM, getM_hit, getM_miss, getM_none])); try (repeat' (refine guardQ_split (fun h => ?_) (fun h => ?_) <;> simp at h <;> (simp [List.zipIdx, h11, h, L.h19, L.h20, h19, L.h18, h18, tkI, -getM, getM_hit, getM_miss, getM_none]; (repeat (simp (disch := first | omega | assumption | fail) only [if_pos, if_neg, wrap64]; try simp [List.zipIdx, h11, h, L.h19, L.h20, h19, L.h18, h18, tkI, -getM, getM_hit, getM_miss, getM_none])))))) | (refine aw_cond (b := _) (by exact rfl) (fun h => ?_) (fun h => ?_) <;> (try simp at h)) | (refine aw_block ?_) | (refine aw_skip ?_; simp only [thenQ, blockQ, if_true]) | (refine aw_exit ?_; simp [thenQ, blockQ]) | (refine aw_ret ?_; simp only [thenQ, blockQ]) | (refine aw_round ?_) | (refine hK _ ?_; clear hK) | (clear hK; refine hK _ ?_; clear hK) | (clear hK; clear hK; refine hK _ ?_; clear hK) | (clear hK; clear hK; clear hK; refine hK _ ?_; clear hK))
    refine ⟨by simp, ?_⟩
    simp [leaves_iff, Try.f5]
    try (first | omega | (refine decide_eq_decide.2 ?_; omega) | (refine decide_eq_false ?_; omega) | (refine decide_eq_true ?_; omega))

/-! The estimate -/
def cG (l : List Int) (m : Int) : Nat := l.countP fun x => decide (m < x)
def cE (l : List Int) (m : Int) : Nat := l.countP fun x => decide (m ≤ x)
theorem cG_succ {l : List Int} {m : Int} {i : Nat} (h : i < l.length) : cG (l.take (i + 1)) m = cG (l.take i) m + if m < gi l i then 1 else 0 := by
  unfold cG
  rw [take_succ_gi h, List.countP_append]
  by_cases e : m < gi l i <;> simp [e]
theorem cE_succ {l : List Int} {m : Int} {i : Nat} (h : i < l.length) : cE (l.take (i + 1)) m = cE (l.take i) m + if m ≤ gi l i then 1 else 0 := by
  unfold cE
  rw [take_succ_gi h, List.countP_append]
  by_cases e : m ≤ gi l i <;> simp [e]
theorem cG_len (l : List Int) (m : Int) : cG l m ≤ l.length := List.countP_le_length
theorem cE_len (l : List Int) (m : Int) : cE l m ≤ l.length := List.countP_le_length
theorem countP_cut (S : List Int) (n : Nat) (p : Int → Bool) : S.countP p = (S.take n).countP p + (S.drop n).countP p := by
  rw [← List.countP_append, List.take_append_drop]
theorem est_law {l : List Int} (h : ∀ x ∈ l, cnt x) (hl : ¬ 10000 < l.length) : (estR l).2 = 0 ∧ 0 ≤ (estR l).1 ∧ cG l (estR l).1 ≤ l.length / 8 ∧ ((estR l).1 = 0 ∨ l.length / 8 < cE l (estR l).1) := by
  unfold estR
  rw [if_neg hl, if_pos h]
  by_cases h0 : l = []
  · subst h0; simp [cG]
  · rw [if_neg h0]
    have hp : 0 < l.length := by
      rcases Nat.eq_zero_or_pos l.length with e | e
      · exact absurd (List.eq_nil_of_length_eq_zero e) h0
      · exact e
    have hle := sortL_len l
    have hpm := sortL_perm l
    have hso := sortL_sorted l
    obtain ⟨S, hS⟩ : ∃ S, S = sortL l := ⟨_, rfl⟩
    rw [← hS] at hle hpm hso ⊢
    obtain ⟨k, hk⟩ : ∃ k, k = l.length - 1 - l.length / 8 := ⟨_, rfl⟩
    have hkl : k < S.length := by omega
    simp only [← hk]
    have hmem : gi S k ∈ l := hpm.subset (gi_mem hkl)
    have hpw := List.pairwise_iff_getElem.1 hso
    refine ⟨trivial, (h _ hmem).1, ?_, .inr ?_⟩
    · have e : cG l (gi S k) = cG S (gi S k) := (hpm.countP_eq _).symm
      rw [e]
      unfold cG
      rw [countP_cut S (k + 1)]
      have z : (S.take (k + 1)).countP (fun x => decide (gi S k < x)) = 0 := by
        rw [List.countP_eq_zero]
        intro x hx
        obtain ⟨i, hi, rfl⟩ := List.mem_iff_getElem.1 hx
        simp only [List.length_take] at hi
        simp only [List.getElem_take, decide_eq_true_eq]
        rcases Nat.lt_succ_iff_lt_or_eq.1 (show i < k + 1 by omega) with h1 | rfl
        · have := hpw i k (by omega) hkl h1
          rw [gi_eq hkl]; omega
        · rw [gi_eq hkl]; omega
      rw [z]
      have := List.countP_le_length (l := S.drop (k + 1)) (p := fun x => decide (gi S k < x))
      rw [List.length_drop] at this
      omega
    · have e : cE l (gi S k) = cE S (gi S k) := (hpm.countP_eq _).symm
      rw [e]
      unfold cE
      rw [countP_cut S k]
      have z : (S.drop k).countP (fun x => decide (gi S k ≤ x)) = (S.drop k).length := by
        rw [List.countP_eq_length]
        intro x hx
        obtain ⟨i, hi, rfl⟩ := List.mem_iff_getElem.1 hx
        simp only [List.length_drop] at hi
        simp only [List.getElem_drop, decide_eq_true_eq]
        rcases Nat.eq_zero_or_pos i with rfl | h1
        · rw [gi_eq hkl]; simp
        · have := hpw k (k + i) hkl (by omega) (by omega)
          rw [gi_eq hkl]; exact this
      rw [z, List.length_drop]
      omega

set_option maxHeartbeats 1000000 in
theorem s6 (X : AX) (L : LawX X) (h11 : ∀ M n, X.call 11 [] M n = some (B true, [])) : PSound Try.prog 6 (specF (ι := List Int) (fun x => [.rd 1 (irows x)]) fun _ => retOf [B true]) := by
  have hX := L.ok
  have hw := L.w
  refine psound_spec hX mixed Try.func6 rfl fun l w0 G => ⟨by show 1 ≤ 71; decide, rfl, ?_⟩
  show AW ⟨Try.prog, X, 71, w0, .pure G⟩ _ _ _
  have hc : Cx.OK ⟨Try.prog, X, 71, w0, .pure G⟩ := ⟨hX, mixed⟩
  rcases Decidable.em (300 < (l.length : Int)) with h | h
  · repeat' (first | (apply aw_seq_k; intro K hK) | (refine aw_run hc (by first | exact aw_nod | (intro _; rw [ordB_w hw]; kernel_rfl) | (intro _; rw [ordB_w0 hw0]; kernel_rfl) | (intro _; kernel_rfl)) ?_; simp [List.zipIdx, h11, h, -getM, getM_hit, getM_miss, getM_none]; (repeat (simp (disch := first | omega | assumption | fail) only [if_pos, if_neg, wrap64]; try simp [List.zipIdx, h11, h, -getM, getM_hit, getM_miss, getM_none])); try (repeat' (refine guardQ_split (fun h => ?_) (fun h => ?_) <;> simp at h <;> (simp [List.zipIdx, h11, h, -getM, getM_hit, getM_miss, getM_none]; (repeat (simp (disch := first | omega | assumption | fail) only [if_pos, if_neg, wrap64]; try simp [List.zipIdx, h11, h, -getM, getM_hit, getM_miss, getM_none])))))) | (refine aw_cond (b := _) (by exact rfl) (fun h => ?_) (fun h => ?_) <;> (try simp at h)) | (refine aw_block ?_) | (refine aw_skip ?_; simp only [thenQ, blockQ, if_true]) | (refine aw_exit ?_; simp [thenQ, blockQ]) | (refine aw_ret ?_; simp only [thenQ, blockQ]) | (refine aw_round ?_) | (refine hK _ ?_; clear hK) | (clear hK; refine hK _ ?_; clear hK) | (clear hK; clear hK; refine hK _ ?_; clear hK) | (clear hK; clear hK; clear hK; refine hK _ ?_; clear hK))
    refine ⟨by simp, ?_⟩
    simp [leaves_iff, Try.f6]
    try (first | omega | (refine decide_eq_decide.2 ?_; omega) | (refine decide_eq_false ?_; omega) | (refine decide_eq_true ?_; omega))
  · have h21 := F21_at l
    have hlaw := fun hh => est_law (l := l) hh (by omega)
    have hbad : (¬ ∀ x ∈ l, cnt x) → (estR l).2 = 2 := fun hh => by unfold estR; rw [if_neg (by omega), if_neg hh]
    obtain ⟨m, hm⟩ : ∃ m, m = (estR l).1 := ⟨_, rfl⟩
    obtain ⟨e, he⟩ : ∃ e, e = (estR l).2 := ⟨_, rfl⟩
    rw [← hm, ← he] at hlaw h21
    rw [← he] at hbad
    repeat' (first | (apply aw_seq_k; intro K hK) | (refine aw_run hc (by first | exact aw_nod | (intro _; rw [ordB_w hw]; kernel_rfl) | (intro _; rw [ordB_w0 hw0]; kernel_rfl) | (intro _; kernel_rfl)) ?_; simp [List.zipIdx, h11, h, L.h21, h21, -getM, getM_hit, getM_miss, getM_none]; (repeat (simp (disch := first | omega | assumption | fail) only [if_pos, if_neg, wrap64]; try simp [List.zipIdx, h11, h, L.h21, h21, -getM, getM_hit, getM_miss, getM_none])); try (repeat' (refine guardQ_split (fun h => ?_) (fun h => ?_) <;> simp at h <;> (simp [List.zipIdx, h11, h, L.h21, h21, -getM, getM_hit, getM_miss, getM_none]; (repeat (simp (disch := first | omega | assumption | fail) only [if_pos, if_neg, wrap64]; try simp [List.zipIdx, h11, h, L.h21, h21, -getM, getM_hit, getM_miss, getM_none])))))) | (refine aw_cond (b := _) (by exact rfl) (fun h => ?_) (fun h => ?_) <;> (try simp at h)) | (refine aw_block ?_) | (refine aw_skip ?_; simp only [thenQ, blockQ, if_true]) | (refine aw_exit ?_; simp [thenQ, blockQ]) | (refine aw_ret ?_; simp only [thenQ, blockQ]) | (refine aw_round ?_) | (refine hK _ ?_; clear hK) | (clear hK; refine hK _ ?_; clear hK) | (clear hK; clear hK; refine hK _ ?_; clear hK) | (clear hK; clear hK; clear hK; refine hK _ ?_; clear hK))
    refine aw_loopK (s0 := ?lps1) (m0 := ?lpm1) (ι := {i : Nat // i ≤ l.length ∧ ∀ j, j < i → cnt (gi l j)}) [0, 3, 4, 22, 23] (fun i => [(24, I i.1), (5, I (cG (l.take i.1) m)), (6, I (cE (l.take i.1) m))]) (fun _ => []) (fun i => l.length - i.1) ⟨0, by omega, fun j hj => by omega⟩ ?lhs1 ?lhm1 ?_ ?_
    case lhs1 => first | (simp [keepS]; done) | (simp [keepS]; rfl)
    case lhm1 => first | rfl | (simp; done) | (simp; rfl)
    · simp only [List.take_zero, cG, cE, List.countP_nil]
      exact le_of2 (by simp) (by simp [AVle, AV.under, AV.underL] <;> omega) (by simp [AOle, AO.under, AV.underL, AV.under] <;> omega)
    · rintro ⟨i, hi, hall⟩
      simp only
      have hgl := cG_len (l.take i) m
      have hel := cE_len (l.take i) m
      rw [List.length_take] at hgl hel
      obtain ⟨g, hg0⟩ : ∃ g, g = cG (l.take i) m := ⟨_, rfl⟩
      obtain ⟨c, hc0⟩ : ∃ c, c = cE (l.take i) m := ⟨_, rfl⟩
      rcases Decidable.em (i < l.length) with hil | hil
      · have hilI : (i : Int) < (l.length : Int) := by omega
        have hg := irows_gi hil
        have s1 := cG_succ (m := m) hil
        have s2 := cE_succ (m := m) hil
        rw [← hg0] at s1 hgl ⊢
        rw [← hc0] at s2 hel ⊢
        obtain ⟨d, hd⟩ : ∃ d, d = gi l i := ⟨_, rfl⟩
        rw [← hd] at hg s1 s2
        have hgE : ∀ h, (irows l)[i]'h = [I d] := fun h => by rw [List.getElem?_eq_getElem h] at hg; exact Option.some.inj hg
        rcases Decidable.em (d < 0) with h1 | h1
        · have he2 := hbad fun h => by have := h _ (gi_mem hil); unfold cnt at this; omega
          repeat' (first | (apply aw_seq_k; intro K hK) | (refine aw_run hc (by first | exact aw_nod | (intro _; rw [ordB_w hw]; kernel_rfl) | (intro _; rw [ordB_w0 hw0]; kernel_rfl) | (intro _; kernel_rfl)) ?_; simp [List.zipIdx, hilI, hg, hgE, h1, he2, -getM, getM_hit, getM_miss, getM_none]; (repeat (simp (disch := first | omega | assumption | fail) only [if_pos, if_neg, wrap64]; try simp [List.zipIdx, hilI, hg, hgE, h1, he2, -getM, getM_hit, getM_miss, getM_none])); try (repeat' (refine guardQ_split (fun h => ?_) (fun h => ?_) <;> simp at h <;> (simp [List.zipIdx, hilI, hg, hgE, h1, he2, -getM, getM_hit, getM_miss, getM_none]; (repeat (simp (disch := first | omega | assumption | fail) only [if_pos, if_neg, wrap64]; try simp [List.zipIdx, hilI, hg, hgE, h1, he2, -getM, getM_hit, getM_miss, getM_none])))))) | (refine aw_cond (b := _) (by exact rfl) (fun h => ?_) (fun h => ?_) <;> (try simp at h)) | (refine aw_block ?_) | (refine aw_skip ?_; simp only [thenQ, blockQ, if_true]) | (refine aw_exit ?_; simp [thenQ, blockQ]) | (refine aw_ret ?_; simp only [thenQ, blockQ]) | (refine aw_round ?_) | (refine hK _ ?_; clear hK) | (clear hK; refine hK _ ?_; clear hK) | (clear hK; clear hK; refine hK _ ?_; clear hK) | (clear hK; clear hK; clear hK; refine hK _ ?_; clear hK))
          refine ⟨by simp, ?_⟩
          simp [leaves_iff, Try.f6]
          try (first | omega | (refine decide_eq_decide.2 ?_; omega) | (refine decide_eq_false ?_; omega) | (refine decide_eq_true ?_; omega))
        · rcases Decidable.em (1099511627776 < d) with h2 | h2
          · have he2 := hbad fun h => by have := h _ (gi_mem hil); unfold cnt at this; omega
            repeat' (first | (apply aw_seq_k; intro K hK) | (refine aw_run hc (by first | exact aw_nod | (intro _; rw [ordB_w hw]; kernel_rfl) | (intro _; rw [ordB_w0 hw0]; kernel_rfl) | (intro _; kernel_rfl)) ?_; simp [List.zipIdx, hilI, hg, hgE, h1, h2, he2, -getM, getM_hit, getM_miss, getM_none]; (repeat (simp (disch := first | omega | assumption | fail) only [if_pos, if_neg, wrap64]; try simp [List.zipIdx, hilI, hg, hgE, h1, h2, he2, -getM, getM_hit, getM_miss, getM_none])); try (repeat' (refine guardQ_split (fun h => ?_) (fun h => ?_) <;> simp at h <;> (simp [List.zipIdx, hilI, hg, hgE, h1, h2, he2, -getM, getM_hit, getM_miss, getM_none]; (repeat (simp (disch := first | omega | assumption | fail) only [if_pos, if_neg, wrap64]; try simp [List.zipIdx, hilI, hg, hgE, h1, h2, he2, -getM, getM_hit, getM_miss, getM_none])))))) | (refine aw_cond (b := _) (by exact rfl) (fun h => ?_) (fun h => ?_) <;> (try simp at h)) | (refine aw_block ?_) | (refine aw_skip ?_; simp only [thenQ, blockQ, if_true]) | (refine aw_exit ?_; simp [thenQ, blockQ]) | (refine aw_ret ?_; simp only [thenQ, blockQ]) | (refine aw_round ?_) | (refine hK _ ?_; clear hK) | (clear hK; refine hK _ ?_; clear hK) | (clear hK; clear hK; refine hK _ ?_; clear hK) | (clear hK; clear hK; clear hK; refine hK _ ?_; clear hK))
            refine ⟨by simp, ?_⟩
            simp [leaves_iff, Try.f6]
            try (first | omega | (refine decide_eq_decide.2 ?_; omega) | (refine decide_eq_false ?_; omega) | (refine decide_eq_true ?_; omega))
          · have hall' : ∀ j, j < i + 1 → cnt (gi l j) := fun j hj => by
              rcases Nat.lt_succ_iff_lt_or_eq.1 hj with h | rfl
              · exact hall j h
              · unfold cnt; omega
            rcases Decidable.em (m < d) with h3 | h3
            · have h4 : m ≤ d := by omega
              rw [if_pos h3] at s1
              rw [if_pos h4] at s2
              repeat' (first | (apply aw_seq_k; intro K hK) | (refine aw_run hc (by first | exact aw_nod | (intro _; rw [ordB_w hw]; kernel_rfl) | (intro _; rw [ordB_w0 hw0]; kernel_rfl) | (intro _; kernel_rfl)) ?_; simp [List.zipIdx, hilI, hg, hgE, h1, h2, h3, h4, -getM, getM_hit, getM_miss, getM_none]; (repeat (simp (disch := first | omega | assumption | fail) only [if_pos, if_neg, wrap64]; try simp [List.zipIdx, hilI, hg, hgE, h1, h2, h3, h4, -getM, getM_hit, getM_miss, getM_none])); try (repeat' (refine guardQ_split (fun h => ?_) (fun h => ?_) <;> simp at h <;> (simp [List.zipIdx, hilI, hg, hgE, h1, h2, h3, h4, -getM, getM_hit, getM_miss, getM_none]; (repeat (simp (disch := first | omega | assumption | fail) only [if_pos, if_neg, wrap64]; try simp [List.zipIdx, hilI, hg, hgE, h1, h2, h3, h4, -getM, getM_hit, getM_miss, getM_none])))))) | (refine aw_cond (b := _) (by exact rfl) (fun h => ?_) (fun h => ?_) <;> (try simp at h)) | (refine aw_block ?_) | (refine aw_skip ?_; simp only [thenQ, blockQ, if_true]) | (refine aw_exit ?_; simp [thenQ, blockQ]) | (refine aw_ret ?_; simp only [thenQ, blockQ]) | (refine aw_round ?_) | (refine hK _ ?_; clear hK) | (clear hK; refine hK _ ?_; clear hK) | (clear hK; clear hK; refine hK _ ?_; clear hK) | (clear hK; clear hK; clear hK; refine hK _ ?_; clear hK))
              refine ⟨i + 1, ?_, ⟨by omega, hall'⟩, by omega⟩
              simp only [s1, s2]
              exact le_of2 (by simp) (by simp [AVle, AV.under, AV.underL] <;> omega) (by simp [AOle, AO.under, AV.underL, AV.under] <;> omega)
            · rw [if_neg h3] at s1
              rcases Decidable.em (m ≤ d) with h4 | h4
              · rw [if_pos h4] at s2
                repeat' (first | (apply aw_seq_k; intro K hK) | (refine aw_run hc (by first | exact aw_nod | (intro _; rw [ordB_w hw]; kernel_rfl) | (intro _; rw [ordB_w0 hw0]; kernel_rfl) | (intro _; kernel_rfl)) ?_; simp [List.zipIdx, hilI, hg, hgE, h1, h2, h3, h4, -getM, getM_hit, getM_miss, getM_none]; (repeat (simp (disch := first | omega | assumption | fail) only [if_pos, if_neg, wrap64]; try simp [List.zipIdx, hilI, hg, hgE, h1, h2, h3, h4, -getM, getM_hit, getM_miss, getM_none])); try (repeat' (refine guardQ_split (fun h => ?_) (fun h => ?_) <;> simp at h <;> (simp [List.zipIdx, hilI, hg, hgE, h1, h2, h3, h4, -getM, getM_hit, getM_miss, getM_none]; (repeat (simp (disch := first | omega | assumption | fail) only [if_pos, if_neg, wrap64]; try simp [List.zipIdx, hilI, hg, hgE, h1, h2, h3, h4, -getM, getM_hit, getM_miss, getM_none])))))) | (refine aw_cond (b := _) (by exact rfl) (fun h => ?_) (fun h => ?_) <;> (try simp at h)) | (refine aw_block ?_) | (refine aw_skip ?_; simp only [thenQ, blockQ, if_true]) | (refine aw_exit ?_; simp [thenQ, blockQ]) | (refine aw_ret ?_; simp only [thenQ, blockQ]) | (refine aw_round ?_) | (refine hK _ ?_; clear hK) | (clear hK; refine hK _ ?_; clear hK) | (clear hK; clear hK; refine hK _ ?_; clear hK) | (clear hK; clear hK; clear hK; refine hK _ ?_; clear hK))
                refine ⟨i + 1, ?_, ⟨by omega, hall'⟩, by omega⟩
                simp only [s1, s2]
                exact le_of2 (by simp) (by simp [AVle, AV.under, AV.underL] <;> omega) (by simp [AOle, AO.under, AV.underL, AV.under] <;> omega)
              · rw [if_neg h4] at s2
                repeat' (first | (apply aw_seq_k; intro K hK) | (refine aw_run hc (by first | exact aw_nod | (intro _; rw [ordB_w hw]; kernel_rfl) | (intro _; rw [ordB_w0 hw0]; kernel_rfl) | (intro _; kernel_rfl)) ?_; simp [List.zipIdx, hilI, hg, hgE, h1, h2, h3, h4, -getM, getM_hit, getM_miss, getM_none]; (repeat (simp (disch := first | omega | assumption | fail) only [if_pos, if_neg, wrap64]; try simp [List.zipIdx, hilI, hg, hgE, h1, h2, h3, h4, -getM, getM_hit, getM_miss, getM_none])); try (repeat' (refine guardQ_split (fun h => ?_) (fun h => ?_) <;> simp at h <;> (simp [List.zipIdx, hilI, hg, hgE, h1, h2, h3, h4, -getM, getM_hit, getM_miss, getM_none]; (repeat (simp (disch := first | omega | assumption | fail) only [if_pos, if_neg, wrap64]; try simp [List.zipIdx, hilI, hg, hgE, h1, h2, h3, h4, -getM, getM_hit, getM_miss, getM_none])))))) | (refine aw_cond (b := _) (by exact rfl) (fun h => ?_) (fun h => ?_) <;> (try simp at h)) | (refine aw_block ?_) | (refine aw_skip ?_; simp only [thenQ, blockQ, if_true]) | (refine aw_exit ?_; simp [thenQ, blockQ]) | (refine aw_ret ?_; simp only [thenQ, blockQ]) | (refine aw_round ?_) | (refine hK _ ?_; clear hK) | (clear hK; refine hK _ ?_; clear hK) | (clear hK; clear hK; refine hK _ ?_; clear hK) | (clear hK; clear hK; clear hK; refine hK _ ?_; clear hK))
                refine ⟨i + 1, ?_, ⟨by omega, hall'⟩, by omega⟩
                simp only [s1, s2]
                exact le_of2 (by simp) (by simp [AVle, AV.under, AV.underL] <;> omega) (by simp [AOle, AO.under, AV.underL, AV.under] <;> omega)
      · obtain rfl : i = l.length := by omega
        have hyes : ∀ x ∈ l, cnt x := fun x hx => by
          obtain ⟨n, h1, h2⟩ := gi_of_mem hx
          rw [← h2]; exact hall n h1
        obtain ⟨k1, k2, k3, k4⟩ := hlaw hyes
        rw [List.take_length] at hg0 hc0
        rw [← hg0] at k3
        rw [← hc0] at k4
        rw [List.take_length, ← hg0, ← hc0]
        have k3' : (g : Int) ≤ (l.length : Int) / 8 := by omega
        rcases Decidable.em (m = 0) with h0 | h0
        · repeat' (first | (apply aw_seq_k; intro K hK) | (refine aw_run hc (by first | exact aw_nod | (intro _; rw [ordB_w hw]; kernel_rfl) | (intro _; rw [ordB_w0 hw0]; kernel_rfl) | (intro _; kernel_rfl)) ?_; simp [List.zipIdx, k1, k2, k3', h0, h11, -getM, getM_hit, getM_miss, getM_none]; (repeat (simp (disch := first | omega | assumption | fail) only [if_pos, if_neg, wrap64]; try simp [List.zipIdx, k1, k2, k3', h0, h11, -getM, getM_hit, getM_miss, getM_none])); try (repeat' (refine guardQ_split (fun h => ?_) (fun h => ?_) <;> simp at h <;> (simp [List.zipIdx, k1, k2, k3', h0, h11, -getM, getM_hit, getM_miss, getM_none]; (repeat (simp (disch := first | omega | assumption | fail) only [if_pos, if_neg, wrap64]; try simp [List.zipIdx, k1, k2, k3', h0, h11, -getM, getM_hit, getM_miss, getM_none])))))) | (refine aw_cond (b := _) (by exact rfl) (fun h => ?_) (fun h => ?_) <;> (try simp at h)) | (refine aw_block ?_) | (refine aw_skip ?_; simp only [thenQ, blockQ, if_true]) | (refine aw_exit ?_; simp [thenQ, blockQ]) | (refine aw_ret ?_; simp only [thenQ, blockQ]) | (refine aw_round ?_) | (refine hK _ ?_; clear hK) | (clear hK; refine hK _ ?_; clear hK) | (clear hK; clear hK; refine hK _ ?_; clear hK) | (clear hK; clear hK; clear hK; refine hK _ ?_; clear hK))
          refine ⟨by simp, ?_⟩
          simp [leaves_iff, Try.f6]
          try (first | omega | (refine decide_eq_decide.2 ?_; omega) | (refine decide_eq_false ?_; omega) | (refine decide_eq_true ?_; omega))
        · have k5 : (l.length : Int) / 8 < (c : Int) := by rcases k4 with k4 | k4 <;> omega
          repeat' (first | (apply aw_seq_k; intro K hK) | (refine aw_run hc (by first | exact aw_nod | (intro _; rw [ordB_w hw]; kernel_rfl) | (intro _; rw [ordB_w0 hw0]; kernel_rfl) | (intro _; kernel_rfl)) ?_; simp [List.zipIdx, k1, k2, k3', h0, k5, h11, -getM, getM_hit, getM_miss, getM_none]; (repeat (simp (disch := first | omega | assumption | fail) only [if_pos, if_neg, wrap64]; try simp [List.zipIdx, k1, k2, k3', h0, k5, h11, -getM, getM_hit, getM_miss, getM_none])); try (repeat' (refine guardQ_split (fun h => ?_) (fun h => ?_) <;> simp at h <;> (simp [List.zipIdx, k1, k2, k3', h0, k5, h11, -getM, getM_hit, getM_miss, getM_none]; (repeat (simp (disch := first | omega | assumption | fail) only [if_pos, if_neg, wrap64]; try simp [List.zipIdx, k1, k2, k3', h0, k5, h11, -getM, getM_hit, getM_miss, getM_none])))))) | (refine aw_cond (b := _) (by exact rfl) (fun h => ?_) (fun h => ?_) <;> (try simp at h)) | (refine aw_block ?_) | (refine aw_skip ?_; simp only [thenQ, blockQ, if_true]) | (refine aw_exit ?_; simp [thenQ, blockQ]) | (refine aw_ret ?_; simp only [thenQ, blockQ]) | (refine aw_round ?_) | (refine hK _ ?_; clear hK) | (clear hK; refine hK _ ?_; clear hK) | (clear hK; clear hK; refine hK _ ?_; clear hK) | (clear hK; clear hK; clear hK; refine hK _ ?_; clear hK))
          refine ⟨by simp, ?_⟩
          simp [leaves_iff, Try.f6]
          try (first | omega | (refine decide_eq_decide.2 ?_; omega) | (refine decide_eq_false ?_; omega) | (refine decide_eq_true ?_; omega))
end Go.AM
