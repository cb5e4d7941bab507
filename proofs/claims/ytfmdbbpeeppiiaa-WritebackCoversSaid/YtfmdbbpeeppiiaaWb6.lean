/- Writeback: Has, Runs, Expired, Written of the reference. -/
import Derived.Test.YtfmdbbpeeppiiaaWb5
set_option linter.all false

namespace Go.AM
open Go Go.Proofs

theorem hasP_at {l : List Tp} {f i : Int} {k : Nat} (hk : k < l.length) (h : (gd l k).1 = f ∧ (gd l k).2.1 = i) : hasP l f i = true := by
  unfold hasP
  simp only [decide_eq_true_eq, List.mem_map]
  exact ⟨gd l k, gd_mem hk, by simp [plc, h.1, h.2]⟩
theorem hasP_not {l : List Tp} {f i : Int} (h : ∀ k, k < l.length → ¬ ((gd l k).1 = f ∧ (gd l k).2.1 = i)) : hasP l f i = false := by
  unfold hasP
  simp only [decide_eq_false_iff_not, List.mem_map]
  rintro ⟨p, hp, e⟩
  obtain ⟨k, hk, rfl⟩ := List.getElem_of_mem hp
  refine h k hk ?_
  rw [gd_eq hk]
  simpa [plc] using e

theorem s45 (X : AX) (hX : XOK Try.prog X) : PSound Try.prog 45 (specF (ι := {x : List Tp × Int × Int // x.1.length ≤ 1000000}) (fun x => [.rd 3 (drows x.1.1), I x.1.2.1, I x.1.2.2]) fun x => retOf [B (hasP x.1.1 x.1.2.1 x.1.2.2)]) := by
  refine psound_spec hX mixed Try.func45 rfl fun ⟨⟨l, a, b⟩, hl⟩ w0 G => ⟨by show 3 ≤ 26; decide, rfl, ?_⟩
  show AW ⟨Try.prog, X, 26, w0, .pure G⟩ _ _ _
  have hc : Cx.OK ⟨Try.prog, X, 26, w0, .pure G⟩ := ⟨hX, mixed⟩
  simp only at hl ⊢
  repeat' (first | (apply aw_seq_k; intro K hK) | (refine aw_run hc (by first | exact aw_nod | (intro _; rw [ordB_w hw]; kernel_rfl) | (intro _; rw [ordB_w0 hw0]; kernel_rfl) | (intro _; kernel_rfl)) ?_; simp [List.zipIdx, -getM, getM_hit, getM_miss, getM_none]; (repeat (simp (disch := first | omega | assumption | fail) only [if_pos, if_neg, wrap64]; try simp [List.zipIdx, -getM, getM_hit, getM_miss, getM_none])); try (repeat' (refine guardQ_split (fun h => ?_) (fun h => ?_) <;> simp at h <;> (simp [List.zipIdx, -getM, getM_hit, getM_miss, getM_none]; (repeat (simp (disch := first | omega | assumption | fail) only [if_pos, if_neg, wrap64]; try simp [List.zipIdx, -getM, getM_hit, getM_miss, getM_none])))))) | (refine aw_cond (b := _) (by exact rfl) (fun h => ?_) (fun h => ?_) <;> (try simp at h)) | (refine aw_block ?_) | (refine aw_skip ?_; simp only [thenQ, blockQ, if_true]) | (refine aw_exit ?_; simp [thenQ, blockQ]) | (refine aw_ret ?_; simp only [thenQ, blockQ]) | (refine aw_round ?_) | (refine hK _ ?_; clear hK) | (clear hK; refine hK _ ?_; clear hK) | (clear hK; clear hK; refine hK _ ?_; clear hK) | (clear hK; clear hK; clear hK; refine hK _ ?_; clear hK))
  refine aw_loopK (s0 := ?lps1) (m0 := ?lpm1) (ι := {i : Nat // i ≤ l.length ∧ ∀ j, j < i → ¬ ((gd l j).1 = a ∧ (gd l j).2.1 = b)}) [1, 2, 9, 10] (fun i => [(11, I i.1)]) (fun _ => []) (fun i => l.length - i.1) ⟨0, by omega, by omega⟩ ?lhs1 ?lhm1 ?_ ?_
  case lhs1 => first | (simp [keepS]; done) | (simp [keepS]; rfl)
  case lhm1 => first | rfl | (simp; done) | (simp; rfl)
  · exact le_of2 (by simp) (by simp [AVle, AV.under, AV.underL] <;> omega) (by simp [AOle, AO.under, AV.underL, AV.under] <;> omega)
  · rintro ⟨i, hi, hinv⟩
    simp only
    rcases Decidable.em (i < l.length) with hil | hil
    · have hilI : (i : Int) < (l.length : Int) := by omega
      have hg := drows_gi hil
      have hgE := drows_gE hil
      have hat := hasP_at (f := a) (i := b) hil
      have hnx : ∀ (h : ¬ ((gd l i).1 = a ∧ (gd l i).2.1 = b)), ∀ j, j < i + 1 → ¬ ((gd l j).1 = a ∧ (gd l j).2.1 = b) := fun h j hj => by
        rcases Nat.lt_succ_iff_lt_or_eq.1 hj with h2 | rfl
        · exact hinv j h2
        · exact h
      obtain ⟨⟨x, y, z⟩, hm⟩ : ∃ m, m = gd l i := ⟨_, rfl⟩
      rw [← hm] at hg hgE hat hnx
      simp only at hg hgE hat hnx
      rcases Decidable.em (x = a) with h1 | h1
      · rcases Decidable.em (y = b) with h2 | h2
        · have e := hat ⟨h1, h2⟩
          subst h1 h2
          repeat' (first | (apply aw_seq_k; intro K hK) | (refine aw_run hc (by first | exact aw_nod | (intro _; rw [ordB_w hw]; kernel_rfl) | (intro _; rw [ordB_w0 hw0]; kernel_rfl) | (intro _; kernel_rfl)) ?_; simp [List.zipIdx, hilI, hg, hgE, -getM, getM_hit, getM_miss, getM_none]; (repeat (simp (disch := first | omega | assumption | fail) only [if_pos, if_neg, wrap64]; try simp [List.zipIdx, hilI, hg, hgE, -getM, getM_hit, getM_miss, getM_none])); try (repeat' (refine guardQ_split (fun h => ?_) (fun h => ?_) <;> simp at h <;> (simp [List.zipIdx, hilI, hg, hgE, -getM, getM_hit, getM_miss, getM_none]; (repeat (simp (disch := first | omega | assumption | fail) only [if_pos, if_neg, wrap64]; try simp [List.zipIdx, hilI, hg, hgE, -getM, getM_hit, getM_miss, getM_none])))))) | (refine aw_cond (b := _) (by exact rfl) (fun h => ?_) (fun h => ?_) <;> (try simp at h)) | (refine aw_block ?_) | (refine aw_skip ?_; simp only [thenQ, blockQ, if_true]) | (refine aw_exit ?_; simp [thenQ, blockQ]) | (refine aw_ret ?_; simp only [thenQ, blockQ]) | (refine aw_round ?_) | (refine hK _ ?_; clear hK) | (clear hK; refine hK _ ?_; clear hK) | (clear hK; clear hK; refine hK _ ?_; clear hK) | (clear hK; clear hK; clear hK; refine hK _ ?_; clear hK))
          refine ⟨by simp, ?_⟩
          simp [leaves_iff, Try.f45, e]
          try (first | omega | (refine decide_eq_decide.2 ?_; omega) | (refine decide_eq_false ?_; omega) | (refine decide_eq_true ?_; omega))
        · repeat' (first | (apply aw_seq_k; intro K hK) | (refine aw_run hc (by first | exact aw_nod | (intro _; rw [ordB_w hw]; kernel_rfl) | (intro _; rw [ordB_w0 hw0]; kernel_rfl) | (intro _; kernel_rfl)) ?_; simp [List.zipIdx, hilI, hg, hgE, h1, h2, -getM, getM_hit, getM_miss, getM_none]; (repeat (simp (disch := first | omega | assumption | fail) only [if_pos, if_neg, wrap64]; try simp [List.zipIdx, hilI, hg, hgE, h1, h2, -getM, getM_hit, getM_miss, getM_none])); try (repeat' (refine guardQ_split (fun h => ?_) (fun h => ?_) <;> simp at h <;> (simp [List.zipIdx, hilI, hg, hgE, h1, h2, -getM, getM_hit, getM_miss, getM_none]; (repeat (simp (disch := first | omega | assumption | fail) only [if_pos, if_neg, wrap64]; try simp [List.zipIdx, hilI, hg, hgE, h1, h2, -getM, getM_hit, getM_miss, getM_none])))))) | (refine aw_cond (b := _) (by exact rfl) (fun h => ?_) (fun h => ?_) <;> (try simp at h)) | (refine aw_block ?_) | (refine aw_skip ?_; simp only [thenQ, blockQ, if_true]) | (refine aw_exit ?_; simp [thenQ, blockQ]) | (refine aw_ret ?_; simp only [thenQ, blockQ]) | (refine aw_round ?_) | (refine hK _ ?_; clear hK) | (clear hK; refine hK _ ?_; clear hK) | (clear hK; clear hK; refine hK _ ?_; clear hK) | (clear hK; clear hK; clear hK; refine hK _ ?_; clear hK))
          refine ⟨i + 1, ?_, ⟨by omega, by simpa using hnx fun h => h2 h.2⟩, by omega⟩
          exact le_of2 (by simp) (by simp [AVle, AV.under, AV.underL] <;> omega) (by simp [AOle, AO.under, AV.underL, AV.under] <;> omega)
      · repeat' (first | (apply aw_seq_k; intro K hK) | (refine aw_run hc (by first | exact aw_nod | (intro _; rw [ordB_w hw]; kernel_rfl) | (intro _; rw [ordB_w0 hw0]; kernel_rfl) | (intro _; kernel_rfl)) ?_; simp [List.zipIdx, hilI, hg, hgE, h1, -getM, getM_hit, getM_miss, getM_none]; (repeat (simp (disch := first | omega | assumption | fail) only [if_pos, if_neg, wrap64]; try simp [List.zipIdx, hilI, hg, hgE, h1, -getM, getM_hit, getM_miss, getM_none])); try (repeat' (refine guardQ_split (fun h => ?_) (fun h => ?_) <;> simp at h <;> (simp [List.zipIdx, hilI, hg, hgE, h1, -getM, getM_hit, getM_miss, getM_none]; (repeat (simp (disch := first | omega | assumption | fail) only [if_pos, if_neg, wrap64]; try simp [List.zipIdx, hilI, hg, hgE, h1, -getM, getM_hit, getM_miss, getM_none])))))) | (refine aw_cond (b := _) (by exact rfl) (fun h => ?_) (fun h => ?_) <;> (try simp at h)) | (refine aw_block ?_) | (refine aw_skip ?_; simp only [thenQ, blockQ, if_true]) | (refine aw_exit ?_; simp [thenQ, blockQ]) | (refine aw_ret ?_; simp only [thenQ, blockQ]) | (refine aw_round ?_) | (refine hK _ ?_; clear hK) | (clear hK; refine hK _ ?_; clear hK) | (clear hK; clear hK; refine hK _ ?_; clear hK) | (clear hK; clear hK; clear hK; refine hK _ ?_; clear hK))
        refine ⟨i + 1, ?_, ⟨by omega, by simpa using hnx fun h => h1 h.1⟩, by omega⟩
        exact le_of2 (by simp) (by simp [AVle, AV.under, AV.underL] <;> omega) (by simp [AOle, AO.under, AV.underL, AV.under] <;> omega)
    · obtain rfl : i = l.length := by omega
      have e := hasP_not hinv
      repeat' (first | (apply aw_seq_k; intro K hK) | (refine aw_run hc (by first | exact aw_nod | (intro _; rw [ordB_w hw]; kernel_rfl) | (intro _; rw [ordB_w0 hw0]; kernel_rfl) | (intro _; kernel_rfl)) ?_; simp [List.zipIdx, -getM, getM_hit, getM_miss, getM_none]; (repeat (simp (disch := first | omega | assumption | fail) only [if_pos, if_neg, wrap64]; try simp [List.zipIdx, -getM, getM_hit, getM_miss, getM_none])); try (repeat' (refine guardQ_split (fun h => ?_) (fun h => ?_) <;> simp at h <;> (simp [List.zipIdx, -getM, getM_hit, getM_miss, getM_none]; (repeat (simp (disch := first | omega | assumption | fail) only [if_pos, if_neg, wrap64]; try simp [List.zipIdx, -getM, getM_hit, getM_miss, getM_none])))))) | (refine aw_cond (b := _) (by exact rfl) (fun h => ?_) (fun h => ?_) <;> (try simp at h)) | (refine aw_block ?_) | (refine aw_skip ?_; simp only [thenQ, blockQ, if_true]) | (refine aw_exit ?_; simp [thenQ, blockQ]) | (refine aw_ret ?_; simp only [thenQ, blockQ]) | (refine aw_round ?_) | (refine hK _ ?_; clear hK) | (clear hK; refine hK _ ?_; clear hK) | (clear hK; clear hK; refine hK _ ?_; clear hK) | (clear hK; clear hK; clear hK; refine hK _ ?_; clear hK))
      refine ⟨by simp, ?_⟩
      simp [leaves_iff, Try.f45, e]
      try (first | omega | (refine decide_eq_decide.2 ?_; omega) | (refine decide_eq_false ?_; omega) | (refine decide_eq_true ?_; omega))
def i9 : Int := 9223372036854775807
noncomputable def F45 : List AV → Option AV := specF (ι := {x : List Tp × Int × Int // x.1.length ≤ 1000000}) (fun x => [.rd 3 (drows x.1.1), I x.1.2.1, I x.1.2.2]) fun x => retOf [B (hasP x.1.1 x.1.2.1 x.1.2.2)]
theorem F45_at (l : List Tp) (a b : Int) (h : l.length ≤ 1000000) : F45 [.rd 3 (drows l), I a, I b] = some (B (hasP l a b)) :=
  specF_eq (ι := {x : List Tp × Int × Int // x.1.length ≤ 1000000}) (A := fun x => [.rd 3 (drows x.1.1), I x.1.2.1, I x.1.2.2]) (R := fun x => retOf [B (hasP x.1.1 x.1.2.1 x.1.2.2)]) ⟨(l, a, b), h⟩ (by
    rintro ⟨⟨k, c, d⟩, h⟩ e
    simp [drows_inj, I] at e
    obtain ⟨rfl, rfl, rfl⟩ := e; rfl)

theorem scan_len (P : Nat → Bool) (m : Int) : ∀ (k i : Nat), 16 - i ≤ k → (scan P m i).length ≤ 16 - i := by
  intro k
  induction k with
  | zero => intro i h; rw [scan_end (by omega)]; simp
  | succ k ih =>
    intro i h
    by_cases h16 : 16 ≤ i
    · rw [scan_end h16]; simp
    · by_cases h0 : rl P m i = 0
      · rw [scan_skip h16 h0]; have := ih (i + 1) (by omega); omega
      · rw [scan_run h16 h0]
        have := ih (i + rl P m i) (by omega)
        have h1 := (rl_spec P m i).1
        simp only [List.length_cons]
        omega
theorem runF_len (Q : Nat → Nat → Bool) (m : Int) : ∀ n, (runF Q m n).length ≤ 16 * n
  | 0 => by simp [runF]
  | n + 1 => by
    rw [runF_succ, List.length_append]
    have h1 := runF_len Q m n
    have h2 := scan_len (Q n) m 16 0 (by omega)
    unfold fil
    rw [List.length_map]
    omega

set_option maxHeartbeats 1000000 in
theorem s22 (X : AX) (hX : XOK Try.prog X) (hw : X.W wT) (h15 : ∀ l : List Tp, l.length ≤ 9223372036854775807 → ∀ M n, X.call 15 [.rd 3 (drows l)] M n = some (I (chkD l), []))
    (h45 : ∀ (l : List Tp) (a b : Int), l.length ≤ 1000000 → ∀ M n, X.call 45 [.rd 3 (drows l), I a, I b] M n = some (B (hasP l a b), [])) :
    PSound Try.prog 22 (specF (ι := {x : List Tp × Int // x.1.length ≤ 9223372036854775807}) (fun x => [.rd 3 (drows x.1.1), I x.1.2]) fun x => retOf [.ow 3 (drows (runR x.1.1 x.1.2).1), I (runR x.1.1 x.1.2).2]) := by
  refine psound_spec hX mixed Try.func22 rfl fun ⟨⟨l, m⟩, hl⟩ w0 G => ⟨by show 2 ≤ 58; decide, rfl, ?_⟩
  show AW ⟨Try.prog, X, 58, w0, .pure G⟩ _ _ _
  have hc : Cx.OK ⟨Try.prog, X, 58, w0, .pure G⟩ := ⟨hX, mixed⟩
  simp only at hl ⊢
  have h15' := h15 l hl
  obtain ⟨c, hcc⟩ : ∃ c, c = chkD l := ⟨_, rfl⟩
  rw [← hcc] at h15'
  rcases Decidable.em (c = 0) with h0 | h0
  · have hz : chkD l = 0 := hcc.symm.trans h0
    have hlen := chk_len hz
    rcases Decidable.em (m < 1) with hm | hm
    · rw [runR_m hz hm]
      repeat' (first | (apply aw_seq_k; intro K hK) | (refine aw_run hc (by first | exact aw_nod | (intro _; rw [ordB_w hw]; kernel_rfl) | (intro _; rw [ordB_w0 hw0]; kernel_rfl) | (intro _; kernel_rfl)) ?_; simp [List.zipIdx, h15', h0, hm, -getM, getM_hit, getM_miss, getM_none]; (repeat (simp (disch := first | omega | assumption | fail) only [if_pos, if_neg, wrap64]; try simp [List.zipIdx, h15', h0, hm, -getM, getM_hit, getM_miss, getM_none])); try (repeat' (refine guardQ_split (fun h => ?_) (fun h => ?_) <;> simp at h <;> (simp [List.zipIdx, h15', h0, hm, -getM, getM_hit, getM_miss, getM_none]; (repeat (simp (disch := first | omega | assumption | fail) only [if_pos, if_neg, wrap64]; try simp [List.zipIdx, h15', h0, hm, -getM, getM_hit, getM_miss, getM_none])))))) | (refine aw_cond (b := _) (by exact rfl) (fun h => ?_) (fun h => ?_) <;> (try simp at h)) | (refine aw_block ?_) | (refine aw_skip ?_; simp only [thenQ, blockQ, if_true]) | (refine aw_exit ?_; simp [thenQ, blockQ]) | (refine aw_ret ?_; simp only [thenQ, blockQ]) | (refine aw_round ?_) | (refine hK _ ?_; clear hK) | (clear hK; refine hK _ ?_; clear hK) | (clear hK; clear hK; refine hK _ ?_; clear hK) | (clear hK; clear hK; clear hK; refine hK _ ?_; clear hK))
      refine ⟨by simp, ?_⟩
      simp [leaves_iff, Try.f22, drows_nil]
      try (first | omega | (refine decide_eq_decide.2 ?_; omega) | (refine decide_eq_false ?_; omega) | (refine decide_eq_true ?_; omega))
    · rw [runR_z hz hm]
      obtain ⟨Q, hQ⟩ : ∃ Q, Q = hasN l := ⟨_, rfl⟩
      have hQ' : ∀ f i : Nat, ∀ M n, X.call 45 [.rd 3 (drows l), I f, I i] M n = some (B (Q f i), []) := fun f i M n => by rw [h45 l f i (by omega), hQ]; rfl
      rw [← hQ]
      repeat' (first | (apply aw_seq_k; intro K hK) | (refine aw_run hc (by first | exact aw_nod | (intro _; rw [ordB_w hw]; kernel_rfl) | (intro _; rw [ordB_w0 hw0]; kernel_rfl) | (intro _; kernel_rfl)) ?_; simp [List.zipIdx, h15', h0, hm, -getM, getM_hit, getM_miss, getM_none]; (repeat (simp (disch := first | omega | assumption | fail) only [if_pos, if_neg, wrap64]; try simp [List.zipIdx, h15', h0, hm, -getM, getM_hit, getM_miss, getM_none])); try (repeat' (refine guardQ_split (fun h => ?_) (fun h => ?_) <;> simp at h <;> (simp [List.zipIdx, h15', h0, hm, -getM, getM_hit, getM_miss, getM_none]; (repeat (simp (disch := first | omega | assumption | fail) only [if_pos, if_neg, wrap64]; try simp [List.zipIdx, h15', h0, hm, -getM, getM_hit, getM_miss, getM_none])))))) | (refine aw_cond (b := _) (by exact rfl) (fun h => ?_) (fun h => ?_) <;> (try simp at h)) | (refine aw_block ?_) | (refine aw_skip ?_; simp only [thenQ, blockQ, if_true]) | (refine aw_exit ?_; simp [thenQ, blockQ]) | (refine aw_ret ?_; simp only [thenQ, blockQ]) | (refine aw_round ?_) | (refine hK _ ?_; clear hK) | (clear hK; refine hK _ ?_; clear hK) | (clear hK; clear hK; refine hK _ ?_; clear hK) | (clear hK; clear hK; clear hK; refine hK _ ?_; clear hK))
      refine aw_weaken (le_nilslot (t := 7) (sz := 3) (by simp)) ?_
      refine aw_loopK (s0 := ?lps2) (m0 := ?lpm2) (ι := {f : Nat // f ≤ 4}) [0, 1] (fun f => [(8, I f.1), (7, .sl 176 1 3 0 (runF Q m f.1).length)]) (fun f => [(176, .vec 1 3 false (drows (runF Q m f.1)))]) (fun f => 4 - f.1) ⟨0, by omega⟩ ?lhs2 ?lhm2 ?_ ?_
      case lhs2 => first | (simp [keepS]; done) | (simp [keepS]; rfl)
      case lhm2 => first | rfl | (simp; done) | (simp; rfl)
      · simp only [runF, List.range_zero, List.flatMap_nil, drows_nil, List.length_nil]
        exact le_of2 (by simp) (by simp [AVle, AV.under, AV.underL] <;> omega) (by simp [AOle, AO.under, AV.underL, AV.under] <;> omega)
      · rintro ⟨f, hf⟩
        simp only
        rcases Decidable.em (f < 4) with hf4 | hf4
        · have hf4I : (f : Int) < 4 := by omega
          have hln := runF_len Q m f
          have hsc := runF_succ Q m f
          obtain ⟨A, hA⟩ : ∃ A, A = runF Q m f := ⟨_, rfl⟩
          rw [← hA] at hln hsc ⊢
          repeat' (first | (apply aw_seq_k; intro K hK) | (refine aw_run hc (by first | exact aw_nod | (intro _; rw [ordB_w hw]; kernel_rfl) | (intro _; rw [ordB_w0 hw0]; kernel_rfl) | (intro _; kernel_rfl)) ?_; simp [List.zipIdx, hf4I, -getM, getM_hit, getM_miss, getM_none]; (repeat (simp (disch := first | omega | assumption | fail) only [if_pos, if_neg, wrap64]; try simp [List.zipIdx, hf4I, -getM, getM_hit, getM_miss, getM_none])); try (repeat' (refine guardQ_split (fun h => ?_) (fun h => ?_) <;> simp at h <;> (simp [List.zipIdx, hf4I, -getM, getM_hit, getM_miss, getM_none]; (repeat (simp (disch := first | omega | assumption | fail) only [if_pos, if_neg, wrap64]; try simp [List.zipIdx, hf4I, -getM, getM_hit, getM_miss, getM_none])))))) | (refine aw_cond (b := _) (by exact rfl) (fun h => ?_) (fun h => ?_) <;> (try simp at h)) | (refine aw_block ?_) | (refine aw_skip ?_; simp only [thenQ, blockQ, if_true]) | (refine aw_exit ?_; simp [thenQ, blockQ]) | (refine aw_ret ?_; simp only [thenQ, blockQ]) | (refine aw_round ?_) | (refine hK _ ?_; clear hK) | (clear hK; refine hK _ ?_; clear hK) | (clear hK; clear hK; refine hK _ ?_; clear hK) | (clear hK; clear hK; clear hK; refine hK _ ?_; clear hK))
          refine aw_loopK (s0 := ?lps3) (m0 := ?lpm3) (ι := {x : Nat × List Tp // x.1 ≤ 16 ∧ x.2 ++ fil f (scan (Q f) m x.1) = runF Q m (f + 1) ∧ x.2.length ≤ 16 * f + x.1}) [0, 1, 8] (fun x => [(9, I x.1.1), (7, .sl 176 1 3 0 x.1.2.length)]) (fun x => [(176, .vec 1 3 false (drows x.1.2))]) (fun x => 16 - x.1.1) ⟨(0, A), by omega, by rw [hsc], by simpa using hln⟩ ?lhs3 ?lhm3 ?_ ?_
          case lhs3 => first | (simp [keepS]; done) | (simp [keepS]; rfl)
          case lhm3 => first | rfl | (simp; done) | (simp; rfl)
          · exact le_of2 (by simp) (by simp [AVle, AV.under, AV.underL] <;> omega) (by simp [AOle, AO.under, AV.underL, AV.under] <;> omega)
          · rintro ⟨⟨i, R⟩, hi, hR, hRl⟩
            simp only at hi hR hRl ⊢
            rcases Decidable.em (i < 16) with hi16 | hi16
            · have hi16I : (i : Int) < 16 := by omega
              repeat' (first | (apply aw_seq_k; intro K hK) | (refine aw_run hc (by first | exact aw_nod | (intro _; rw [ordB_w hw]; kernel_rfl) | (intro _; rw [ordB_w0 hw0]; kernel_rfl) | (intro _; kernel_rfl)) ?_; simp [List.zipIdx, hi16I, -getM, getM_hit, getM_miss, getM_none]; (repeat (simp (disch := first | omega | assumption | fail) only [if_pos, if_neg, wrap64]; try simp [List.zipIdx, hi16I, -getM, getM_hit, getM_miss, getM_none])); try (repeat' (refine guardQ_split (fun h => ?_) (fun h => ?_) <;> simp at h <;> (simp [List.zipIdx, hi16I, -getM, getM_hit, getM_miss, getM_none]; (repeat (simp (disch := first | omega | assumption | fail) only [if_pos, if_neg, wrap64]; try simp [List.zipIdx, hi16I, -getM, getM_hit, getM_miss, getM_none])))))) | (refine aw_cond (b := _) (by exact rfl) (fun h => ?_) (fun h => ?_) <;> (try simp at h)) | (refine aw_block ?_) | (refine aw_skip ?_; simp only [thenQ, blockQ, if_true]) | (refine aw_exit ?_; simp [thenQ, blockQ]) | (refine aw_ret ?_; simp only [thenQ, blockQ]) | (refine aw_round ?_) | (refine hK _ ?_; clear hK) | (clear hK; refine hK _ ?_; clear hK) | (clear hK; clear hK; refine hK _ ?_; clear hK) | (clear hK; clear hK; clear hK; refine hK _ ?_; clear hK))
              refine aw_loopK (s0 := ?lps4) (m0 := ?lpm4) (ι := {n : Nat // n ≤ 16 - i ∧ ∀ j, j < n → (j : Int) < m ∧ Q f (i + j) = true}) [0, 1, 7, 8, 9] (fun n => [(10, I n.1)]) (fun _ => []) (fun n => 16 - i - n.1) ⟨0, by omega, by omega⟩ ?lhs4 ?lhm4 ?_ ?_
              case lhs4 => first | (simp [keepS]; done) | (simp [keepS]; rfl)
              case lhm4 => first | rfl | (simp; done) | (simp; rfl)
              · exact le_of2 (by simp) (by simp [AVle, AV.under, AV.underL] <;> omega) (by simp [AOle, AO.under, AV.underL, AV.under] <;> omega)
              · rintro ⟨n, hn, hinv⟩
                simp only
                have hex : (n < 16 - i → ¬ ((n : Int) < m ∧ Q f (i + n) = true)) → rl (Q f) m i = n := fun h => rl_at hn hinv h
                have hfin : rl (Q f) m i = n → (n = 0 → R ++ fil f (scan (Q f) m (i + 1)) = runF Q m (f + 1)) ∧ (n ≠ 0 → (R ++ [((f : Int), (i : Int), (n : Int))]) ++ fil f (scan (Q f) m (i + n)) = runF Q m (f + 1)) := fun e => by
                  refine ⟨fun h0 => ?_, fun h0 => ?_⟩
                  · rw [← hR, scan_skip (i := i) (by omega) (e.trans h0)]
                  · rw [← hR, scan_run (i := i) (by omega) (by omega), e]
                    simp [fil]
                have hRlI : R.length ≤ 1000000 := by omega
                rcases Decidable.em ((n : Int) < m) with hnm | hnm
                · rcases Decidable.em (i + n < 16) with hin | hin
                  · have hinI : (i : Int) + (n : Int) < 16 := by omega
                    have hcall := fun M k => hQ' f (i + n) M k
                    have e1 : ((i + n : Nat) : Int) = (i : Int) + (n : Int) := by omega
                    rw [e1] at hcall
                    cases hb : Q f (i + n) with
                    | true =>
                      rw [hb] at hcall
                      repeat' (first | (apply aw_seq_k; intro K hK) | (refine aw_run hc (by first | exact aw_nod | (intro _; rw [ordB_w hw]; kernel_rfl) | (intro _; rw [ordB_w0 hw0]; kernel_rfl) | (intro _; kernel_rfl)) ?_; simp [List.zipIdx, hnm, hinI, hcall, -getM, getM_hit, getM_miss, getM_none]; (repeat (simp (disch := first | omega | assumption | fail) only [if_pos, if_neg, wrap64]; try simp [List.zipIdx, hnm, hinI, hcall, -getM, getM_hit, getM_miss, getM_none])); try (repeat' (refine guardQ_split (fun h => ?_) (fun h => ?_) <;> simp at h <;> (simp [List.zipIdx, hnm, hinI, hcall, -getM, getM_hit, getM_miss, getM_none]; (repeat (simp (disch := first | omega | assumption | fail) only [if_pos, if_neg, wrap64]; try simp [List.zipIdx, hnm, hinI, hcall, -getM, getM_hit, getM_miss, getM_none])))))) | (refine aw_cond (b := _) (by exact rfl) (fun h => ?_) (fun h => ?_) <;> (try simp at h)) | (refine aw_block ?_) | (refine aw_skip ?_; simp only [thenQ, blockQ, if_true]) | (refine aw_exit ?_; simp [thenQ, blockQ]) | (refine aw_ret ?_; simp only [thenQ, blockQ]) | (refine aw_round ?_) | (refine hK _ ?_; clear hK) | (clear hK; refine hK _ ?_; clear hK) | (clear hK; clear hK; refine hK _ ?_; clear hK) | (clear hK; clear hK; clear hK; refine hK _ ?_; clear hK))
                      refine ⟨n + 1, ?_, ⟨by omega, fun j hj => ?_⟩, by omega⟩
                      · exact le_of2 (by simp) (by simp [AVle, AV.under, AV.underL] <;> omega) (by simp [AOle, AO.under, AV.underL, AV.under] <;> omega)
                      · rcases Nat.lt_succ_iff_lt_or_eq.1 hj with h2 | rfl
                        · exact hinv j h2
                        · exact ⟨hnm, hb⟩
                    | false =>
                      rw [hb] at hcall
                      obtain ⟨f1, f2⟩ := hfin (hex fun _ h => by rw [hb] at h; simp at h)
                      rcases Decidable.em (n = 0) with hn0 | hn0
                      · have hn0I : (n : Int) = 0 := by omega
                        have hinZ : (i : Int) < 16 := by omega
                        have hnmZ : 0 < m := by omega
                        have hcallZ := hcall
                        simp only [hn0I, Int.add_zero] at hcallZ
                        repeat' (first | (apply aw_seq_k; intro K hK) | (refine aw_run hc (by first | exact aw_nod | (intro _; rw [ordB_w hw]; kernel_rfl) | (intro _; rw [ordB_w0 hw0]; kernel_rfl) | (intro _; kernel_rfl)) ?_; simp [List.zipIdx, hnmZ, hinZ, hcallZ, hn0I, hn0, -getM, getM_hit, getM_miss, getM_none]; (repeat (simp (disch := first | omega | assumption | fail) only [if_pos, if_neg, wrap64]; try simp [List.zipIdx, hnmZ, hinZ, hcallZ, hn0I, hn0, -getM, getM_hit, getM_miss, getM_none])); try (repeat' (refine guardQ_split (fun h => ?_) (fun h => ?_) <;> simp at h <;> (simp [List.zipIdx, hnmZ, hinZ, hcallZ, hn0I, hn0, -getM, getM_hit, getM_miss, getM_none]; (repeat (simp (disch := first | omega | assumption | fail) only [if_pos, if_neg, wrap64]; try simp [List.zipIdx, hnmZ, hinZ, hcallZ, hn0I, hn0, -getM, getM_hit, getM_miss, getM_none])))))) | (refine aw_cond (b := _) (by exact rfl) (fun h => ?_) (fun h => ?_) <;> (try simp at h)) | (refine aw_block ?_) | (refine aw_skip ?_; simp only [thenQ, blockQ, if_true]) | (refine aw_exit ?_; simp [thenQ, blockQ]) | (refine aw_ret ?_; simp only [thenQ, blockQ]) | (refine aw_round ?_) | (refine hK _ ?_; clear hK) | (clear hK; refine hK _ ?_; clear hK) | (clear hK; clear hK; refine hK _ ?_; clear hK) | (clear hK; clear hK; clear hK; refine hK _ ?_; clear hK))
                        refine ⟨i + 1, R, ?_, ⟨by first | omega | (simp only; omega) | (simp; omega), f1 hn0, by first | omega | (simp only; omega) | (simp; omega)⟩, by first | omega | (simp only; omega) | (simp; omega)⟩
                        refine le_turn (s1 := ?tus5) (m1 := ?tum5) [] [0, 1, 8, 7, 9] [176] ?tua5 ?tub5 ?tuc5 ?tud5 ?tue5 ?tuf5 ?tug5
                        case tua5 => first | (simp [keepS]; done) | (simp [keepS]; rfl)
                        case tub5 => first | (simp; done) | (simp; rfl)
                        case tuc5 => simp
                        case tud5 => simp
                        case tue5 => simp
                        case tuf5 => simp
                        case tug5 =>
                          simp [swp, vr]
                          exact le_of2 (by simp) (by simp [AVle, AV.under, AV.underL] <;> omega) (by simp [AOle, AO.under, AV.underL, AV.under] <;> omega)
                      · have hn0I : ¬ (n : Int) = 0 := by omega
                        repeat' (first | (apply aw_seq_k; intro K hK) | (refine aw_run hc (by first | exact aw_nod | (intro _; rw [ordB_w hw]; kernel_rfl) | (intro _; rw [ordB_w0 hw0]; kernel_rfl) | (intro _; kernel_rfl)) ?_; simp [List.zipIdx, hnm, hinI, hcall, hn0, hn0I, dap, hRlI, tkD, -getM, getM_hit, getM_miss, getM_none]; (repeat (simp (disch := first | omega | assumption | fail) only [if_pos, if_neg, wrap64]; try simp [List.zipIdx, hnm, hinI, hcall, hn0, hn0I, dap, hRlI, tkD, -getM, getM_hit, getM_miss, getM_none])); try (repeat' (refine guardQ_split (fun h => ?_) (fun h => ?_) <;> simp at h <;> (simp [List.zipIdx, hnm, hinI, hcall, hn0, hn0I, dap, hRlI, tkD, -getM, getM_hit, getM_miss, getM_none]; (repeat (simp (disch := first | omega | assumption | fail) only [if_pos, if_neg, wrap64]; try simp [List.zipIdx, hnm, hinI, hcall, hn0, hn0I, dap, hRlI, tkD, -getM, getM_hit, getM_miss, getM_none])))))) | (refine aw_cond (b := _) (by exact rfl) (fun h => ?_) (fun h => ?_) <;> (try simp at h)) | (refine aw_block ?_) | (refine aw_skip ?_; simp only [thenQ, blockQ, if_true]) | (refine aw_exit ?_; simp [thenQ, blockQ]) | (refine aw_ret ?_; simp only [thenQ, blockQ]) | (refine aw_round ?_) | (refine hK _ ?_; clear hK) | (clear hK; refine hK _ ?_; clear hK) | (clear hK; clear hK; refine hK _ ?_; clear hK) | (clear hK; clear hK; clear hK; refine hK _ ?_; clear hK))
                        refine ⟨i + n, R ++ [((f : Int), (i : Int), (n : Int))], ?_, ⟨by first | omega | (simp only; omega) | (simp; omega), f2 hn0, by simp; omega⟩, by first | omega | (simp only; omega) | (simp; omega)⟩
                        simp only [List.length_append, List.length_cons, List.length_nil, Nat.zero_add]
                        refine le_turn (s1 := ?tus6) (m1 := ?tum6) [] [0, 1, 8, 7, 9] [176] ?tua6 ?tub6 ?tuc6 ?tud6 ?tue6 ?tuf6 ?tug6
                        case tua6 => first | (simp [keepS]; done) | (simp [keepS]; rfl)
                        case tub6 => first | (simp; done) | (simp; rfl)
                        case tuc6 => simp
                        case tud6 => simp
                        case tue6 => simp
                        case tuf6 => simp
                        case tug6 =>
                          simp [swp, vr]
                          exact le_of2 (by simp) (by simp [AVle, AV.under, AV.underL] <;> omega) (by simp [AOle, AO.under, AV.underL, AV.under] <;> omega)
                  · have hinI : ¬ (i : Int) + (n : Int) < 16 := by omega
                    obtain ⟨f1, f2⟩ := hfin (hex fun h => by omega)
                    have hn0 : n ≠ 0 := by omega
                    have hn0I : ¬ (n : Int) = 0 := by omega
                    repeat' (first | (apply aw_seq_k; intro K hK) | (refine aw_run hc (by first | exact aw_nod | (intro _; rw [ordB_w hw]; kernel_rfl) | (intro _; rw [ordB_w0 hw0]; kernel_rfl) | (intro _; kernel_rfl)) ?_; simp [List.zipIdx, hnm, hinI, hn0, hn0I, dap, hRlI, tkD, -getM, getM_hit, getM_miss, getM_none]; (repeat (simp (disch := first | omega | assumption | fail) only [if_pos, if_neg, wrap64]; try simp [List.zipIdx, hnm, hinI, hn0, hn0I, dap, hRlI, tkD, -getM, getM_hit, getM_miss, getM_none])); try (repeat' (refine guardQ_split (fun h => ?_) (fun h => ?_) <;> simp at h <;> (simp [List.zipIdx, hnm, hinI, hn0, hn0I, dap, hRlI, tkD, -getM, getM_hit, getM_miss, getM_none]; (repeat (simp (disch := first | omega | assumption | fail) only [if_pos, if_neg, wrap64]; try simp [List.zipIdx, hnm, hinI, hn0, hn0I, dap, hRlI, tkD, -getM, getM_hit, getM_miss, getM_none])))))) | (refine aw_cond (b := _) (by exact rfl) (fun h => ?_) (fun h => ?_) <;> (try simp at h)) | (refine aw_block ?_) | (refine aw_skip ?_; simp only [thenQ, blockQ, if_true]) | (refine aw_exit ?_; simp [thenQ, blockQ]) | (refine aw_ret ?_; simp only [thenQ, blockQ]) | (refine aw_round ?_) | (refine hK _ ?_; clear hK) | (clear hK; refine hK _ ?_; clear hK) | (clear hK; clear hK; refine hK _ ?_; clear hK) | (clear hK; clear hK; clear hK; refine hK _ ?_; clear hK))
                    refine ⟨i + n, R ++ [((f : Int), (i : Int), (n : Int))], ?_, ⟨by first | omega | (simp only; omega) | (simp; omega), f2 hn0, by simp; omega⟩, by first | omega | (simp only; omega) | (simp; omega)⟩
                    simp only [List.length_append, List.length_cons, List.length_nil, Nat.zero_add]
                    refine le_turn (s1 := ?tus7) (m1 := ?tum7) [] [0, 1, 8, 7, 9] [176] ?tua7 ?tub7 ?tuc7 ?tud7 ?tue7 ?tuf7 ?tug7
                    case tua7 => first | (simp [keepS]; done) | (simp [keepS]; rfl)
                    case tub7 => first | (simp; done) | (simp; rfl)
                    case tuc7 => simp
                    case tud7 => simp
                    case tue7 => simp
                    case tuf7 => simp
                    case tug7 =>
                      simp [swp, vr]
                      exact le_of2 (by simp) (by simp [AVle, AV.under, AV.underL] <;> omega) (by simp [AOle, AO.under, AV.underL, AV.under] <;> omega)
                · obtain ⟨f1, f2⟩ := hfin (hex fun _ h => hnm h.1)
                  have hn0 : n ≠ 0 := by omega
                  have hn0I : ¬ (n : Int) = 0 := by omega
                  repeat' (first | (apply aw_seq_k; intro K hK) | (refine aw_run hc (by first | exact aw_nod | (intro _; rw [ordB_w hw]; kernel_rfl) | (intro _; rw [ordB_w0 hw0]; kernel_rfl) | (intro _; kernel_rfl)) ?_; simp [List.zipIdx, hnm, hn0, hn0I, dap, hRlI, tkD, -getM, getM_hit, getM_miss, getM_none]; (repeat (simp (disch := first | omega | assumption | fail) only [if_pos, if_neg, wrap64]; try simp [List.zipIdx, hnm, hn0, hn0I, dap, hRlI, tkD, -getM, getM_hit, getM_miss, getM_none])); try (repeat' (refine guardQ_split (fun h => ?_) (fun h => ?_) <;> simp at h <;> (simp [List.zipIdx, hnm, hn0, hn0I, dap, hRlI, tkD, -getM, getM_hit, getM_miss, getM_none]; (repeat (simp (disch := first | omega | assumption | fail) only [if_pos, if_neg, wrap64]; try simp [List.zipIdx, hnm, hn0, hn0I, dap, hRlI, tkD, -getM, getM_hit, getM_miss, getM_none])))))) | (refine aw_cond (b := _) (by exact rfl) (fun h => ?_) (fun h => ?_) <;> (try simp at h)) | (refine aw_block ?_) | (refine aw_skip ?_; simp only [thenQ, blockQ, if_true]) | (refine aw_exit ?_; simp [thenQ, blockQ]) | (refine aw_ret ?_; simp only [thenQ, blockQ]) | (refine aw_round ?_) | (refine hK _ ?_; clear hK) | (clear hK; refine hK _ ?_; clear hK) | (clear hK; clear hK; refine hK _ ?_; clear hK) | (clear hK; clear hK; clear hK; refine hK _ ?_; clear hK))
                  refine ⟨i + n, R ++ [((f : Int), (i : Int), (n : Int))], ?_, ⟨by first | omega | (simp only; omega) | (simp; omega), f2 hn0, by simp; omega⟩, by first | omega | (simp only; omega) | (simp; omega)⟩
                  simp only [List.length_append, List.length_cons, List.length_nil, Nat.zero_add]
                  refine le_turn (s1 := ?tus8) (m1 := ?tum8) [] [0, 1, 8, 7, 9] [176] ?tua8 ?tub8 ?tuc8 ?tud8 ?tue8 ?tuf8 ?tug8
                  case tua8 => first | (simp [keepS]; done) | (simp [keepS]; rfl)
                  case tub8 => first | (simp; done) | (simp; rfl)
                  case tuc8 => simp
                  case tud8 => simp
                  case tue8 => simp
                  case tuf8 => simp
                  case tug8 =>
                    simp [swp, vr]
                    exact le_of2 (by simp) (by simp [AVle, AV.under, AV.underL] <;> omega) (by simp [AOle, AO.under, AV.underL, AV.under] <;> omega)
            · obtain rfl : i = 16 := by omega
              rw [scan_end (Nat.le_refl _)] at hR
              simp only [fil, List.map_nil, List.append_nil] at hR
              repeat' (first | (apply aw_seq_k; intro K hK) | (refine aw_run hc (by first | exact aw_nod | (intro _; rw [ordB_w hw]; kernel_rfl) | (intro _; rw [ordB_w0 hw0]; kernel_rfl) | (intro _; kernel_rfl)) ?_; simp [List.zipIdx, -getM, getM_hit, getM_miss, getM_none]; (repeat (simp (disch := first | omega | assumption | fail) only [if_pos, if_neg, wrap64]; try simp [List.zipIdx, -getM, getM_hit, getM_miss, getM_none])); try (repeat' (refine guardQ_split (fun h => ?_) (fun h => ?_) <;> simp at h <;> (simp [List.zipIdx, -getM, getM_hit, getM_miss, getM_none]; (repeat (simp (disch := first | omega | assumption | fail) only [if_pos, if_neg, wrap64]; try simp [List.zipIdx, -getM, getM_hit, getM_miss, getM_none])))))) | (refine aw_cond (b := _) (by exact rfl) (fun h => ?_) (fun h => ?_) <;> (try simp at h)) | (refine aw_block ?_) | (refine aw_skip ?_; simp only [thenQ, blockQ, if_true]) | (refine aw_exit ?_; simp [thenQ, blockQ]) | (refine aw_ret ?_; simp only [thenQ, blockQ]) | (refine aw_round ?_) | (refine hK _ ?_; clear hK) | (clear hK; refine hK _ ?_; clear hK) | (clear hK; clear hK; refine hK _ ?_; clear hK) | (clear hK; clear hK; clear hK; refine hK _ ?_; clear hK))
              refine ⟨f + 1, ?_, by omega, by omega⟩
              simp only [← hR]
              refine le_turn (s1 := ?tus9) (m1 := ?tum9) [] [0, 1, 7, 8] [176] ?tua9 ?tub9 ?tuc9 ?tud9 ?tue9 ?tuf9 ?tug9
              case tua9 => first | (simp [keepS]; done) | (simp [keepS]; rfl)
              case tub9 => first | (simp; done) | (simp; rfl)
              case tuc9 => simp
              case tud9 => simp
              case tue9 => simp
              case tuf9 => simp
              case tug9 =>
                simp [swp, vr]
                exact le_of2 (by simp) (by simp [AVle, AV.under, AV.underL] <;> omega) (by simp [AOle, AO.under, AV.underL, AV.under] <;> omega)
        · obtain rfl : f = 4 := by omega
          have hln := runF_len Q m 4
          obtain ⟨A, hA⟩ : ∃ A, A = runF Q m 4 := ⟨_, rfl⟩
          rw [← hA] at hln ⊢
          repeat' (first | (apply aw_seq_k; intro K hK) | (refine aw_run hc (by first | exact aw_nod | (intro _; rw [ordB_w hw]; kernel_rfl) | (intro _; rw [ordB_w0 hw0]; kernel_rfl) | (intro _; kernel_rfl)) ?_; simp [List.zipIdx, tkD, -getM, getM_hit, getM_miss, getM_none]; (repeat (simp (disch := first | omega | assumption | fail) only [if_pos, if_neg, wrap64]; try simp [List.zipIdx, tkD, -getM, getM_hit, getM_miss, getM_none])); try (repeat' (refine guardQ_split (fun h => ?_) (fun h => ?_) <;> simp at h <;> (simp [List.zipIdx, tkD, -getM, getM_hit, getM_miss, getM_none]; (repeat (simp (disch := first | omega | assumption | fail) only [if_pos, if_neg, wrap64]; try simp [List.zipIdx, tkD, -getM, getM_hit, getM_miss, getM_none])))))) | (refine aw_cond (b := _) (by exact rfl) (fun h => ?_) (fun h => ?_) <;> (try simp at h)) | (refine aw_block ?_) | (refine aw_skip ?_; simp only [thenQ, blockQ, if_true]) | (refine aw_exit ?_; simp [thenQ, blockQ]) | (refine aw_ret ?_; simp only [thenQ, blockQ]) | (refine aw_round ?_) | (refine hK _ ?_; clear hK) | (clear hK; refine hK _ ?_; clear hK) | (clear hK; clear hK; refine hK _ ?_; clear hK) | (clear hK; clear hK; clear hK; refine hK _ ?_; clear hK))
          refine ⟨by simp, ?_⟩
          simp [leaves_iff, Try.f22]
          try (first | omega | (refine decide_eq_decide.2 ?_; omega) | (refine decide_eq_false ?_; omega) | (refine decide_eq_true ?_; omega))
          rw [hA]
  · rw [runR_n (by rw [← hcc]; exact h0), ← hcc]
    repeat' (first | (apply aw_seq_k; intro K hK) | (refine aw_run hc (by first | exact aw_nod | (intro _; rw [ordB_w hw]; kernel_rfl) | (intro _; rw [ordB_w0 hw0]; kernel_rfl) | (intro _; kernel_rfl)) ?_; simp [List.zipIdx, h15', h0, -getM, getM_hit, getM_miss, getM_none]; (repeat (simp (disch := first | omega | assumption | fail) only [if_pos, if_neg, wrap64]; try simp [List.zipIdx, h15', h0, -getM, getM_hit, getM_miss, getM_none])); try (repeat' (refine guardQ_split (fun h => ?_) (fun h => ?_) <;> simp at h <;> (simp [List.zipIdx, h15', h0, -getM, getM_hit, getM_miss, getM_none]; (repeat (simp (disch := first | omega | assumption | fail) only [if_pos, if_neg, wrap64]; try simp [List.zipIdx, h15', h0, -getM, getM_hit, getM_miss, getM_none])))))) | (refine aw_cond (b := _) (by exact rfl) (fun h => ?_) (fun h => ?_) <;> (try simp at h)) | (refine aw_block ?_) | (refine aw_skip ?_; simp only [thenQ, blockQ, if_true]) | (refine aw_exit ?_; simp [thenQ, blockQ]) | (refine aw_ret ?_; simp only [thenQ, blockQ]) | (refine aw_round ?_) | (refine hK _ ?_; clear hK) | (clear hK; refine hK _ ?_; clear hK) | (clear hK; clear hK; refine hK _ ?_; clear hK) | (clear hK; clear hK; clear hK; refine hK _ ?_; clear hK))
    refine ⟨by simp, ?_⟩
    simp [leaves_iff, Try.f22, drows_nil]
    try (first | omega | (refine decide_eq_decide.2 ?_; omega) | (refine decide_eq_false ?_; omega) | (refine decide_eq_true ?_; omega))
end Go.AM
