/- Rmap: BinarySearchFunc, Clone, Insert, Delete. -/
import Derived.Test.YtallcianhjejiaaRm6
import Derived.Test.YtallcianhjejiaaAmQ
set_option linter.all false

namespace Go.AM
open Go Go.Proofs

/-- How many lie below. -/
def lowM (l : List Mp) (m : Mp) : Nat := l.countP fun x => decide (ltM x m)
theorem lowM_at {l : List Mp} {m : Mp} {i : Nat} (hi : i ≤ l.length) (h1 : ∀ j, j < i → ltM (gm l j) m) (h2 : ∀ j, i ≤ j → j < l.length → ¬ ltM (gm l j) m) : lowM l m = i := by
  unfold lowM
  conv => lhs; rw [← List.take_append_drop i l]
  rw [List.countP_append]
  have e1 : (l.take i).countP (fun x => decide (ltM x m)) = (l.take i).length := by
    rw [List.countP_eq_length]
    intro y hy
    obtain ⟨j, hj, rfl⟩ := List.getElem_of_mem hy
    have hj' : j < i := by simp at hj; omega
    have := h1 j hj'
    rw [gm_eq (by omega)] at this
    simpa using this
  have e2 : (l.drop i).countP (fun x => decide (ltM x m)) = 0 := by
    rw [List.countP_eq_zero]
    intro y hy
    obtain ⟨j, hj, rfl⟩ := List.getElem_of_mem hy
    simp at hj
    have := h2 (i + j) (by omega) (by omega)
    rw [gm_eq (by omega)] at this
    simpa using this
  rw [e1, e2]
  simp; omega

theorem s29 (X : AX) (hX : XOK Try.prog X) (hw : X.W wT)
    (h27 : ∀ a b c d M n, X.call 27 [.agg [I a, I b], .agg [I c, I d]] M n = some (I (cmpM (a, b) (c, d)), [])) :
    PSound Try.prog 29 (specF (ι := {x : List Mp × Mp // x.1.length ≤ 1000000 ∧ chkO x.1}) (fun x => [.rd 2 (prows x.1.1), Mv x.1.2, .fn 27 []]) fun x => retOf [I (lowM x.1.1 x.1.2), B (decide (x.1.2 ∈ x.1.1))]) := by
  refine psound_spec hX mixed Try.func29 rfl fun ⟨⟨l, a, b⟩, hl, hO⟩ w0 G => ⟨by show 3 ≤ 49; decide, rfl, ?_⟩
  show AW ⟨Try.prog, X, 49, w0, .pure G⟩ _ _ _
  have hc : Cx.OK ⟨Try.prog, X, 49, w0, .pure G⟩ := ⟨hX, mixed⟩
  simp only at hl hO ⊢
  unfold Mv
  simp only
  repeat' (first | (apply aw_seq_k; intro K hK) | (refine aw_run hc (by first | exact aw_nod | (intro _; rw [ordB_w hw]; kernel_rfl) | (intro _; rw [ordB_w0 hw0]; kernel_rfl) | (intro _; kernel_rfl)) ?_; simp [List.zipIdx, -getM, getM_hit, getM_miss, getM_none]; (repeat (simp (disch := first | omega | assumption | fail) only [if_pos, if_neg, wrap64]; try simp [List.zipIdx, -getM, getM_hit, getM_miss, getM_none])); try (repeat' (refine guardQ_split (fun h => ?_) (fun h => ?_) <;> simp at h <;> (simp [List.zipIdx, -getM, getM_hit, getM_miss, getM_none]; (repeat (simp (disch := first | omega | assumption | fail) only [if_pos, if_neg, wrap64]; try simp [List.zipIdx, -getM, getM_hit, getM_miss, getM_none])))))) | (refine aw_cond (b := _) (by exact rfl) (fun h => ?_) (fun h => ?_) <;> (try simp at h)) | (refine aw_block ?_) | (refine aw_skip ?_; simp only [thenQ, blockQ, if_true]) | (refine aw_exit ?_; simp [thenQ, blockQ]) | (refine aw_ret ?_; simp only [thenQ, blockQ]) | (refine aw_round ?_) | (refine hK _ ?_; clear hK) | (clear hK; refine hK _ ?_; clear hK) | (clear hK; clear hK; refine hK _ ?_; clear hK) | (clear hK; clear hK; clear hK; refine hK _ ?_; clear hK))
  refine aw_loopK (s0 := ?lps1) (m0 := ?lpm1) (ι := {p : Nat × Nat // p.1 ≤ p.2 ∧ p.2 ≤ l.length ∧ (∀ j, j < p.1 → ltM (gm l j) (a, b)) ∧ (∀ j, p.2 ≤ j → j < l.length → ¬ ltM (gm l j) (a, b))}) [0, 2, 4, 8] (fun i => [(9, I i.1.1), (10, I i.1.2)]) (fun _ => []) (fun i => i.1.2 - i.1.1) ⟨(0, l.length), by simp; omega⟩ ?lhs1 ?lhm1 ?_ ?_
  case lhs1 => first | (simp [keepS]; done) | (simp [keepS]; rfl)
  case lhm1 => first | rfl | (simp; done) | (simp; rfl)
  · exact le_of2 (by simp) (by simp [AVle, AV.under, AV.underL] <;> omega) (by simp [AOle, AO.under, AV.underL, AV.under] <;> omega)
  · rintro ⟨⟨i, j⟩, hij, hj, h1, h2⟩
    simp only at hij hj h1 h2
    simp only
    rcases Decidable.em (i < j) with hlt | hlt
    · have hltI : (i : Int) < (j : Int) := by omega
      obtain ⟨m, hh, him, hmj⟩ : ∃ m : Nat, ((i : Int) + j) / 2 = m ∧ i ≤ m ∧ m < j := ⟨(i + j) / 2, by omega, by omega, by omega⟩
      have hml : m < l.length := by omega
      have hmlI : (m : Int) < (l.length : Int) := by omega
      have hg := prows_gi hml
      have hgE := prows_gE hml
      obtain ⟨⟨x, y⟩, hm⟩ : ∃ m', m' = gm l m := ⟨_, rfl⟩
      rw [← hm] at hg hgE
      simp only at hg hgE
      have hcm := cmpM_neg (a := (x, y)) (b := (a, b))
      obtain ⟨q, hq⟩ : ∃ q, q = cmpM (x, y) (a, b) := ⟨_, rfl⟩
      have h27' := fun M n => h27 x y a b M n
      rw [← hq] at hcm h27'
      rcases Decidable.em (q < 0) with hv | hv
      · repeat' (first | (apply aw_seq_k; intro K hK) | (refine aw_run hc (by first | exact aw_nod | (intro _; rw [ordB_w hw]; kernel_rfl) | (intro _; rw [ordB_w0 hw0]; kernel_rfl) | (intro _; kernel_rfl)) ?_; simp [List.zipIdx, hltI, hg, hgE, hmlI, hh, h27', hv, (show IntKind.u64.bits = 64 from rfl), Int.toNat_natCast, -getM, getM_hit, getM_miss, getM_none]; (repeat (simp (disch := first | omega | assumption | fail) only [if_pos, if_neg, wrap64, wrapU64]; try simp [List.zipIdx, hltI, hg, hgE, hmlI, hh, h27', hv, (show IntKind.u64.bits = 64 from rfl), Int.toNat_natCast, -getM, getM_hit, getM_miss, getM_none])); try (repeat' (refine guardQ_split (fun h => ?_) (fun h => ?_) <;> simp at h <;> (simp [List.zipIdx, hltI, hg, hgE, hmlI, hh, h27', hv, (show IntKind.u64.bits = 64 from rfl), Int.toNat_natCast, -getM, getM_hit, getM_miss, getM_none]; (repeat (simp (disch := first | omega | assumption | fail) only [if_pos, if_neg, wrap64, wrapU64]; try simp [List.zipIdx, hltI, hg, hgE, hmlI, hh, h27', hv, (show IntKind.u64.bits = 64 from rfl), Int.toNat_natCast, -getM, getM_hit, getM_miss, getM_none])))))) | (refine aw_cond (b := _) (by exact rfl) (fun h => ?_) (fun h => ?_) <;> (try simp at h)) | (refine aw_block ?_) | (refine aw_skip ?_; simp only [thenQ, blockQ, if_true]) | (refine aw_exit ?_; simp [thenQ, blockQ]) | (refine aw_ret ?_; simp only [thenQ, blockQ]) | (refine aw_round ?_) | (refine hK _ ?_; clear hK) | (clear hK; refine hK _ ?_; clear hK) | (clear hK; clear hK; refine hK _ ?_; clear hK) | (clear hK; clear hK; clear hK; refine hK _ ?_; clear hK))
        refine ⟨m + 1, j, ?_, ⟨by omega, hj, fun k hk => ?_, h2⟩, by omega⟩
        · exact le_of2 (by simp) (by simp [AVle, AV.under, AV.underL] <;> omega) (by simp [AOle, AO.under, AV.underL, AV.under] <;> omega)
        · have hxm := hcm.1 hv
          rw [hm] at hxm
          rcases Nat.lt_succ_iff_lt_or_eq.1 hk with h | rfl
          · exact ltM_trans (chkO_lt hO h hml) hxm
          · exact hxm
      · repeat' (first | (apply aw_seq_k; intro K hK) | (refine aw_run hc (by first | exact aw_nod | (intro _; rw [ordB_w hw]; kernel_rfl) | (intro _; rw [ordB_w0 hw0]; kernel_rfl) | (intro _; kernel_rfl)) ?_; simp [List.zipIdx, hltI, hg, hgE, hmlI, hh, h27', hv, (show IntKind.u64.bits = 64 from rfl), Int.toNat_natCast, -getM, getM_hit, getM_miss, getM_none]; (repeat (simp (disch := first | omega | assumption | fail) only [if_pos, if_neg, wrap64, wrapU64]; try simp [List.zipIdx, hltI, hg, hgE, hmlI, hh, h27', hv, (show IntKind.u64.bits = 64 from rfl), Int.toNat_natCast, -getM, getM_hit, getM_miss, getM_none])); try (repeat' (refine guardQ_split (fun h => ?_) (fun h => ?_) <;> simp at h <;> (simp [List.zipIdx, hltI, hg, hgE, hmlI, hh, h27', hv, (show IntKind.u64.bits = 64 from rfl), Int.toNat_natCast, -getM, getM_hit, getM_miss, getM_none]; (repeat (simp (disch := first | omega | assumption | fail) only [if_pos, if_neg, wrap64, wrapU64]; try simp [List.zipIdx, hltI, hg, hgE, hmlI, hh, h27', hv, (show IntKind.u64.bits = 64 from rfl), Int.toNat_natCast, -getM, getM_hit, getM_miss, getM_none])))))) | (refine aw_cond (b := _) (by exact rfl) (fun h => ?_) (fun h => ?_) <;> (try simp at h)) | (refine aw_block ?_) | (refine aw_skip ?_; simp only [thenQ, blockQ, if_true]) | (refine aw_exit ?_; simp [thenQ, blockQ]) | (refine aw_ret ?_; simp only [thenQ, blockQ]) | (refine aw_round ?_) | (refine hK _ ?_; clear hK) | (clear hK; refine hK _ ?_; clear hK) | (clear hK; clear hK; refine hK _ ?_; clear hK) | (clear hK; clear hK; clear hK; refine hK _ ?_; clear hK))
        refine ⟨i, m, ?_, ⟨by omega, by omega, h1, fun k hk hk2 h3 => ?_⟩, by omega⟩
        · exact le_of2 (by simp) (by simp [AVle, AV.under, AV.underL] <;> omega) (by simp [AOle, AO.under, AV.underL, AV.under] <;> omega)
        · rcases Nat.lt_or_eq_of_le hk with h | rfl
          · exact hv (hcm.2 (by rw [hm]; exact ltM_trans (chkO_lt hO h hk2) h3))
          · exact hv (hcm.2 (by rw [hm]; exact h3))
    · obtain rfl : i = j := by omega
      have hlw := lowM_at hj h1 h2
      rcases Decidable.em (i < l.length) with hil | hil
      · have hilI : (i : Int) < (l.length : Int) := by omega
        have hg := prows_gi hil
        have hgE := prows_gE hil
        obtain ⟨⟨x, y⟩, hm⟩ : ∃ m', m' = gm l i := ⟨_, rfl⟩
        have hcm := cmpM_zero (a := (x, y)) (b := (a, b))
        have hmem : cmpM (x, y) (a, b) = 0 ↔ (a, b) ∈ l := by
          rw [hcm]
          constructor
          · intro e; rw [← e, hm]; exact gm_mem hil
          · intro e
            obtain ⟨k, hk, e2⟩ := List.getElem_of_mem e
            rw [← gm_eq hk] at e2
            rcases Nat.lt_trichotomy k i with h | h | h
            · exact absurd (h1 k h) (by rw [e2]; exact ltM_irr _)
            · rw [hm, ← h, e2]
            · have := chkO_lt hO h hk
              rw [e2] at this
              exact absurd this (h2 i (Nat.le_refl _) hil)
        rw [← hm] at hg hgE
        simp only at hg hgE
        obtain ⟨q, hq⟩ : ∃ q, q = cmpM (x, y) (a, b) := ⟨_, rfl⟩
        have h27' := fun M n => h27 x y a b M n
        rw [← hq] at h27' hmem
        rcases Decidable.em (q = 0) with hv | hv
        · have hb := hmem.1 hv
          repeat' (first | (apply aw_seq_k; intro K hK) | (refine aw_run hc (by first | exact aw_nod | (intro _; rw [ordB_w hw]; kernel_rfl) | (intro _; rw [ordB_w0 hw0]; kernel_rfl) | (intro _; kernel_rfl)) ?_; simp [List.zipIdx, hilI, hg, hgE, h27', hv, -getM, getM_hit, getM_miss, getM_none]; (repeat (simp (disch := first | omega | assumption | fail) only [if_pos, if_neg, wrap64]; try simp [List.zipIdx, hilI, hg, hgE, h27', hv, -getM, getM_hit, getM_miss, getM_none])); try (repeat' (refine guardQ_split (fun h => ?_) (fun h => ?_) <;> simp at h <;> (simp [List.zipIdx, hilI, hg, hgE, h27', hv, -getM, getM_hit, getM_miss, getM_none]; (repeat (simp (disch := first | omega | assumption | fail) only [if_pos, if_neg, wrap64]; try simp [List.zipIdx, hilI, hg, hgE, h27', hv, -getM, getM_hit, getM_miss, getM_none])))))) | (refine aw_cond (b := _) (by exact rfl) (fun h => ?_) (fun h => ?_) <;> (try simp at h)) | (refine aw_block ?_) | (refine aw_skip ?_; simp only [thenQ, blockQ, if_true]) | (refine aw_exit ?_; simp [thenQ, blockQ]) | (refine aw_ret ?_; simp only [thenQ, blockQ]) | (refine aw_round ?_) | (refine hK _ ?_; clear hK) | (clear hK; refine hK _ ?_; clear hK) | (clear hK; clear hK; refine hK _ ?_; clear hK) | (clear hK; clear hK; clear hK; refine hK _ ?_; clear hK))
          refine ⟨by simp, ?_⟩
          simp [leaves_iff, Try.f29, hb]
          try (first | omega | (refine decide_eq_decide.2 ?_; omega) | (refine decide_eq_false ?_; omega) | (refine decide_eq_true ?_; omega))
        · have hb : ¬ (a, b) ∈ l := fun h => hv (hmem.2 h)
          repeat' (first | (apply aw_seq_k; intro K hK) | (refine aw_run hc (by first | exact aw_nod | (intro _; rw [ordB_w hw]; kernel_rfl) | (intro _; rw [ordB_w0 hw0]; kernel_rfl) | (intro _; kernel_rfl)) ?_; simp [List.zipIdx, hilI, hg, hgE, h27', hv, -getM, getM_hit, getM_miss, getM_none]; (repeat (simp (disch := first | omega | assumption | fail) only [if_pos, if_neg, wrap64]; try simp [List.zipIdx, hilI, hg, hgE, h27', hv, -getM, getM_hit, getM_miss, getM_none])); try (repeat' (refine guardQ_split (fun h => ?_) (fun h => ?_) <;> simp at h <;> (simp [List.zipIdx, hilI, hg, hgE, h27', hv, -getM, getM_hit, getM_miss, getM_none]; (repeat (simp (disch := first | omega | assumption | fail) only [if_pos, if_neg, wrap64]; try simp [List.zipIdx, hilI, hg, hgE, h27', hv, -getM, getM_hit, getM_miss, getM_none])))))) | (refine aw_cond (b := _) (by exact rfl) (fun h => ?_) (fun h => ?_) <;> (try simp at h)) | (refine aw_block ?_) | (refine aw_skip ?_; simp only [thenQ, blockQ, if_true]) | (refine aw_exit ?_; simp [thenQ, blockQ]) | (refine aw_ret ?_; simp only [thenQ, blockQ]) | (refine aw_round ?_) | (refine hK _ ?_; clear hK) | (clear hK; refine hK _ ?_; clear hK) | (clear hK; clear hK; refine hK _ ?_; clear hK) | (clear hK; clear hK; clear hK; refine hK _ ?_; clear hK))
          refine ⟨by simp, ?_⟩
          simp [leaves_iff, Try.f29, hb]
          try (first | omega | (refine decide_eq_decide.2 ?_; omega) | (refine decide_eq_false ?_; omega) | (refine decide_eq_true ?_; omega))
      · have hilI : ¬ (i : Int) < (l.length : Int) := by omega
        have hb : ¬ (a, b) ∈ l := fun e => by
          obtain ⟨k, hk, e2⟩ := List.getElem_of_mem e
          rw [← gm_eq hk] at e2
          exact absurd (h1 k (by omega)) (by rw [e2]; exact ltM_irr _)
        repeat' (first | (apply aw_seq_k; intro K hK) | (refine aw_run hc (by first | exact aw_nod | (intro _; rw [ordB_w hw]; kernel_rfl) | (intro _; rw [ordB_w0 hw0]; kernel_rfl) | (intro _; kernel_rfl)) ?_; simp [List.zipIdx, hilI, -getM, getM_hit, getM_miss, getM_none]; (repeat (simp (disch := first | omega | assumption | fail) only [if_pos, if_neg, wrap64]; try simp [List.zipIdx, hilI, -getM, getM_hit, getM_miss, getM_none])); try (repeat' (refine guardQ_split (fun h => ?_) (fun h => ?_) <;> simp at h <;> (simp [List.zipIdx, hilI, -getM, getM_hit, getM_miss, getM_none]; (repeat (simp (disch := first | omega | assumption | fail) only [if_pos, if_neg, wrap64]; try simp [List.zipIdx, hilI, -getM, getM_hit, getM_miss, getM_none])))))) | (refine aw_cond (b := _) (by exact rfl) (fun h => ?_) (fun h => ?_) <;> (try simp at h)) | (refine aw_block ?_) | (refine aw_skip ?_; simp only [thenQ, blockQ, if_true]) | (refine aw_exit ?_; simp [thenQ, blockQ]) | (refine aw_ret ?_; simp only [thenQ, blockQ]) | (refine aw_round ?_) | (refine hK _ ?_; clear hK) | (clear hK; refine hK _ ?_; clear hK) | (clear hK; clear hK; refine hK _ ?_; clear hK) | (clear hK; clear hK; clear hK; refine hK _ ?_; clear hK))
        refine ⟨by simp, ?_⟩
        simp [leaves_iff, Try.f29, hb]
        try (first | omega | (refine decide_eq_decide.2 ?_; omega) | (refine decide_eq_false ?_; omega) | (refine decide_eq_true ?_; omega))

theorem s31 (X : AX) (hX : XOK Try.prog X) : PSound Try.prog 31 (specF (ι := {x : List Mp // x.length ≤ 1000000}) (fun x => [.rd 2 (prows x.1)]) fun x => retOf [.ow 2 (prows x.1)]) := by
  refine psound_spec hX mixed Try.func31 rfl fun ⟨l, hl⟩ w0 G => ⟨by show 1 ≤ 8; decide, rfl, ?_⟩
  show AW ⟨Try.prog, X, 8, w0, .pure G⟩ _ _ _
  have hc : Cx.OK ⟨Try.prog, X, 8, w0, .pure G⟩ := ⟨hX, mixed⟩
  cases l with
  | nil =>
    refine aw_cases_nil 0 2 rfl ?_ fun p n => ?_
    · repeat' (first | (apply aw_seq_k; intro K hK) | (refine aw_run hc (by first | exact aw_nod | (intro _; rw [ordB_w hw]; kernel_rfl) | (intro _; rw [ordB_w0 hw0]; kernel_rfl) | (intro _; kernel_rfl)) ?_; simp (disch := first | omega | assumption | (simp; done) | fail) [if_pos, if_neg, List.zipIdx]; try (repeat' (refine guardQ_split (fun h => ?_) (fun h => ?_) <;> simp at h <;> simp (disch := first | omega | assumption | (simp; done) | fail) [if_pos, if_neg, List.zipIdx]))) | (refine aw_cond (b := _) (by exact rfl) (fun h => ?_) (fun h => ?_) <;> (try simp at h)) | (refine aw_block ?_) | (refine aw_skip ?_; simp only [thenQ, blockQ, if_true]) | (refine aw_exit ?_; simp [thenQ, blockQ]) | (refine aw_ret ?_; simp only [thenQ, blockQ]) | (refine hK _ ?_; clear hK) | (clear hK; refine hK _ ?_; clear hK) | (clear hK; clear hK; refine hK _ ?_; clear hK) | (clear hK; clear hK; clear hK; refine hK _ ?_; clear hK))
      refine ⟨by simp, ?_⟩
      simp [leaves_iff, Try.f31, prows]
      try (first | omega | (refine decide_eq_decide.2 ?_; omega) | (refine decide_eq_false ?_; omega) | (refine decide_eq_true ?_; omega))
    · repeat' (first | (apply aw_seq_k; intro K hK) | (refine aw_run hc (by first | exact aw_nod | (intro _; rw [ordB_w hw]; kernel_rfl) | (intro _; rw [ordB_w0 hw0]; kernel_rfl) | (intro _; kernel_rfl)) ?_; simp (disch := first | omega | assumption | (simp; done) | fail) [if_pos, if_neg, List.zipIdx]; try (repeat' (refine guardQ_split (fun h => ?_) (fun h => ?_) <;> simp at h <;> simp (disch := first | omega | assumption | (simp; done) | fail) [if_pos, if_neg, List.zipIdx]))) | (refine aw_cond (b := _) (by exact rfl) (fun h => ?_) (fun h => ?_) <;> (try simp at h)) | (refine aw_block ?_) | (refine aw_skip ?_; simp only [thenQ, blockQ, if_true]) | (refine aw_exit ?_; simp [thenQ, blockQ]) | (refine aw_ret ?_; simp only [thenQ, blockQ]) | (refine hK _ ?_; clear hK) | (clear hK; refine hK _ ?_; clear hK) | (clear hK; clear hK; refine hK _ ?_; clear hK) | (clear hK; clear hK; clear hK; refine hK _ ?_; clear hK))
      refine ⟨by simp, ?_⟩
      simp [leaves_iff, Try.f31, prows]
      try (first | omega | (refine decide_eq_decide.2 ?_; omega) | (refine decide_eq_false ?_; omega) | (refine decide_eq_true ?_; omega))
  | cons x r =>
    simp at hl
    repeat' (first | (apply aw_seq_k; intro K hK) | (refine aw_run hc (by first | exact aw_nod | (intro _; rw [ordB_w hw]; kernel_rfl) | (intro _; rw [ordB_w0 hw0]; kernel_rfl) | (intro _; kernel_rfl)) ?_; simp (disch := first | omega | assumption | (simp; done) | fail) [if_pos, if_neg, List.zipIdx, prows]; try (repeat' (refine guardQ_split (fun h => ?_) (fun h => ?_) <;> simp at h <;> simp (disch := first | omega | assumption | (simp; done) | fail) [if_pos, if_neg, List.zipIdx, prows]))) | (refine aw_cond (b := _) (by exact rfl) (fun h => ?_) (fun h => ?_) <;> (try simp at h)) | (refine aw_block ?_) | (refine aw_skip ?_; simp only [thenQ, blockQ, if_true]) | (refine aw_exit ?_; simp [thenQ, blockQ]) | (refine aw_ret ?_; simp only [thenQ, blockQ]) | (refine hK _ ?_; clear hK) | (clear hK; refine hK _ ?_; clear hK) | (clear hK; clear hK; refine hK _ ?_; clear hK) | (clear hK; clear hK; clear hK; refine hK _ ?_; clear hK))
    refine ⟨by simp, ?_⟩
    simp [leaves_iff, Try.f31, prows]
    try (first | omega | (refine decide_eq_decide.2 ?_; omega) | (refine decide_eq_false ?_; omega) | (refine decide_eq_true ?_; omega))
    rw [List.take_of_length_le (by simp)]

theorem x42 : ExtOK Try.prog 42 ovlF :=
  ovl_ok (tR := 4) Try.func42 (by kernel_rfl) (by kernel_rfl) (by kernel_rfl) (by kernel_rfl) ty22 rfl ty24

theorem ins_shift {α : Type} {L P S A : List α} {x : α} {i n : Nat} (hL : L = P ++ S) (hi : P.length = i) (hn : L.length = n) (h1 : 1 ≤ A.length) (hS : i < n) :
    P ++ x :: S = List.take (n + 1) (List.take i (List.take (i + 1) (L ++ A) ++ (List.take (n - i) (List.take (n + 1 - i) (List.drop i (L ++ A))) ++ List.drop (i + 1 + (n - i)) (L ++ A))) ++
      (List.take 1 [x] ++ List.drop (i + 1) (List.take (i + 1) (L ++ A) ++ (List.take (n - i) (List.take (n + 1 - i) (List.drop i (L ++ A))) ++ List.drop (i + 1 + (n - i)) (L ++ A))))) := by
  subst hL hi
  obtain ⟨s, S, rfl⟩ : ∃ s S', S = s :: S' := by cases S with | nil => simp at hn; omega | cons a b => exact ⟨a, b, rfl⟩
  obtain ⟨a, A, rfl⟩ : ∃ s S', A = s :: S' := by cases A with | nil => simp at h1 | cons a b => exact ⟨a, b, rfl⟩
  subst hn
  rw [List.length_append]
  have e1 : List.take (P.length + 1) (P ++ s :: S ++ a :: A) = P ++ [s] := by simp [List.take_append, List.take_of_length_le]
  have e2 : List.drop P.length (P ++ s :: S ++ a :: A) = s :: S ++ a :: A := by simp
  have e3 : P.length + (s :: S).length - P.length = (s :: S).length := by omega
  have e4 : P.length + (s :: S).length + 1 - P.length = (s :: S).length + 1 := by omega
  have e5 : List.take (s :: S).length (List.take ((s :: S).length + 1) (s :: S ++ a :: A)) = s :: S := by rw [List.take_take, Nat.min_eq_left (by omega)]; simp
  have e6 : List.drop (P.length + 1 + (s :: S).length) (P ++ s :: S ++ a :: A) = A := by
    rw [show P.length + 1 + (s :: S).length = (P ++ s :: S).length + 1 by simp; omega, ← List.drop_drop, List.drop_left]; simp
  rw [e1, e2, e3, e4, e5, e6]
  have e7 : List.take P.length (P ++ [s] ++ (s :: S ++ A)) = P := by simp
  have e8 : List.drop (P.length + 1) (P ++ [s] ++ (s :: S ++ A)) = s :: S ++ A := by
    rw [show P.length + 1 = (P ++ [s]).length by simp, List.drop_left]
  rw [e7, e8]
  have e9 : P ++ ([x].take 1 ++ (s :: S ++ A)) = (P ++ x :: s :: S) ++ A := by simp
  rw [e9, show P.length + (s :: S).length + 1 = (P ++ x :: s :: S).length by simp; omega, List.take_left]

theorem ins_grow {α : Type} {L P S Z D : List α} {x : α} {i n : Nat} (hL : L = P ++ S) (hi : P.length = i) (hn : L.length = n) :
    P ++ x :: S = List.take (n + 1) (List.take (i + 1) (List.take i (List.take i (L ++ []) ++ Z) ++ (List.take 1 [x] ++ List.drop (i + 1) (List.take i (L ++ []) ++ Z))) ++ (List.take (n - i) (List.take (n - i) (List.drop i (L ++ []))) ++ D)) := by
  subst hL hi hn
  rw [List.length_append]
  have e0 : List.take P.length (P ++ S ++ []) = P := by simp
  have e1 : List.take P.length (P ++ Z) = P := by simp
  have e2 : List.take (P.length + 1) (P ++ (List.take 1 [x] ++ List.drop (P.length + 1) (P ++ Z))) = P ++ [x] := by simp [List.take_append, List.take_of_length_le]
  have e4 : List.take (P.length + S.length - P.length) (List.take (P.length + S.length - P.length) (List.drop P.length (P ++ S ++ []))) = S := by
    rw [show P.length + S.length - P.length = S.length by omega]; simp
  rw [e0, e1, e2, e4]
  have e3 : P ++ [x] ++ (S ++ D) = (P ++ x :: S) ++ D := by simp
  rw [e3, show P.length + S.length + 1 = (P ++ x :: S).length by simp; omega, List.take_left]

theorem s30 (X : AX) (hX : XOK Try.prog X) (h42 : X.call 42 = ovlF) : MSound Try.prog 30 (specM (ι := {x : List Mp × Nat × Mp // x.2.1 ≤ x.1.length ∧ x.1.length ≤ 1000000}) (fun x => .ow 2 (prows x.1.1)) (fun x => [I x.1.2.1, .rd 2 (prows [x.1.2.2])]) (fun x => retOf [.ow 2 (prows (x.1.1.take x.1.2.1 ++ x.1.2.2 :: x.1.1.drop x.1.2.1))]) fun _ => .any) := by
  refine msound_cap_spec Try.func30 rfl X fun ⟨⟨l, i, x⟩, hi, hl⟩ w0 bl E m => ⟨by show 3 ≤ 95; decide, rfl, ?_⟩
  simp only at hi hl
  show AW ⟨Try.prog, X, 95, w0, ⟨bl, E, 1⟩⟩ _ _ _
  have hc : Cx.OK ⟨Try.prog, X, 95, w0, ⟨bl, E, 1⟩⟩ := ⟨hX, mixed⟩
  have hm : m = 0 ∨ 1 ≤ m := by omega
  have hP : prows l = prows (l.take i) ++ prows (l.drop i) := by rw [prows_append, List.take_append_drop]
  have hR : prows (l.take i ++ x :: l.drop i) = prows (l.take i) ++ [I x.1, I x.2] :: prows (l.drop i) := by simp [prows]
  have hPl : (prows (l.take i)).length = i := by simp; omega
  rcases hm with rfl | hm
  · repeat' (first | (apply aw_seq_k; intro K hK) | (refine aw_run hc (by first | exact aw_nod | (intro _; rw [ordB_w hw]; kernel_rfl) | (intro _; rw [ordB_w0 hw0]; kernel_rfl) | (intro _; kernel_rfl)) ?_; simp (disch := first | omega | assumption | (simp; done) | fail) [if_pos, if_neg, List.zipIdx, Int.ofNat_inj, h42, ovlF, wrap64]; try (repeat' (refine guardQ_split (fun h => ?_) (fun h => ?_) <;> simp at h <;> simp (disch := first | omega | assumption | (simp; done) | fail) [if_pos, if_neg, List.zipIdx, Int.ofNat_inj, h42, ovlF, wrap64]))) | (refine aw_cond (b := _) (by exact rfl) (fun h => ?_) (fun h => ?_) <;> (try simp at h)) | (refine aw_block ?_) | (refine aw_skip ?_; simp only [thenQ, blockQ, if_true]) | (refine aw_exit ?_; simp [thenQ, blockQ]) | (refine aw_ret ?_; simp only [thenQ, blockQ]) | (refine hK _ ?_; clear hK) | (clear hK; refine hK _ ?_; clear hK) | (clear hK; clear hK; refine hK _ ?_; clear hK) | (clear hK; clear hK; clear hK; refine hK _ ?_; clear hK))
    all_goals first | (exfalso; omega) | skip
    all_goals (refine ⟨by simp, leavesM_any ?_⟩; simp (disch := first | omega | assumption | (simp; done) | fail) [if_pos, if_neg, leaves_iff, Try.f30])
    · subst h
      rw [prows_append]
      simp [List.take_of_length_le]
    · rw [hR]
      exact ins_grow hP hPl (prows_length l)
  · repeat' (first | (apply aw_seq_k; intro K hK) | (refine aw_run hc (by first | exact aw_nod | (intro _; rw [ordB_w hw]; kernel_rfl) | (intro _; rw [ordB_w0 hw0]; kernel_rfl) | (intro _; kernel_rfl)) ?_; simp (disch := first | omega | assumption | (simp; done) | fail) [if_pos, if_neg, List.zipIdx, Int.ofNat_inj, h42, ovlF, wrap64]; try (repeat' (refine guardQ_split (fun h => ?_) (fun h => ?_) <;> simp at h <;> simp (disch := first | omega | assumption | (simp; done) | fail) [if_pos, if_neg, List.zipIdx, Int.ofNat_inj, h42, ovlF, wrap64]))) | (refine aw_cond (b := _) (by exact rfl) (fun h => ?_) (fun h => ?_) <;> (try simp at h)) | (refine aw_block ?_) | (refine aw_skip ?_; simp only [thenQ, blockQ, if_true]) | (refine aw_exit ?_; simp [thenQ, blockQ]) | (refine aw_ret ?_; simp only [thenQ, blockQ]) | (refine hK _ ?_; clear hK) | (clear hK; refine hK _ ?_; clear hK) | (clear hK; clear hK; refine hK _ ?_; clear hK) | (clear hK; clear hK; clear hK; refine hK _ ?_; clear hK))
    all_goals first | (exfalso; omega) | skip
    all_goals (refine ⟨by simp, leavesM_any ?_⟩; simp (disch := first | omega | assumption | (simp; done) | fail) [if_pos, if_neg, leaves_iff, Try.f30])
    · subst h
      rw [← List.append_assoc, prows_append, List.take_append_of_le_length (by simp), List.take_of_length_le (by simp)]
      simp [List.take_of_length_le]
    · rw [hR]
      exact ins_shift hP hPl (prows_length l) (by simpa using hm) (by omega)
end Go.AM
