/- Rmap: the reference's Add, Remove, Copy. -/
import Derived.Test.YtallcianhjejiaaRm4
set_option linter.all false

namespace Go.AM
open Go Go.Proofs

/-- What Add gives. -/
noncomputable def addR (l : List Mp) (m : Mp) : List Mp × Int :=
  if chk l = 0 then (if valM m then (if m ∈ l then ([], 7) else (insR l m, 0)) else ([], 2)) else ([], chk l)
/-- What Remove gives. -/
def delM (l : List Mp) (m : Mp) : List Mp := l.filter fun x => !decide (x = m)
theorem delM_snoc (l : List Mp) (m x : Mp) : delM (l ++ [x]) m = if x = m then delM l m else delM l m ++ [x] := by
  unfold delM
  rw [List.filter_append]
  by_cases h : x = m <;> simp [h]
theorem delM_len (l : List Mp) (m : Mp) : (delM l m).length ≤ l.length := List.length_filter_le _ _
noncomputable def remR (l : List Mp) (m : Mp) : List Mp × Int :=
  if chk l = 0 then (if m ∈ l then (delM l m, 0) else ([], 6)) else ([], chk l)

structure RefX (X : AX) : Prop where
  ok : XOK Try.prog X
  w : X.W wT
  eq : X.eqs 24 = true
  h9 : ∀ l : List Mp, l.length ≤ 1000000 → ∀ M n, X.call 9 [.rd 2 (prows l)] M n = some (I (chk l), [])
  h22 : ∀ a b M n, X.call 22 [.agg [I a, I b]] M n = some (B (decide (valM (a, b))), [])

noncomputable def F9 : List AV → Option AV := specF (ι := {l : List Mp // l.length ≤ 1000000}) (fun x => [.rd 2 (prows x.1)]) fun x => retOf [I (chk x.1)]
noncomputable def F12 : List AV → Option AV := specF (ι := {x : List Mp × Mp // x.1.length ≤ 1000000}) (fun x => [.rd 2 (prows x.1.1), Mv x.1.2]) fun x => retOf [B (decide (chk x.1.1 = 0 ∧ x.1.2 ∈ x.1.1))]
noncomputable def F36 : List AV → Option AV := specF (ι := {x : List Mp × Mp // x.1.length ≤ 1000000}) (fun x => [.rd 2 (prows x.1.1), Mv x.1.2]) fun x => retOf [.ow 2 (prows (insR x.1.1 x.1.2))]
theorem F12_at (l : List Mp) (a b : Int) (h : l.length ≤ 1000000) : F12 [.rd 2 (prows l), .agg [I a, I b]] = some (B (decide (chk l = 0 ∧ (a, b) ∈ l))) :=
  specF_eq (ι := {x : List Mp × Mp // x.1.length ≤ 1000000}) (A := fun x => [.rd 2 (prows x.1.1), Mv x.1.2]) (R := fun x => retOf [B (decide (chk x.1.1 = 0 ∧ x.1.2 ∈ x.1.1))]) ⟨(l, (a, b)), h⟩ (by
    rintro ⟨⟨k, c⟩, h⟩ e
    simp [prows_inj, Mv_inj] at e
    obtain ⟨rfl, rfl⟩ := e; rfl)
theorem F36_at (l : List Mp) (a b : Int) (h : l.length ≤ 1000000) : F36 [.rd 2 (prows l), .agg [I a, I b]] = some (.ow 2 (prows (insR l (a, b)))) :=
  specF_eq (ι := {x : List Mp × Mp // x.1.length ≤ 1000000}) (A := fun x => [.rd 2 (prows x.1.1), Mv x.1.2]) (R := fun x => retOf [.ow 2 (prows (insR x.1.1 x.1.2))]) ⟨(l, (a, b)), h⟩ (by
    rintro ⟨⟨k, c⟩, h⟩ e
    simp [prows_inj, Mv_inj] at e
    obtain ⟨rfl, rfl⟩ := e; rfl)

theorem s19 (X : AX) (L : RefX X) (h12 : X.call 12 = callP F12) (h36 : X.call 36 = callP F36) :
    PSound Try.prog 19 (specF (ι := {x : List Mp × Mp // x.1.length ≤ 1000000}) (fun x => [.rd 2 (prows x.1.1), Mv x.1.2]) fun x => retOf [.ow 2 (prows (addR x.1.1 x.1.2).1), I (addR x.1.1 x.1.2).2]) := by
  have hX := L.ok
  have hw := L.w
  refine psound_spec hX mixed Try.func19 rfl fun ⟨⟨l, a, b⟩, hl⟩ w0 G => ⟨by show 2 ≤ 21; decide, rfl, ?_⟩
  show AW ⟨Try.prog, X, 21, w0, .pure G⟩ _ _ _
  have hc : Cx.OK ⟨Try.prog, X, 21, w0, .pure G⟩ := ⟨hX, mixed⟩
  simp only at hl ⊢
  unfold Mv addR
  simp only
  have h9' := L.h9 l hl
  have hF := F12_at l a b hl
  have hG := F36_at l a b hl
  obtain ⟨c, hcc⟩ : ∃ c, c = chk l := ⟨_, rfl⟩
  rw [← hcc] at h9' hF ⊢
  rcases Decidable.em (c = 0) with h0 | h0
  · rw [if_pos h0]
    rcases Decidable.em (valM (a, b)) with hv | hv
    · rw [if_pos hv]
      rcases Decidable.em ((a, b) ∈ l) with hm | hm
      · rw [if_pos hm]
        repeat' (first | (apply aw_seq_k; intro K hK) | (refine aw_run hc (by first | exact aw_nod | (intro _; rw [ordB_w hw]; kernel_rfl) | (intro _; rw [ordB_w0 hw0]; kernel_rfl) | (intro _; kernel_rfl)) ?_; simp [List.zipIdx, h9', L.h22, h12, hF, h0, hv, hm, -getM, getM_hit, getM_miss, getM_none]; (repeat (simp (disch := first | omega | assumption | fail) only [if_pos, if_neg, wrap64]; try simp [List.zipIdx, h9', L.h22, h12, hF, h0, hv, hm, -getM, getM_hit, getM_miss, getM_none])); try (repeat' (refine guardQ_split (fun h => ?_) (fun h => ?_) <;> simp at h <;> (simp [List.zipIdx, h9', L.h22, h12, hF, h0, hv, hm, -getM, getM_hit, getM_miss, getM_none]; (repeat (simp (disch := first | omega | assumption | fail) only [if_pos, if_neg, wrap64]; try simp [List.zipIdx, h9', L.h22, h12, hF, h0, hv, hm, -getM, getM_hit, getM_miss, getM_none])))))) | (refine aw_cond (b := _) (by exact rfl) (fun h => ?_) (fun h => ?_) <;> (try simp at h)) | (refine aw_block ?_) | (refine aw_skip ?_; simp only [thenQ, blockQ, if_true]) | (refine aw_exit ?_; simp [thenQ, blockQ]) | (refine aw_ret ?_; simp only [thenQ, blockQ]) | (refine aw_round ?_) | (refine hK _ ?_; clear hK) | (clear hK; refine hK _ ?_; clear hK) | (clear hK; clear hK; refine hK _ ?_; clear hK) | (clear hK; clear hK; clear hK; refine hK _ ?_; clear hK))
        refine ⟨by simp, ?_⟩
        simp [leaves_iff, Try.f19, prows_nil]
        try (first | omega | (refine decide_eq_decide.2 ?_; omega) | (refine decide_eq_false ?_; omega) | (refine decide_eq_true ?_; omega))
      · rw [if_neg hm]
        repeat' (first | (apply aw_seq_k; intro K hK) | (refine aw_run hc (by first | exact aw_nod | (intro _; rw [ordB_w hw]; kernel_rfl) | (intro _; rw [ordB_w0 hw0]; kernel_rfl) | (intro _; kernel_rfl)) ?_; simp [List.zipIdx, h9', L.h22, h12, h36, hF, hG, h0, hv, hm, tkM, -getM, getM_hit, getM_miss, getM_none]; (repeat (simp (disch := first | omega | assumption | fail) only [if_pos, if_neg, wrap64]; try simp [List.zipIdx, h9', L.h22, h12, h36, hF, hG, h0, hv, hm, tkM, -getM, getM_hit, getM_miss, getM_none])); try (repeat' (refine guardQ_split (fun h => ?_) (fun h => ?_) <;> simp at h <;> (simp [List.zipIdx, h9', L.h22, h12, h36, hF, hG, h0, hv, hm, tkM, -getM, getM_hit, getM_miss, getM_none]; (repeat (simp (disch := first | omega | assumption | fail) only [if_pos, if_neg, wrap64]; try simp [List.zipIdx, h9', L.h22, h12, h36, hF, hG, h0, hv, hm, tkM, -getM, getM_hit, getM_miss, getM_none])))))) | (refine aw_cond (b := _) (by exact rfl) (fun h => ?_) (fun h => ?_) <;> (try simp at h)) | (refine aw_block ?_) | (refine aw_skip ?_; simp only [thenQ, blockQ, if_true]) | (refine aw_exit ?_; simp [thenQ, blockQ]) | (refine aw_ret ?_; simp only [thenQ, blockQ]) | (refine aw_round ?_) | (refine hK _ ?_; clear hK) | (clear hK; refine hK _ ?_; clear hK) | (clear hK; clear hK; refine hK _ ?_; clear hK) | (clear hK; clear hK; clear hK; refine hK _ ?_; clear hK))
        refine ⟨by simp, ?_⟩
        simp [leaves_iff, Try.f19]
        try (first | omega | (refine decide_eq_decide.2 ?_; omega) | (refine decide_eq_false ?_; omega) | (refine decide_eq_true ?_; omega))
    · rw [if_neg hv]
      repeat' (first | (apply aw_seq_k; intro K hK) | (refine aw_run hc (by first | exact aw_nod | (intro _; rw [ordB_w hw]; kernel_rfl) | (intro _; rw [ordB_w0 hw0]; kernel_rfl) | (intro _; kernel_rfl)) ?_; simp [List.zipIdx, h9', L.h22, h0, hv, -getM, getM_hit, getM_miss, getM_none]; (repeat (simp (disch := first | omega | assumption | fail) only [if_pos, if_neg, wrap64]; try simp [List.zipIdx, h9', L.h22, h0, hv, -getM, getM_hit, getM_miss, getM_none])); try (repeat' (refine guardQ_split (fun h => ?_) (fun h => ?_) <;> simp at h <;> (simp [List.zipIdx, h9', L.h22, h0, hv, -getM, getM_hit, getM_miss, getM_none]; (repeat (simp (disch := first | omega | assumption | fail) only [if_pos, if_neg, wrap64]; try simp [List.zipIdx, h9', L.h22, h0, hv, -getM, getM_hit, getM_miss, getM_none])))))) | (refine aw_cond (b := _) (by exact rfl) (fun h => ?_) (fun h => ?_) <;> (try simp at h)) | (refine aw_block ?_) | (refine aw_skip ?_; simp only [thenQ, blockQ, if_true]) | (refine aw_exit ?_; simp [thenQ, blockQ]) | (refine aw_ret ?_; simp only [thenQ, blockQ]) | (refine aw_round ?_) | (refine hK _ ?_; clear hK) | (clear hK; refine hK _ ?_; clear hK) | (clear hK; clear hK; refine hK _ ?_; clear hK) | (clear hK; clear hK; clear hK; refine hK _ ?_; clear hK))
      refine ⟨by simp, ?_⟩
      simp [leaves_iff, Try.f19, prows_nil]
      try (first | omega | (refine decide_eq_decide.2 ?_; omega) | (refine decide_eq_false ?_; omega) | (refine decide_eq_true ?_; omega))
  · rw [if_neg h0]
    repeat' (first | (apply aw_seq_k; intro K hK) | (refine aw_run hc (by first | exact aw_nod | (intro _; rw [ordB_w hw]; kernel_rfl) | (intro _; rw [ordB_w0 hw0]; kernel_rfl) | (intro _; kernel_rfl)) ?_; simp [List.zipIdx, h9', h0, -getM, getM_hit, getM_miss, getM_none]; (repeat (simp (disch := first | omega | assumption | fail) only [if_pos, if_neg, wrap64]; try simp [List.zipIdx, h9', h0, -getM, getM_hit, getM_miss, getM_none])); try (repeat' (refine guardQ_split (fun h => ?_) (fun h => ?_) <;> simp at h <;> (simp [List.zipIdx, h9', h0, -getM, getM_hit, getM_miss, getM_none]; (repeat (simp (disch := first | omega | assumption | fail) only [if_pos, if_neg, wrap64]; try simp [List.zipIdx, h9', h0, -getM, getM_hit, getM_miss, getM_none])))))) | (refine aw_cond (b := _) (by exact rfl) (fun h => ?_) (fun h => ?_) <;> (try simp at h)) | (refine aw_block ?_) | (refine aw_skip ?_; simp only [thenQ, blockQ, if_true]) | (refine aw_exit ?_; simp [thenQ, blockQ]) | (refine aw_ret ?_; simp only [thenQ, blockQ]) | (refine aw_round ?_) | (refine hK _ ?_; clear hK) | (clear hK; refine hK _ ?_; clear hK) | (clear hK; clear hK; refine hK _ ?_; clear hK) | (clear hK; clear hK; clear hK; refine hK _ ?_; clear hK))
    refine ⟨by simp, ?_⟩
    simp [leaves_iff, Try.f19, prows_nil]
    try (first | omega | (refine decide_eq_decide.2 ?_; omega) | (refine decide_eq_false ?_; omega) | (refine decide_eq_true ?_; omega))

theorem s21 (X : AX) (L : RefX X) (h12 : X.call 12 = callP F12) :
    PSound Try.prog 21 (specF (ι := {x : List Mp × Mp // x.1.length ≤ 1000000}) (fun x => [.rd 2 (prows x.1.1), Mv x.1.2]) fun x => retOf [.ow 2 (prows (remR x.1.1 x.1.2).1), I (remR x.1.1 x.1.2).2]) := by
  have hX := L.ok
  have hw := L.w
  have he := L.eq
  refine psound_spec hX mixed Try.func21 rfl fun ⟨⟨l, a, b⟩, hl⟩ w0 G => ⟨by show 2 ≤ 38; decide, rfl, ?_⟩
  show AW ⟨Try.prog, X, 38, w0, .pure G⟩ _ _ _
  have hc : Cx.OK ⟨Try.prog, X, 38, w0, .pure G⟩ := ⟨hX, mixed⟩
  simp only at hl ⊢
  unfold Mv remR
  simp only
  have h9' := L.h9 l hl
  have hF := F12_at l a b hl
  obtain ⟨c, hcc⟩ : ∃ c, c = chk l := ⟨_, rfl⟩
  rw [← hcc] at h9' hF ⊢
  rcases Decidable.em (c = 0) with h0 | h0
  · rw [if_pos h0]
    rcases Decidable.em ((a, b) ∈ l) with hm | hm
    · rw [if_pos hm]
      repeat' (first | (apply aw_seq_k; intro K hK) | (refine aw_run hc (by first | exact aw_nod | (intro _; rw [ordB_w hw]; kernel_rfl) | (intro _; rw [ordB_w0 hw0]; kernel_rfl) | (intro _; kernel_rfl)) ?_; simp [List.zipIdx, h9', h12, hF, h0, hm, -getM, getM_hit, getM_miss, getM_none]; (repeat (simp (disch := first | omega | assumption | fail) only [if_pos, if_neg, wrap64]; try simp [List.zipIdx, h9', h12, hF, h0, hm, -getM, getM_hit, getM_miss, getM_none])); try (repeat' (refine guardQ_split (fun h => ?_) (fun h => ?_) <;> simp at h <;> (simp [List.zipIdx, h9', h12, hF, h0, hm, -getM, getM_hit, getM_miss, getM_none]; (repeat (simp (disch := first | omega | assumption | fail) only [if_pos, if_neg, wrap64]; try simp [List.zipIdx, h9', h12, hF, h0, hm, -getM, getM_hit, getM_miss, getM_none])))))) | (refine aw_cond (b := _) (by exact rfl) (fun h => ?_) (fun h => ?_) <;> (try simp at h)) | (refine aw_block ?_) | (refine aw_skip ?_; simp only [thenQ, blockQ, if_true]) | (refine aw_exit ?_; simp [thenQ, blockQ]) | (refine aw_ret ?_; simp only [thenQ, blockQ]) | (refine aw_round ?_) | (refine hK _ ?_; clear hK) | (clear hK; refine hK _ ?_; clear hK) | (clear hK; clear hK; refine hK _ ?_; clear hK) | (clear hK; clear hK; clear hK; refine hK _ ?_; clear hK))
      refine aw_weaken (le_nilslot (t := 7) (sz := 2) (by simp)) ?_
      refine aw_loopK (s0 := ?lps1) (m0 := ?lpm1) (ι := {i : Nat // i ≤ l.length}) [0, 3] (fun i => [(8, I i.1), (7, .sl 224 1 2 0 (delM (l.take i.1) (a, b)).length)]) (fun i => [(224, .vec 1 2 false (prows (delM (l.take i.1) (a, b))))]) (fun i => l.length - i.1) ⟨0, by omega⟩ ?lhs1 ?lhm1 ?_ ?_
      case lhs1 => first | (simp [keepS]; done) | (simp [keepS]; rfl)
      case lhm1 => first | rfl | (simp; done) | (simp; rfl)
      · simp only [List.take_zero, delM, List.filter_nil, prows_nil, List.length_nil]
        exact le_of2 (by simp) (by simp [AVle, AV.under, AV.underL] <;> omega) (by simp [AOle, AO.under, AV.underL, AV.under] <;> omega)
      · rintro ⟨i, hi⟩
        simp only
        obtain ⟨O, hO⟩ : ∃ O, O = delM (l.take i) (a, b) := ⟨_, rfl⟩
        have hOl : O.length ≤ 1000000 := by
          have := delM_len (l.take i) (a, b)
          rw [← hO] at this
          rw [List.length_take] at this
          omega
        rcases Decidable.em (i < l.length) with hil | hil
        · have hilI : (i : Int) < (l.length : Int) := by omega
          have hg := prows_gi hil
          have hgE := prows_gE hil
          have hins := delM_snoc (l.take i) (a, b) (gm l i)
          rw [← take_succ_gm hil, ← hO] at hins
          rw [← hO]
          obtain ⟨⟨x, y⟩, hmm⟩ : ∃ m, m = gm l i := ⟨_, rfl⟩
          rw [← hmm] at hg hgE hins
          simp only at hg hgE hins
          rcases Decidable.em (x = a ∧ y = b) with hv | hv
          · rw [if_pos (by rw [hv.1, hv.2])] at hins
            repeat' (first | (apply aw_seq_k; intro K hK) | (refine aw_run hc (by first | exact aw_nod | (intro _; rw [ordB_w hw]; kernel_rfl) | (intro _; rw [ordB_w0 hw0]; kernel_rfl) | (intro _; kernel_rfl)) ?_; simp [List.zipIdx, hilI, hg, hgE, pap, hOl, tkM, hv.1, hv.2, he, eqL, -getM, getM_hit, getM_miss, getM_none]; (repeat (simp (disch := first | omega | assumption | fail) only [if_pos, if_neg, wrap64]; try simp [List.zipIdx, hilI, hg, hgE, pap, hOl, tkM, hv.1, hv.2, he, eqL, -getM, getM_hit, getM_miss, getM_none])); try (repeat' (refine guardQ_split (fun h => ?_) (fun h => ?_) <;> simp at h <;> (simp [List.zipIdx, hilI, hg, hgE, pap, hOl, tkM, hv.1, hv.2, he, eqL, -getM, getM_hit, getM_miss, getM_none]; (repeat (simp (disch := first | omega | assumption | fail) only [if_pos, if_neg, wrap64]; try simp [List.zipIdx, hilI, hg, hgE, pap, hOl, tkM, hv.1, hv.2, he, eqL, -getM, getM_hit, getM_miss, getM_none])))))) | (refine aw_cond (b := _) (by exact rfl) (fun h => ?_) (fun h => ?_) <;> (try simp at h)) | (refine aw_block ?_) | (refine aw_skip ?_; simp only [thenQ, blockQ, if_true]) | (refine aw_exit ?_; simp [thenQ, blockQ]) | (refine aw_ret ?_; simp only [thenQ, blockQ]) | (refine aw_round ?_) | (refine hK _ ?_; clear hK) | (clear hK; refine hK _ ?_; clear hK) | (clear hK; clear hK; refine hK _ ?_; clear hK) | (clear hK; clear hK; clear hK; refine hK _ ?_; clear hK))
            refine ⟨i + 1, ?_, by omega, by omega⟩
            simp only [hins]
            refine le_turn (s1 := ?tus2) (m1 := ?tum2) [] [0, 3, 7, 8] [0, 224] ?tua2 ?tub2 ?tuc2 ?tud2 ?tue2 ?tuf2 ?tug2
            case tua2 => first | (simp [keepS]; done) | (simp [keepS]; rfl)
            case tub2 => first | (simp; done) | (simp; rfl)
            case tuc2 => simp
            case tud2 => simp
            case tue2 => simp
            case tuf2 => simp
            case tug2 =>
              simp [swp, vr]
              exact le_of2 (by simp) (by simp [AVle, AV.under, AV.underL] <;> omega) (by simp [AOle, AO.under, AV.underL, AV.under] <;> omega)
          · have hv' : (decide (x = a) && decide (y = b)) = false := by simpa using hv
            rw [if_neg (by simpa using hv)] at hins
            repeat' (first | (apply aw_seq_k; intro K hK) | (refine aw_run hc (by first | exact aw_nod | (intro _; rw [ordB_w hw]; kernel_rfl) | (intro _; rw [ordB_w0 hw0]; kernel_rfl) | (intro _; kernel_rfl)) ?_; simp [List.zipIdx, hilI, hg, hgE, pap, hOl, tkM, hv', he, eqL, -getM, getM_hit, getM_miss, getM_none]; (repeat (simp (disch := first | omega | assumption | fail) only [if_pos, if_neg, wrap64]; try simp [List.zipIdx, hilI, hg, hgE, pap, hOl, tkM, hv', he, eqL, -getM, getM_hit, getM_miss, getM_none])); try (repeat' (refine guardQ_split (fun h => ?_) (fun h => ?_) <;> simp at h <;> (simp [List.zipIdx, hilI, hg, hgE, pap, hOl, tkM, hv', he, eqL, -getM, getM_hit, getM_miss, getM_none]; (repeat (simp (disch := first | omega | assumption | fail) only [if_pos, if_neg, wrap64]; try simp [List.zipIdx, hilI, hg, hgE, pap, hOl, tkM, hv', he, eqL, -getM, getM_hit, getM_miss, getM_none])))))) | (refine aw_cond (b := _) (by exact rfl) (fun h => ?_) (fun h => ?_) <;> (try simp at h)) | (refine aw_block ?_) | (refine aw_skip ?_; simp only [thenQ, blockQ, if_true]) | (refine aw_exit ?_; simp [thenQ, blockQ]) | (refine aw_ret ?_; simp only [thenQ, blockQ]) | (refine aw_round ?_) | (refine hK _ ?_; clear hK) | (clear hK; refine hK _ ?_; clear hK) | (clear hK; clear hK; refine hK _ ?_; clear hK) | (clear hK; clear hK; clear hK; refine hK _ ?_; clear hK))
            refine ⟨i + 1, ?_, by omega, by omega⟩
            simp only [hins]
            refine le_turn (s1 := ?tus3) (m1 := ?tum3) [] [0, 3, 7, 8] [0, 224] ?tua3 ?tub3 ?tuc3 ?tud3 ?tue3 ?tuf3 ?tug3
            case tua3 => first | (simp [keepS]; done) | (simp [keepS]; rfl)
            case tub3 => first | (simp; done) | (simp; rfl)
            case tuc3 => simp
            case tud3 => simp
            case tue3 => simp
            case tuf3 => simp
            case tug3 =>
              simp [swp, vr]
              exact le_of2 (by simp) (by simp [AVle, AV.under, AV.underL] <;> omega) (by simp [AOle, AO.under, AV.underL, AV.under] <;> omega)
        · obtain rfl : i = l.length := by omega
          rw [List.take_length] at hO ⊢
          rw [← hO]
          repeat' (first | (apply aw_seq_k; intro K hK) | (refine aw_run hc (by first | exact aw_nod | (intro _; rw [ordB_w hw]; kernel_rfl) | (intro _; rw [ordB_w0 hw0]; kernel_rfl) | (intro _; kernel_rfl)) ?_; simp [List.zipIdx, hOl, tkM, -getM, getM_hit, getM_miss, getM_none]; (repeat (simp (disch := first | omega | assumption | fail) only [if_pos, if_neg, wrap64]; try simp [List.zipIdx, hOl, tkM, -getM, getM_hit, getM_miss, getM_none])); try (repeat' (refine guardQ_split (fun h => ?_) (fun h => ?_) <;> simp at h <;> (simp [List.zipIdx, hOl, tkM, -getM, getM_hit, getM_miss, getM_none]; (repeat (simp (disch := first | omega | assumption | fail) only [if_pos, if_neg, wrap64]; try simp [List.zipIdx, hOl, tkM, -getM, getM_hit, getM_miss, getM_none])))))) | (refine aw_cond (b := _) (by exact rfl) (fun h => ?_) (fun h => ?_) <;> (try simp at h)) | (refine aw_block ?_) | (refine aw_skip ?_; simp only [thenQ, blockQ, if_true]) | (refine aw_exit ?_; simp [thenQ, blockQ]) | (refine aw_ret ?_; simp only [thenQ, blockQ]) | (refine aw_round ?_) | (refine hK _ ?_; clear hK) | (clear hK; refine hK _ ?_; clear hK) | (clear hK; clear hK; refine hK _ ?_; clear hK) | (clear hK; clear hK; clear hK; refine hK _ ?_; clear hK))
          refine ⟨by simp, ?_⟩
          simp [leaves_iff, Try.f21]
          try (first | omega | (refine decide_eq_decide.2 ?_; omega) | (refine decide_eq_false ?_; omega) | (refine decide_eq_true ?_; omega))
          rw [hO]
    · rw [if_neg hm]
      repeat' (first | (apply aw_seq_k; intro K hK) | (refine aw_run hc (by first | exact aw_nod | (intro _; rw [ordB_w hw]; kernel_rfl) | (intro _; rw [ordB_w0 hw0]; kernel_rfl) | (intro _; kernel_rfl)) ?_; simp [List.zipIdx, h9', h12, hF, h0, hm, -getM, getM_hit, getM_miss, getM_none]; (repeat (simp (disch := first | omega | assumption | fail) only [if_pos, if_neg, wrap64]; try simp [List.zipIdx, h9', h12, hF, h0, hm, -getM, getM_hit, getM_miss, getM_none])); try (repeat' (refine guardQ_split (fun h => ?_) (fun h => ?_) <;> simp at h <;> (simp [List.zipIdx, h9', h12, hF, h0, hm, -getM, getM_hit, getM_miss, getM_none]; (repeat (simp (disch := first | omega | assumption | fail) only [if_pos, if_neg, wrap64]; try simp [List.zipIdx, h9', h12, hF, h0, hm, -getM, getM_hit, getM_miss, getM_none])))))) | (refine aw_cond (b := _) (by exact rfl) (fun h => ?_) (fun h => ?_) <;> (try simp at h)) | (refine aw_block ?_) | (refine aw_skip ?_; simp only [thenQ, blockQ, if_true]) | (refine aw_exit ?_; simp [thenQ, blockQ]) | (refine aw_ret ?_; simp only [thenQ, blockQ]) | (refine aw_round ?_) | (refine hK _ ?_; clear hK) | (clear hK; refine hK _ ?_; clear hK) | (clear hK; clear hK; refine hK _ ?_; clear hK) | (clear hK; clear hK; clear hK; refine hK _ ?_; clear hK))
      refine ⟨by simp, ?_⟩
      simp [leaves_iff, Try.f21, prows_nil]
      try (first | omega | (refine decide_eq_decide.2 ?_; omega) | (refine decide_eq_false ?_; omega) | (refine decide_eq_true ?_; omega))
  · rw [if_neg h0]
    repeat' (first | (apply aw_seq_k; intro K hK) | (refine aw_run hc (by first | exact aw_nod | (intro _; rw [ordB_w hw]; kernel_rfl) | (intro _; rw [ordB_w0 hw0]; kernel_rfl) | (intro _; kernel_rfl)) ?_; simp [List.zipIdx, h9', h0, -getM, getM_hit, getM_miss, getM_none]; (repeat (simp (disch := first | omega | assumption | fail) only [if_pos, if_neg, wrap64]; try simp [List.zipIdx, h9', h0, -getM, getM_hit, getM_miss, getM_none])); try (repeat' (refine guardQ_split (fun h => ?_) (fun h => ?_) <;> simp at h <;> (simp [List.zipIdx, h9', h0, -getM, getM_hit, getM_miss, getM_none]; (repeat (simp (disch := first | omega | assumption | fail) only [if_pos, if_neg, wrap64]; try simp [List.zipIdx, h9', h0, -getM, getM_hit, getM_miss, getM_none])))))) | (refine aw_cond (b := _) (by exact rfl) (fun h => ?_) (fun h => ?_) <;> (try simp at h)) | (refine aw_block ?_) | (refine aw_skip ?_; simp only [thenQ, blockQ, if_true]) | (refine aw_exit ?_; simp [thenQ, blockQ]) | (refine aw_ret ?_; simp only [thenQ, blockQ]) | (refine aw_round ?_) | (refine hK _ ?_; clear hK) | (clear hK; refine hK _ ?_; clear hK) | (clear hK; clear hK; refine hK _ ?_; clear hK) | (clear hK; clear hK; clear hK; refine hK _ ?_; clear hK))
    refine ⟨by simp, ?_⟩
    simp [leaves_iff, Try.f21, prows_nil]
    try (first | omega | (refine decide_eq_decide.2 ?_; omega) | (refine decide_eq_false ?_; omega) | (refine decide_eq_true ?_; omega))

/-- What Copy gives. -/
def cpS (f t : Int) (o : List Mp) (x : Mp) : List Mp := if x.1 = f then insR (insR o x) (t, x.2) else insR o x
def cpG (f t : Int) (l : List Mp) : List Mp := l.foldl (cpS f t) []
theorem cpG_snoc (f t : Int) (l : List Mp) (x : Mp) : cpG f t (l ++ [x]) = cpS f t (cpG f t l) x := by unfold cpG; rw [List.foldl_append]; rfl
theorem cpS_len (f t : Int) (o : List Mp) (x : Mp) : (cpS f t o x).length ≤ o.length + 2 := by
  unfold cpS
  split
  · rw [insR_length, insR_length]; omega
  · rw [insR_length]; omega
theorem cpG_len (f t : Int) (l : List Mp) : ∀ i, (cpG f t (l.take i)).length ≤ 2 * i
  | 0 => by simp [cpG]
  | i + 1 => by
    have ih := cpG_len f t l i
    by_cases h : i < l.length
    · rw [take_succ_gm h, cpG_snoc]
      have := cpS_len f t (cpG f t (l.take i)) (gm l i)
      omega
    · rw [List.take_of_length_le (by omega)] at ih ⊢
      omega
def spN (n : Int) : Prop := 0 ≤ n ∧ n < 8
instance (n : Int) : Decidable (spN n) := by unfold spN; infer_instance
def cpX (l : List Mp) (f t : Int) : Prop := ∃ i, i < l.length ∧ (gm l i).1 = f ∧ (t, (gm l i).2) ∈ l
open Classical in
noncomputable def cpyR (l : List Mp) (f t : Int) : List Mp × Int :=
  if chk l = 0 then (if spN f ∧ spN t then (if cpX l f t then ([], 7) else (cpG f t l, 0)) else ([], 2)) else ([], chk l)
theorem cpyR_c {l : List Mp} {f t : Int} (h : ¬ chk l = 0) : cpyR l f t = ([], chk l) := by unfold cpyR; rw [if_neg h]
theorem cpyR_s {l : List Mp} {f t : Int} (h : chk l = 0) (h2 : ¬ (spN f ∧ spN t)) : cpyR l f t = ([], 2) := by unfold cpyR; rw [if_pos h, if_neg h2]
theorem cpyR_x {l : List Mp} {f t : Int} (h : chk l = 0) (h2 : spN f ∧ spN t) (h3 : cpX l f t) : cpyR l f t = ([], 7) := by unfold cpyR; rw [if_pos h, if_pos h2, if_pos h3]
theorem cpyR_z {l : List Mp} {f t : Int} (h : chk l = 0) (h2 : spN f ∧ spN t) (h3 : ¬ cpX l f t) : cpyR l f t = (cpG f t l, 0) := by unfold cpyR; rw [if_pos h, if_pos h2, if_neg h3]

set_option maxHeartbeats 1000000 in
theorem s16 (X : AX) (L : RefX X) (h12 : X.call 12 = callP F12) (h36 : X.call 36 = callP F36) :
    PSound Try.prog 16 (specF (ι := {x : List Mp × Int × Int // x.1.length ≤ 400000}) (fun x => [.rd 2 (prows x.1.1), I x.1.2.1, I x.1.2.2]) fun x => retOf [.ow 2 (prows (cpyR x.1.1 x.1.2.1 x.1.2.2).1), I (cpyR x.1.1 x.1.2.1 x.1.2.2).2]) := by
  have hX := L.ok
  have hw := L.w
  have he := L.eq
  refine psound_spec hX mixed Try.func16 rfl fun ⟨⟨l, f, t⟩, hl⟩ w0 G => ⟨by show 3 ≤ 84; decide, rfl, ?_⟩
  show AW ⟨Try.prog, X, 84, w0, .pure G⟩ _ _ _
  have hc : Cx.OK ⟨Try.prog, X, 84, w0, .pure G⟩ := ⟨hX, mixed⟩
  simp only at hl ⊢
  have h9' := L.h9 l (by omega)
  have hF := fun a b => F12_at l a b (by omega)
  obtain ⟨c, hcc⟩ : ∃ c, c = chk l := ⟨_, rfl⟩
  rw [← hcc] at h9' hF
  rcases Decidable.em (c = 0) with h0 | h0
  · rcases Decidable.em (spN f) with hf | hf
    · rcases Decidable.em (spN t) with ht | ht
      · have ht' := ht
        have hf' := hf
        unfold spN at ht' hf'
        have a1 : ¬ f < 0 := by omega
        have a2 : ¬ 8 ≤ f := by omega
        have a3 : ¬ t < 0 := by omega
        have a4 : ¬ 8 ≤ t := by omega
        repeat' (first | (apply aw_seq_k; intro K hK) | (refine aw_run hc (by first | exact aw_nod | (intro _; rw [ordB_w hw]; kernel_rfl) | (intro _; rw [ordB_w0 hw0]; kernel_rfl) | (intro _; kernel_rfl)) ?_; simp [List.zipIdx, h9', h0, a1, a2, a3, a4, -getM, getM_hit, getM_miss, getM_none]; (repeat (simp (disch := first | omega | assumption | fail) only [if_pos, if_neg, wrap64]; try simp [List.zipIdx, h9', h0, a1, a2, a3, a4, -getM, getM_hit, getM_miss, getM_none])); try (repeat' (refine guardQ_split (fun h => ?_) (fun h => ?_) <;> simp at h <;> (simp [List.zipIdx, h9', h0, a1, a2, a3, a4, -getM, getM_hit, getM_miss, getM_none]; (repeat (simp (disch := first | omega | assumption | fail) only [if_pos, if_neg, wrap64]; try simp [List.zipIdx, h9', h0, a1, a2, a3, a4, -getM, getM_hit, getM_miss, getM_none])))))) | (refine aw_cond (b := _) (by exact rfl) (fun h => ?_) (fun h => ?_) <;> (try simp at h)) | (refine aw_block ?_) | (refine aw_skip ?_; simp only [thenQ, blockQ, if_true]) | (refine aw_exit ?_; simp [thenQ, blockQ]) | (refine aw_ret ?_; simp only [thenQ, blockQ]) | (refine aw_round ?_) | (refine hK _ ?_; clear hK) | (clear hK; refine hK _ ?_; clear hK) | (clear hK; clear hK; refine hK _ ?_; clear hK) | (clear hK; clear hK; clear hK; refine hK _ ?_; clear hK))
        refine aw_loopK (s0 := ?lps4) (m0 := ?lpm4) (ι := {i : Nat // i ≤ l.length ∧ ∀ j, j < i → ¬ ((gm l j).1 = f ∧ (t, (gm l j).2) ∈ l)}) [0, 1, 2] (fun i => [(9, I i.1)]) (fun _ => []) (fun i => l.length - i.1) ⟨0, by omega, by omega⟩ ?lhs4 ?lhm4 ?_ ?_
        case lhs4 => first | (simp [keepS]; done) | (simp [keepS]; rfl)
        case lhm4 => first | rfl | (simp; done) | (simp; rfl)
        · exact le_of2 (by simp) (by simp [AVle, AV.under, AV.underL] <;> omega) (by simp [AOle, AO.under, AV.underL, AV.under] <;> omega)
        · rintro ⟨i, hi, hinv⟩
          simp only
          rcases Decidable.em (i < l.length) with hil | hil
          · have hilI : (i : Int) < (l.length : Int) := by omega
            have hg := prows_gi hil
            have hgE := prows_gE hil
            obtain ⟨⟨x, y⟩, hmm⟩ : ∃ m, m = gm l i := ⟨_, rfl⟩
            rw [← hmm] at hg hgE
            simp only at hg hgE
            rcases Decidable.em (x = f) with hv | hv
            · rcases Decidable.em ((t, y) ∈ l) with hm | hm
              · have hx : cpX l f t := ⟨i, hil, by rw [← hmm]; exact ⟨hv, hm⟩⟩
                rw [cpyR_x (by rw [← hcc]; exact h0) ⟨hf, ht⟩ hx]
                repeat' (first | (apply aw_seq_k; intro K hK) | (refine aw_run hc (by first | exact aw_nod | (intro _; rw [ordB_w hw]; kernel_rfl) | (intro _; rw [ordB_w0 hw0]; kernel_rfl) | (intro _; kernel_rfl)) ?_; simp [List.zipIdx, hilI, hg, hgE, hv, h12, hF, h0, hm, -getM, getM_hit, getM_miss, getM_none]; (repeat (simp (disch := first | omega | assumption | fail) only [if_pos, if_neg, wrap64]; try simp [List.zipIdx, hilI, hg, hgE, hv, h12, hF, h0, hm, -getM, getM_hit, getM_miss, getM_none])); try (repeat' (refine guardQ_split (fun h => ?_) (fun h => ?_) <;> simp at h <;> (simp [List.zipIdx, hilI, hg, hgE, hv, h12, hF, h0, hm, -getM, getM_hit, getM_miss, getM_none]; (repeat (simp (disch := first | omega | assumption | fail) only [if_pos, if_neg, wrap64]; try simp [List.zipIdx, hilI, hg, hgE, hv, h12, hF, h0, hm, -getM, getM_hit, getM_miss, getM_none])))))) | (refine aw_cond (b := _) (by exact rfl) (fun h => ?_) (fun h => ?_) <;> (try simp at h)) | (refine aw_block ?_) | (refine aw_skip ?_; simp only [thenQ, blockQ, if_true]) | (refine aw_exit ?_; simp [thenQ, blockQ]) | (refine aw_ret ?_; simp only [thenQ, blockQ]) | (refine aw_round ?_) | (refine hK _ ?_; clear hK) | (clear hK; refine hK _ ?_; clear hK) | (clear hK; clear hK; refine hK _ ?_; clear hK) | (clear hK; clear hK; clear hK; refine hK _ ?_; clear hK))
                refine ⟨by simp, ?_⟩
                simp [leaves_iff, Try.f16, prows_nil]
                try (first | omega | (refine decide_eq_decide.2 ?_; omega) | (refine decide_eq_false ?_; omega) | (refine decide_eq_true ?_; omega))
              · repeat' (first | (apply aw_seq_k; intro K hK) | (refine aw_run hc (by first | exact aw_nod | (intro _; rw [ordB_w hw]; kernel_rfl) | (intro _; rw [ordB_w0 hw0]; kernel_rfl) | (intro _; kernel_rfl)) ?_; simp [List.zipIdx, hilI, hg, hgE, hv, h12, hF, h0, hm, -getM, getM_hit, getM_miss, getM_none]; (repeat (simp (disch := first | omega | assumption | fail) only [if_pos, if_neg, wrap64]; try simp [List.zipIdx, hilI, hg, hgE, hv, h12, hF, h0, hm, -getM, getM_hit, getM_miss, getM_none])); try (repeat' (refine guardQ_split (fun h => ?_) (fun h => ?_) <;> simp at h <;> (simp [List.zipIdx, hilI, hg, hgE, hv, h12, hF, h0, hm, -getM, getM_hit, getM_miss, getM_none]; (repeat (simp (disch := first | omega | assumption | fail) only [if_pos, if_neg, wrap64]; try simp [List.zipIdx, hilI, hg, hgE, hv, h12, hF, h0, hm, -getM, getM_hit, getM_miss, getM_none])))))) | (refine aw_cond (b := _) (by exact rfl) (fun h => ?_) (fun h => ?_) <;> (try simp at h)) | (refine aw_block ?_) | (refine aw_skip ?_; simp only [thenQ, blockQ, if_true]) | (refine aw_exit ?_; simp [thenQ, blockQ]) | (refine aw_ret ?_; simp only [thenQ, blockQ]) | (refine aw_round ?_) | (refine hK _ ?_; clear hK) | (clear hK; refine hK _ ?_; clear hK) | (clear hK; clear hK; refine hK _ ?_; clear hK) | (clear hK; clear hK; clear hK; refine hK _ ?_; clear hK))
                refine ⟨i + 1, ?_, ⟨by omega, fun j hj => ?_⟩, by omega⟩
                · exact le_of2 (by simp) (by simp [AVle, AV.under, AV.underL] <;> omega) (by simp [AOle, AO.under, AV.underL, AV.under] <;> omega)
                · rcases Nat.lt_succ_iff_lt_or_eq.1 hj with h | rfl
                  · simpa using hinv j h
                  · rw [← hmm]; intro _; exact hm
            · repeat' (first | (apply aw_seq_k; intro K hK) | (refine aw_run hc (by first | exact aw_nod | (intro _; rw [ordB_w hw]; kernel_rfl) | (intro _; rw [ordB_w0 hw0]; kernel_rfl) | (intro _; kernel_rfl)) ?_; simp [List.zipIdx, hilI, hg, hgE, hv, -getM, getM_hit, getM_miss, getM_none]; (repeat (simp (disch := first | omega | assumption | fail) only [if_pos, if_neg, wrap64]; try simp [List.zipIdx, hilI, hg, hgE, hv, -getM, getM_hit, getM_miss, getM_none])); try (repeat' (refine guardQ_split (fun h => ?_) (fun h => ?_) <;> simp at h <;> (simp [List.zipIdx, hilI, hg, hgE, hv, -getM, getM_hit, getM_miss, getM_none]; (repeat (simp (disch := first | omega | assumption | fail) only [if_pos, if_neg, wrap64]; try simp [List.zipIdx, hilI, hg, hgE, hv, -getM, getM_hit, getM_miss, getM_none])))))) | (refine aw_cond (b := _) (by exact rfl) (fun h => ?_) (fun h => ?_) <;> (try simp at h)) | (refine aw_block ?_) | (refine aw_skip ?_; simp only [thenQ, blockQ, if_true]) | (refine aw_exit ?_; simp [thenQ, blockQ]) | (refine aw_ret ?_; simp only [thenQ, blockQ]) | (refine aw_round ?_) | (refine hK _ ?_; clear hK) | (clear hK; refine hK _ ?_; clear hK) | (clear hK; clear hK; refine hK _ ?_; clear hK) | (clear hK; clear hK; clear hK; refine hK _ ?_; clear hK))
              refine ⟨i + 1, ?_, ⟨by omega, fun j hj => ?_⟩, by omega⟩
              · exact le_of2 (by simp) (by simp [AVle, AV.under, AV.underL] <;> omega) (by simp [AOle, AO.under, AV.underL, AV.under] <;> omega)
              · rcases Nat.lt_succ_iff_lt_or_eq.1 hj with h | rfl
                · simpa using hinv j h
                · rw [← hmm]; intro e; exact absurd e hv
          · obtain rfl : i = l.length := by omega
            have hx : ¬ cpX l f t := fun ⟨j, hj, e⟩ => hinv j hj e
            rw [cpyR_z (by rw [← hcc]; exact h0) ⟨hf, ht⟩ hx]
            repeat' (first | (apply aw_seq_k; intro K hK) | (refine aw_run hc (by first | exact aw_nod | (intro _; rw [ordB_w hw]; kernel_rfl) | (intro _; rw [ordB_w0 hw0]; kernel_rfl) | (intro _; kernel_rfl)) ?_; simp [List.zipIdx, -getM, getM_hit, getM_miss, getM_none]; (repeat (simp (disch := first | omega | assumption | fail) only [if_pos, if_neg, wrap64]; try simp [List.zipIdx, -getM, getM_hit, getM_miss, getM_none])); try (repeat' (refine guardQ_split (fun h => ?_) (fun h => ?_) <;> simp at h <;> (simp [List.zipIdx, -getM, getM_hit, getM_miss, getM_none]; (repeat (simp (disch := first | omega | assumption | fail) only [if_pos, if_neg, wrap64]; try simp [List.zipIdx, -getM, getM_hit, getM_miss, getM_none])))))) | (refine aw_cond (b := _) (by exact rfl) (fun h => ?_) (fun h => ?_) <;> (try simp at h)) | (refine aw_block ?_) | (refine aw_skip ?_; simp only [thenQ, blockQ, if_true]) | (refine aw_exit ?_; simp [thenQ, blockQ]) | (refine aw_ret ?_; simp only [thenQ, blockQ]) | (refine aw_round ?_) | (refine hK _ ?_; clear hK) | (clear hK; refine hK _ ?_; clear hK) | (clear hK; clear hK; refine hK _ ?_; clear hK) | (clear hK; clear hK; clear hK; refine hK _ ?_; clear hK))
            refine aw_weaken (le_nilslot (t := 10) (sz := 2) (by simp)) ?_
            refine aw_loopK (s0 := ?lps5) (m0 := ?lpm5) (ι := {i : Nat // i ≤ l.length}) [0, 1, 2] (fun i => [(11, I i.1), (10, .sl 448 1 2 0 (cpG f t (l.take i.1)).length)]) (fun i => [(448, .vec 1 2 false (prows (cpG f t (l.take i.1))))]) (fun i => l.length - i.1) ⟨0, by omega⟩ ?lhs5 ?lhm5 ?_ ?_
            case lhs5 => first | (simp [keepS]; done) | (simp [keepS]; rfl)
            case lhm5 => first | rfl | (simp; done) | (simp; rfl)
            · simp only [List.take_zero, cpG, List.foldl_nil, prows_nil, List.length_nil]
              exact le_of2 (by simp) (by simp [AVle, AV.under, AV.underL] <;> omega) (by simp [AOle, AO.under, AV.underL, AV.under] <;> omega)
            · rintro ⟨i, hi⟩
              simp only
              obtain ⟨O, hO⟩ : ∃ O, O = cpG f t (l.take i) := ⟨_, rfl⟩
              have hOl : O.length ≤ 800000 := by
                have := cpG_len f t l i
                rw [← hO] at this
                omega
              rcases Decidable.em (i < l.length) with hil | hil
              · have hilI : (i : Int) < (l.length : Int) := by omega
                have hg := prows_gi hil
                have hgE := prows_gE hil
                have hins := cpG_snoc f t (l.take i) (gm l i)
                rw [← take_succ_gm hil, ← hO] at hins
                rw [← hO]
                obtain ⟨⟨x, y⟩, hmm⟩ : ∃ m, m = gm l i := ⟨_, rfl⟩
                rw [← hmm] at hg hgE hins
                simp only at hg hgE
                unfold cpS at hins
                simp only at hins
                have hG := F36_at O x y (by omega)
                obtain ⟨O1, hO1⟩ : ∃ O1, O1 = insR O (x, y) := ⟨_, rfl⟩
                have hO1l := insR_length (x, y) O
                rw [← hO1] at hins hG hO1l
                have hG2 := F36_at O1 t y (by omega)
                rcases Decidable.em (x = f) with hv | hv
                · rw [if_pos hv] at hins
                  subst hv
                  repeat' (first | (apply aw_seq_k; intro K hK) | (refine aw_run hc (by first | exact aw_nod | (intro _; rw [ordB_w hw]; kernel_rfl) | (intro _; rw [ordB_w0 hw0]; kernel_rfl) | (intro _; kernel_rfl)) ?_; simp [List.zipIdx, hilI, hg, hgE, hOl, tkM, h36, hG, hG2, -getM, getM_hit, getM_miss, getM_none]; (repeat (simp (disch := first | omega | assumption | fail) only [if_pos, if_neg, wrap64]; try simp [List.zipIdx, hilI, hg, hgE, hOl, tkM, h36, hG, hG2, -getM, getM_hit, getM_miss, getM_none])); try (repeat' (refine guardQ_split (fun h => ?_) (fun h => ?_) <;> simp at h <;> (simp [List.zipIdx, hilI, hg, hgE, hOl, tkM, h36, hG, hG2, -getM, getM_hit, getM_miss, getM_none]; (repeat (simp (disch := first | omega | assumption | fail) only [if_pos, if_neg, wrap64]; try simp [List.zipIdx, hilI, hg, hgE, hOl, tkM, h36, hG, hG2, -getM, getM_hit, getM_miss, getM_none])))))) | (refine aw_cond (b := _) (by exact rfl) (fun h => ?_) (fun h => ?_) <;> (try simp at h)) | (refine aw_block ?_) | (refine aw_skip ?_; simp only [thenQ, blockQ, if_true]) | (refine aw_exit ?_; simp [thenQ, blockQ]) | (refine aw_ret ?_; simp only [thenQ, blockQ]) | (refine aw_round ?_) | (refine hK _ ?_; clear hK) | (clear hK; refine hK _ ?_; clear hK) | (clear hK; clear hK; refine hK _ ?_; clear hK) | (clear hK; clear hK; clear hK; refine hK _ ?_; clear hK))
                  refine ⟨i + 1, ?_, by omega, by omega⟩
                  simp only [hins]
                  refine le_turn (s1 := ?tus6) (m1 := ?tum6) [(865, 448)] [0, 1, 2, 10, 11] [865] ?tua6 ?tub6 ?tuc6 ?tud6 ?tue6 ?tuf6 ?tug6
                  case tua6 => first | (simp [keepS]; done) | (simp [keepS]; rfl)
                  case tub6 => first | (simp; done) | (simp; rfl)
                  case tuc6 => simp
                  case tud6 => simp
                  case tue6 => simp
                  case tuf6 => simp
                  case tug6 =>
                    simp [swp, vr]
                    exact le_of2 (by simp) (by simp [AVle, AV.under, AV.underL] <;> omega) (by simp [AOle, AO.under, AV.underL, AV.under] <;> omega)
                · rw [if_neg hv] at hins
                  repeat' (first | (apply aw_seq_k; intro K hK) | (refine aw_run hc (by first | exact aw_nod | (intro _; rw [ordB_w hw]; kernel_rfl) | (intro _; rw [ordB_w0 hw0]; kernel_rfl) | (intro _; kernel_rfl)) ?_; simp [List.zipIdx, hilI, hg, hgE, hOl, tkM, h36, hG, hv, -getM, getM_hit, getM_miss, getM_none]; (repeat (simp (disch := first | omega | assumption | fail) only [if_pos, if_neg, wrap64]; try simp [List.zipIdx, hilI, hg, hgE, hOl, tkM, h36, hG, hv, -getM, getM_hit, getM_miss, getM_none])); try (repeat' (refine guardQ_split (fun h => ?_) (fun h => ?_) <;> simp at h <;> (simp [List.zipIdx, hilI, hg, hgE, hOl, tkM, h36, hG, hv, -getM, getM_hit, getM_miss, getM_none]; (repeat (simp (disch := first | omega | assumption | fail) only [if_pos, if_neg, wrap64]; try simp [List.zipIdx, hilI, hg, hgE, hOl, tkM, h36, hG, hv, -getM, getM_hit, getM_miss, getM_none])))))) | (refine aw_cond (b := _) (by exact rfl) (fun h => ?_) (fun h => ?_) <;> (try simp at h)) | (refine aw_block ?_) | (refine aw_skip ?_; simp only [thenQ, blockQ, if_true]) | (refine aw_exit ?_; simp [thenQ, blockQ]) | (refine aw_ret ?_; simp only [thenQ, blockQ]) | (refine aw_round ?_) | (refine hK _ ?_; clear hK) | (clear hK; refine hK _ ?_; clear hK) | (clear hK; clear hK; refine hK _ ?_; clear hK) | (clear hK; clear hK; clear hK; refine hK _ ?_; clear hK))
                  refine ⟨i + 1, ?_, by omega, by omega⟩
                  simp only [hins]
                  refine le_turn (s1 := ?tus7) (m1 := ?tum7) [(593, 448)] [0, 1, 2, 10, 11] [593] ?tua7 ?tub7 ?tuc7 ?tud7 ?tue7 ?tuf7 ?tug7
                  case tua7 => first | (simp [keepS]; done) | (simp [keepS]; rfl)
                  case tub7 => first | (simp; done) | (simp; rfl)
                  case tuc7 => simp
                  case tud7 => simp
                  case tue7 => simp
                  case tuf7 => simp
                  case tug7 =>
                    simp [swp, vr]
                    exact le_of2 (by simp) (by simp [AVle, AV.under, AV.underL] <;> omega) (by simp [AOle, AO.under, AV.underL, AV.under] <;> omega)
              · obtain rfl : i = l.length := by omega
                rw [List.take_length] at hO ⊢
                rw [hO] at hOl
                repeat' (first | (apply aw_seq_k; intro K hK) | (refine aw_run hc (by first | exact aw_nod | (intro _; rw [ordB_w hw]; kernel_rfl) | (intro _; rw [ordB_w0 hw0]; kernel_rfl) | (intro _; kernel_rfl)) ?_; simp [List.zipIdx, hOl, tkM, -getM, getM_hit, getM_miss, getM_none]; (repeat (simp (disch := first | omega | assumption | fail) only [if_pos, if_neg, wrap64]; try simp [List.zipIdx, hOl, tkM, -getM, getM_hit, getM_miss, getM_none])); try (repeat' (refine guardQ_split (fun h => ?_) (fun h => ?_) <;> simp at h <;> (simp [List.zipIdx, hOl, tkM, -getM, getM_hit, getM_miss, getM_none]; (repeat (simp (disch := first | omega | assumption | fail) only [if_pos, if_neg, wrap64]; try simp [List.zipIdx, hOl, tkM, -getM, getM_hit, getM_miss, getM_none])))))) | (refine aw_cond (b := _) (by exact rfl) (fun h => ?_) (fun h => ?_) <;> (try simp at h)) | (refine aw_block ?_) | (refine aw_skip ?_; simp only [thenQ, blockQ, if_true]) | (refine aw_exit ?_; simp [thenQ, blockQ]) | (refine aw_ret ?_; simp only [thenQ, blockQ]) | (refine aw_round ?_) | (refine hK _ ?_; clear hK) | (clear hK; refine hK _ ?_; clear hK) | (clear hK; clear hK; refine hK _ ?_; clear hK) | (clear hK; clear hK; clear hK; refine hK _ ?_; clear hK))
                refine ⟨by simp, ?_⟩
                simp [leaves_iff, Try.f16]
                try (first | omega | (refine decide_eq_decide.2 ?_; omega) | (refine decide_eq_false ?_; omega) | (refine decide_eq_true ?_; omega))
                rw [cpyR_z (by rw [← hcc]; exact h0) ⟨hf, ht⟩ hx]
                exact ⟨rfl, rfl⟩
      · rw [cpyR_s (by rw [← hcc]; exact h0) (fun h => ht h.2)]
        unfold spN at hf ht
        have a1 : ¬ f < 0 := by omega
        have a2 : ¬ 8 ≤ f := by omega
        rcases Decidable.em (t < 0) with a3 | a3
        · repeat' (first | (apply aw_seq_k; intro K hK) | (refine aw_run hc (by first | exact aw_nod | (intro _; rw [ordB_w hw]; kernel_rfl) | (intro _; rw [ordB_w0 hw0]; kernel_rfl) | (intro _; kernel_rfl)) ?_; simp [List.zipIdx, h9', h0, a1, a2, a3, -getM, getM_hit, getM_miss, getM_none]; (repeat (simp (disch := first | omega | assumption | fail) only [if_pos, if_neg, wrap64]; try simp [List.zipIdx, h9', h0, a1, a2, a3, -getM, getM_hit, getM_miss, getM_none])); try (repeat' (refine guardQ_split (fun h => ?_) (fun h => ?_) <;> simp at h <;> (simp [List.zipIdx, h9', h0, a1, a2, a3, -getM, getM_hit, getM_miss, getM_none]; (repeat (simp (disch := first | omega | assumption | fail) only [if_pos, if_neg, wrap64]; try simp [List.zipIdx, h9', h0, a1, a2, a3, -getM, getM_hit, getM_miss, getM_none])))))) | (refine aw_cond (b := _) (by exact rfl) (fun h => ?_) (fun h => ?_) <;> (try simp at h)) | (refine aw_block ?_) | (refine aw_skip ?_; simp only [thenQ, blockQ, if_true]) | (refine aw_exit ?_; simp [thenQ, blockQ]) | (refine aw_ret ?_; simp only [thenQ, blockQ]) | (refine aw_round ?_) | (refine hK _ ?_; clear hK) | (clear hK; refine hK _ ?_; clear hK) | (clear hK; clear hK; refine hK _ ?_; clear hK) | (clear hK; clear hK; clear hK; refine hK _ ?_; clear hK))
          refine ⟨by simp, ?_⟩
          simp [leaves_iff, Try.f16, prows_nil]
          try (first | omega | (refine decide_eq_decide.2 ?_; omega) | (refine decide_eq_false ?_; omega) | (refine decide_eq_true ?_; omega))
        · have a4 : 8 ≤ t := by omega
          repeat' (first | (apply aw_seq_k; intro K hK) | (refine aw_run hc (by first | exact aw_nod | (intro _; rw [ordB_w hw]; kernel_rfl) | (intro _; rw [ordB_w0 hw0]; kernel_rfl) | (intro _; kernel_rfl)) ?_; simp [List.zipIdx, h9', h0, a1, a2, a3, a4, -getM, getM_hit, getM_miss, getM_none]; (repeat (simp (disch := first | omega | assumption | fail) only [if_pos, if_neg, wrap64]; try simp [List.zipIdx, h9', h0, a1, a2, a3, a4, -getM, getM_hit, getM_miss, getM_none])); try (repeat' (refine guardQ_split (fun h => ?_) (fun h => ?_) <;> simp at h <;> (simp [List.zipIdx, h9', h0, a1, a2, a3, a4, -getM, getM_hit, getM_miss, getM_none]; (repeat (simp (disch := first | omega | assumption | fail) only [if_pos, if_neg, wrap64]; try simp [List.zipIdx, h9', h0, a1, a2, a3, a4, -getM, getM_hit, getM_miss, getM_none])))))) | (refine aw_cond (b := _) (by exact rfl) (fun h => ?_) (fun h => ?_) <;> (try simp at h)) | (refine aw_block ?_) | (refine aw_skip ?_; simp only [thenQ, blockQ, if_true]) | (refine aw_exit ?_; simp [thenQ, blockQ]) | (refine aw_ret ?_; simp only [thenQ, blockQ]) | (refine aw_round ?_) | (refine hK _ ?_; clear hK) | (clear hK; refine hK _ ?_; clear hK) | (clear hK; clear hK; refine hK _ ?_; clear hK) | (clear hK; clear hK; clear hK; refine hK _ ?_; clear hK))
          refine ⟨by simp, ?_⟩
          simp [leaves_iff, Try.f16, prows_nil]
          try (first | omega | (refine decide_eq_decide.2 ?_; omega) | (refine decide_eq_false ?_; omega) | (refine decide_eq_true ?_; omega))
    · rw [cpyR_s (by rw [← hcc]; exact h0) (fun h => hf h.1)]
      unfold spN at hf
      rcases Decidable.em (f < 0) with a3 | a3
      · repeat' (first | (apply aw_seq_k; intro K hK) | (refine aw_run hc (by first | exact aw_nod | (intro _; rw [ordB_w hw]; kernel_rfl) | (intro _; rw [ordB_w0 hw0]; kernel_rfl) | (intro _; kernel_rfl)) ?_; simp [List.zipIdx, h9', h0, a3, -getM, getM_hit, getM_miss, getM_none]; (repeat (simp (disch := first | omega | assumption | fail) only [if_pos, if_neg, wrap64]; try simp [List.zipIdx, h9', h0, a3, -getM, getM_hit, getM_miss, getM_none])); try (repeat' (refine guardQ_split (fun h => ?_) (fun h => ?_) <;> simp at h <;> (simp [List.zipIdx, h9', h0, a3, -getM, getM_hit, getM_miss, getM_none]; (repeat (simp (disch := first | omega | assumption | fail) only [if_pos, if_neg, wrap64]; try simp [List.zipIdx, h9', h0, a3, -getM, getM_hit, getM_miss, getM_none])))))) | (refine aw_cond (b := _) (by exact rfl) (fun h => ?_) (fun h => ?_) <;> (try simp at h)) | (refine aw_block ?_) | (refine aw_skip ?_; simp only [thenQ, blockQ, if_true]) | (refine aw_exit ?_; simp [thenQ, blockQ]) | (refine aw_ret ?_; simp only [thenQ, blockQ]) | (refine aw_round ?_) | (refine hK _ ?_; clear hK) | (clear hK; refine hK _ ?_; clear hK) | (clear hK; clear hK; refine hK _ ?_; clear hK) | (clear hK; clear hK; clear hK; refine hK _ ?_; clear hK))
        refine ⟨by simp, ?_⟩
        simp [leaves_iff, Try.f16, prows_nil]
        try (first | omega | (refine decide_eq_decide.2 ?_; omega) | (refine decide_eq_false ?_; omega) | (refine decide_eq_true ?_; omega))
      · have a4 : 8 ≤ f := by omega
        repeat' (first | (apply aw_seq_k; intro K hK) | (refine aw_run hc (by first | exact aw_nod | (intro _; rw [ordB_w hw]; kernel_rfl) | (intro _; rw [ordB_w0 hw0]; kernel_rfl) | (intro _; kernel_rfl)) ?_; simp [List.zipIdx, h9', h0, a3, a4, -getM, getM_hit, getM_miss, getM_none]; (repeat (simp (disch := first | omega | assumption | fail) only [if_pos, if_neg, wrap64]; try simp [List.zipIdx, h9', h0, a3, a4, -getM, getM_hit, getM_miss, getM_none])); try (repeat' (refine guardQ_split (fun h => ?_) (fun h => ?_) <;> simp at h <;> (simp [List.zipIdx, h9', h0, a3, a4, -getM, getM_hit, getM_miss, getM_none]; (repeat (simp (disch := first | omega | assumption | fail) only [if_pos, if_neg, wrap64]; try simp [List.zipIdx, h9', h0, a3, a4, -getM, getM_hit, getM_miss, getM_none])))))) | (refine aw_cond (b := _) (by exact rfl) (fun h => ?_) (fun h => ?_) <;> (try simp at h)) | (refine aw_block ?_) | (refine aw_skip ?_; simp only [thenQ, blockQ, if_true]) | (refine aw_exit ?_; simp [thenQ, blockQ]) | (refine aw_ret ?_; simp only [thenQ, blockQ]) | (refine aw_round ?_) | (refine hK _ ?_; clear hK) | (clear hK; refine hK _ ?_; clear hK) | (clear hK; clear hK; refine hK _ ?_; clear hK) | (clear hK; clear hK; clear hK; refine hK _ ?_; clear hK))
        refine ⟨by simp, ?_⟩
        simp [leaves_iff, Try.f16, prows_nil]
        try (first | omega | (refine decide_eq_decide.2 ?_; omega) | (refine decide_eq_false ?_; omega) | (refine decide_eq_true ?_; omega))
  · rw [cpyR_c (by rw [← hcc]; exact h0), ← hcc]
    repeat' (first | (apply aw_seq_k; intro K hK) | (refine aw_run hc (by first | exact aw_nod | (intro _; rw [ordB_w hw]; kernel_rfl) | (intro _; rw [ordB_w0 hw0]; kernel_rfl) | (intro _; kernel_rfl)) ?_; simp [List.zipIdx, h9', h0, -getM, getM_hit, getM_miss, getM_none]; (repeat (simp (disch := first | omega | assumption | fail) only [if_pos, if_neg, wrap64]; try simp [List.zipIdx, h9', h0, -getM, getM_hit, getM_miss, getM_none])); try (repeat' (refine guardQ_split (fun h => ?_) (fun h => ?_) <;> simp at h <;> (simp [List.zipIdx, h9', h0, -getM, getM_hit, getM_miss, getM_none]; (repeat (simp (disch := first | omega | assumption | fail) only [if_pos, if_neg, wrap64]; try simp [List.zipIdx, h9', h0, -getM, getM_hit, getM_miss, getM_none])))))) | (refine aw_cond (b := _) (by exact rfl) (fun h => ?_) (fun h => ?_) <;> (try simp at h)) | (refine aw_block ?_) | (refine aw_skip ?_; simp only [thenQ, blockQ, if_true]) | (refine aw_exit ?_; simp [thenQ, blockQ]) | (refine aw_ret ?_; simp only [thenQ, blockQ]) | (refine aw_round ?_) | (refine hK _ ?_; clear hK) | (clear hK; refine hK _ ?_; clear hK) | (clear hK; clear hK; refine hK _ ?_; clear hK) | (clear hK; clear hK; clear hK; refine hK _ ?_; clear hK))
    refine ⟨by simp, ?_⟩
    simp [leaves_iff, Try.f16, prows_nil]
    try (first | omega | (refine decide_eq_decide.2 ?_; omega) | (refine decide_eq_false ?_; omega) | (refine decide_eq_true ?_; omega))
end Go.AM
