/- Rmap: the reference's insert, Has, Same, Drop. -/
import Derived.Test.YtallcianhjejiaaRm3
set_option linter.all false

namespace Go.AM
open Go Go.Proofs

/-- Insertion ahead of the first that is greater. -/
def insR : List Mp → Mp → List Mp
  | [], m => [m]
  | x :: r, m => if ltM m x then m :: x :: r else x :: insR r m
def anyL (l : List Mp) (m : Mp) : Bool := l.any fun x => decide (ltM m x)
def insO (l : List Mp) (m : Mp) : List Mp := if anyL l m = true then insR l m else l
theorem anyL_snoc (l : List Mp) (m x : Mp) : anyL (l ++ [x]) m = (anyL l m || decide (ltM m x)) := by simp [anyL]
theorem insR_snoc (m x : Mp) : ∀ l : List Mp, insR (l ++ [x]) m = if anyL l m = true then insR l m ++ [x] else if ltM m x then l ++ [m] ++ [x] else l ++ [x] ++ [m]
  | [] => by
    simp only [List.nil_append, insR, anyL, List.any_nil, Bool.false_eq_true, if_false]
    split <;> rfl
  | y :: r => by
    have ih := insR_snoc m x r
    simp only [List.cons_append, insR]
    by_cases h : ltM m y
    · have : anyL (y :: r) m = true := by simp [anyL, h]
      rw [if_pos h, if_pos this, if_pos h]; rfl
    · have : anyL (y :: r) m = anyL r m := by simp [anyL, h]
      rw [if_neg h, this, if_neg h, ih]
      split
      · rfl
      · split <;> rfl
theorem insR_none {m : Mp} : ∀ {l : List Mp}, anyL l m = false → insR l m = l ++ [m]
  | [], _ => rfl
  | x :: r, h => by
    simp only [anyL, List.any_cons, Bool.or_eq_false_iff, decide_eq_false_iff_not] at h
    simp only [insR]
    rw [if_neg h.1, insR_none (by simpa [anyL] using h.2)]; rfl
theorem insO_snoc (l : List Mp) (m x : Mp) : insO (l ++ [x]) m = if anyL l m = true then insO l m ++ [x] else if ltM m x then insO l m ++ [m] ++ [x] else insO l m ++ [x] := by
  unfold insO
  rw [anyL_snoc, insR_snoc]
  by_cases h : anyL l m = true
  · simp [h]
  · by_cases h2 : ltM m x
    · simp [h, h2]
    · simp [h, h2]
theorem insR_length (m : Mp) : ∀ l : List Mp, (insR l m).length = l.length + 1
  | [] => rfl
  | x :: r => by
    simp only [insR]
    split
    · rfl
    · simp [insR_length m r]
theorem insO_length (l : List Mp) (m : Mp) : (insO l m).length ≤ l.length + 1 := by
  unfold insO
  split
  · rw [insR_length]; omega
  · omega
theorem pap (A : List Mp) (x y : Int) : prows A ++ [[I x, I y]] = prows (A ++ [(x, y)]) := by rw [← prows_append]; rfl
@[simp] theorem tkM (A : List Mp) : List.take A.length (prows A) = prows A := List.take_of_length_le (by simp)

theorem tkM1 (A : List Mp) (m : Mp) : List.take (A.length + 1) (prows (A ++ [m])) = prows (A ++ [m]) := List.take_of_length_le (by simp)

theorem s36 (X : AX) (hX : XOK Try.prog X) (hw : X.W wT)
    (h23 : ∀ a b c d M n, X.call 23 [.agg [I a, I b], .agg [I c, I d]] M n = some (B (decide (ltM (a, b) (c, d))), [])) :
    PSound Try.prog 36 (specF (ι := {x : List Mp × Mp // x.1.length ≤ 1000000}) (fun x => [.rd 2 (prows x.1.1), Mv x.1.2]) fun x => retOf [.ow 2 (prows (insR x.1.1 x.1.2))]) := by
  refine psound_spec hX mixed Try.func36 rfl fun ⟨⟨l, a, b⟩, hl⟩ w0 G => ⟨by show 2 ≤ 42; decide, rfl, ?_⟩
  show AW ⟨Try.prog, X, 42, w0, .pure G⟩ _ _ _
  have hc : Cx.OK ⟨Try.prog, X, 42, w0, .pure G⟩ := ⟨hX, mixed⟩
  simp only at hl ⊢
  unfold Mv
  simp only
  repeat' (first | (apply aw_seq_k; intro K hK) | (refine aw_run hc (by first | exact aw_nod | (intro _; rw [ordB_w hw]; kernel_rfl) | (intro _; rw [ordB_w0 hw0]; kernel_rfl) | (intro _; kernel_rfl)) ?_; simp [List.zipIdx, -getM, getM_hit, getM_miss, getM_none]; (repeat (simp (disch := first | omega | assumption | fail) only [if_pos, if_neg, wrap64]; try simp [List.zipIdx, -getM, getM_hit, getM_miss, getM_none])); try (repeat' (refine guardQ_split (fun h => ?_) (fun h => ?_) <;> simp at h <;> (simp [List.zipIdx, -getM, getM_hit, getM_miss, getM_none]; (repeat (simp (disch := first | omega | assumption | fail) only [if_pos, if_neg, wrap64]; try simp [List.zipIdx, -getM, getM_hit, getM_miss, getM_none])))))) | (refine aw_cond (b := _) (by exact rfl) (fun h => ?_) (fun h => ?_) <;> (try simp at h)) | (refine aw_block ?_) | (refine aw_skip ?_; simp only [thenQ, blockQ, if_true]) | (refine aw_exit ?_; simp [thenQ, blockQ]) | (refine aw_ret ?_; simp only [thenQ, blockQ]) | (refine aw_round ?_) | (refine hK _ ?_; clear hK) | (clear hK; refine hK _ ?_; clear hK) | (clear hK; clear hK; refine hK _ ?_; clear hK) | (clear hK; clear hK; clear hK; refine hK _ ?_; clear hK))
  refine aw_weaken (le_nilslot (t := 5) (sz := 2) (by simp)) ?_
  refine aw_loopK (s0 := ?lps1) (m0 := ?lpm1) (ι := {i : Nat // i ≤ l.length}) [0, 3] (fun i => [(7, I i.1), (6, B (anyL (l.take i.1) (a, b))), (5, .sl 80 1 2 0 (insO (l.take i.1) (a, b)).length)]) (fun i => [(80, .vec 1 2 false (prows (insO (l.take i.1) (a, b))))]) (fun i => l.length - i.1) ⟨0, by omega⟩ ?lhs1 ?lhm1 ?_ ?_
  case lhs1 => first | (simp [keepS]; done) | (simp [keepS]; rfl)
  case lhm1 => first | rfl | (simp; done) | (simp; rfl)
  · simp only [List.take_zero, anyL, insO, List.any_nil, Bool.false_eq_true, if_false, prows_nil, List.length_nil]
    exact le_of2 (by simp) (by simp [AVle, AV.under, AV.underL] <;> omega) (by simp [AOle, AO.under, AV.underL, AV.under] <;> omega)
  · rintro ⟨i, hi⟩
    simp only
    obtain ⟨O, hO⟩ : ∃ O, O = insO (l.take i) (a, b) := ⟨_, rfl⟩
    have hOl : O.length ≤ 1000001 := by
      have := insO_length (l.take i) (a, b)
      rw [← hO] at this
      rw [List.length_take] at this
      omega
    rcases Decidable.em (i < l.length) with hil | hil
    · have hilI : (i : Int) < (l.length : Int) := by omega
      have hg := prows_gi hil
      have hgE := prows_gE hil
      have hts := take_succ_gm hil
      have hins := insO_snoc (l.take i) (a, b) (gm l i)
      have hany := anyL_snoc (l.take i) (a, b) (gm l i)
      rw [← hts] at hins hany
      rw [← hO] at hins ⊢
      obtain ⟨⟨x, y⟩, hm⟩ : ∃ m, m = gm l i := ⟨_, rfl⟩
      rw [← hm] at hg hgE hins hany
      simp only at hg hgE
      cases hf : anyL (l.take i) (a, b) with
      | true =>
        simp only [hf, Bool.true_or, if_true] at hins hany
        repeat' (first | (apply aw_seq_k; intro K hK) | (refine aw_run hc (by first | exact aw_nod | (intro _; rw [ordB_w hw]; kernel_rfl) | (intro _; rw [ordB_w0 hw0]; kernel_rfl) | (intro _; kernel_rfl)) ?_; simp [List.zipIdx, hilI, hg, hgE, pap, hOl, tkM, -getM, getM_hit, getM_miss, getM_none]; (repeat (simp (disch := first | omega | assumption | fail) only [if_pos, if_neg, wrap64]; try simp [List.zipIdx, hilI, hg, hgE, pap, hOl, tkM, -getM, getM_hit, getM_miss, getM_none])); try (repeat' (refine guardQ_split (fun h => ?_) (fun h => ?_) <;> simp at h <;> (simp [List.zipIdx, hilI, hg, hgE, pap, hOl, tkM, -getM, getM_hit, getM_miss, getM_none]; (repeat (simp (disch := first | omega | assumption | fail) only [if_pos, if_neg, wrap64]; try simp [List.zipIdx, hilI, hg, hgE, pap, hOl, tkM, -getM, getM_hit, getM_miss, getM_none])))))) | (refine aw_cond (b := _) (by exact rfl) (fun h => ?_) (fun h => ?_) <;> (try simp at h)) | (refine aw_block ?_) | (refine aw_skip ?_; simp only [thenQ, blockQ, if_true]) | (refine aw_exit ?_; simp [thenQ, blockQ]) | (refine aw_ret ?_; simp only [thenQ, blockQ]) | (refine aw_round ?_) | (refine hK _ ?_; clear hK) | (clear hK; refine hK _ ?_; clear hK) | (clear hK; clear hK; refine hK _ ?_; clear hK) | (clear hK; clear hK; clear hK; refine hK _ ?_; clear hK))
        refine ⟨i + 1, ?_, by omega, by omega⟩
        simp only [hins, hany]
        refine le_turn (s1 := ?tus2) (m1 := ?tum2) [] [0, 3, 5, 6, 7] [0, 80] ?tua2 ?tub2 ?tuc2 ?tud2 ?tue2 ?tuf2 ?tug2
        case tua2 => first | (simp [keepS]; done) | (simp [keepS]; rfl)
        case tub2 => first | (simp; done) | (simp; rfl)
        case tuc2 => simp
        case tud2 => simp
        case tue2 => simp
        case tuf2 => simp
        case tug2 =>
          simp [swp, vr]
          exact le_of2 (by simp) (by simp [AVle, AV.under, AV.underL] <;> omega) (by simp [AOle, AO.under, AV.underL, AV.under] <;> omega)
      | false =>
        simp only [hf, Bool.false_or, Bool.false_eq_true, if_false] at hins hany
        rcases Decidable.em (ltM (a, b) (x, y)) with hv | hv
        · simp only [hv, if_true, decide_true] at hins hany
          repeat' (first | (apply aw_seq_k; intro K hK) | (refine aw_run hc (by first | exact aw_nod | (intro _; rw [ordB_w hw]; kernel_rfl) | (intro _; rw [ordB_w0 hw0]; kernel_rfl) | (intro _; kernel_rfl)) ?_; simp [List.zipIdx, hilI, hg, hgE, pap, hOl, tkM, tkM1, h23, hv, -getM, getM_hit, getM_miss, getM_none]; (repeat (simp (disch := first | omega | assumption | fail) only [if_pos, if_neg, wrap64]; try simp [List.zipIdx, hilI, hg, hgE, pap, hOl, tkM, tkM1, h23, hv, -getM, getM_hit, getM_miss, getM_none])); try (repeat' (refine guardQ_split (fun h => ?_) (fun h => ?_) <;> simp at h <;> (simp [List.zipIdx, hilI, hg, hgE, pap, hOl, tkM, tkM1, h23, hv, -getM, getM_hit, getM_miss, getM_none]; (repeat (simp (disch := first | omega | assumption | fail) only [if_pos, if_neg, wrap64]; try simp [List.zipIdx, hilI, hg, hgE, pap, hOl, tkM, tkM1, h23, hv, -getM, getM_hit, getM_miss, getM_none])))))) | (refine aw_cond (b := _) (by exact rfl) (fun h => ?_) (fun h => ?_) <;> (try simp at h)) | (refine aw_block ?_) | (refine aw_skip ?_; simp only [thenQ, blockQ, if_true]) | (refine aw_exit ?_; simp [thenQ, blockQ]) | (refine aw_ret ?_; simp only [thenQ, blockQ]) | (refine aw_round ?_) | (refine hK _ ?_; clear hK) | (clear hK; refine hK _ ?_; clear hK) | (clear hK; clear hK; refine hK _ ?_; clear hK) | (clear hK; clear hK; clear hK; refine hK _ ?_; clear hK))
          refine ⟨i + 1, ?_, by omega, by omega⟩
          simp only [hins, hany]
          refine le_turn (s1 := ?tus3) (m1 := ?tum3) [] [0, 3, 5, 6, 7] [0, 80] ?tua3 ?tub3 ?tuc3 ?tud3 ?tue3 ?tuf3 ?tug3
          case tua3 => first | (simp [keepS]; done) | (simp [keepS]; rfl)
          case tub3 => first | (simp; done) | (simp; rfl)
          case tuc3 => simp
          case tud3 => simp
          case tue3 => simp
          case tuf3 => simp
          case tug3 =>
            simp [swp, vr]
            exact le_of2 (by simp) (by simp [AVle, AV.under, AV.underL] <;> omega) (by simp [AOle, AO.under, AV.underL, AV.under] <;> omega)
        · simp only [hv, if_false, decide_false] at hins hany
          repeat' (first | (apply aw_seq_k; intro K hK) | (refine aw_run hc (by first | exact aw_nod | (intro _; rw [ordB_w hw]; kernel_rfl) | (intro _; rw [ordB_w0 hw0]; kernel_rfl) | (intro _; kernel_rfl)) ?_; simp [List.zipIdx, hilI, hg, hgE, pap, hOl, tkM, h23, hv, -getM, getM_hit, getM_miss, getM_none]; (repeat (simp (disch := first | omega | assumption | fail) only [if_pos, if_neg, wrap64]; try simp [List.zipIdx, hilI, hg, hgE, pap, hOl, tkM, h23, hv, -getM, getM_hit, getM_miss, getM_none])); try (repeat' (refine guardQ_split (fun h => ?_) (fun h => ?_) <;> simp at h <;> (simp [List.zipIdx, hilI, hg, hgE, pap, hOl, tkM, h23, hv, -getM, getM_hit, getM_miss, getM_none]; (repeat (simp (disch := first | omega | assumption | fail) only [if_pos, if_neg, wrap64]; try simp [List.zipIdx, hilI, hg, hgE, pap, hOl, tkM, h23, hv, -getM, getM_hit, getM_miss, getM_none])))))) | (refine aw_cond (b := _) (by exact rfl) (fun h => ?_) (fun h => ?_) <;> (try simp at h)) | (refine aw_block ?_) | (refine aw_skip ?_; simp only [thenQ, blockQ, if_true]) | (refine aw_exit ?_; simp [thenQ, blockQ]) | (refine aw_ret ?_; simp only [thenQ, blockQ]) | (refine aw_round ?_) | (refine hK _ ?_; clear hK) | (clear hK; refine hK _ ?_; clear hK) | (clear hK; clear hK; refine hK _ ?_; clear hK) | (clear hK; clear hK; clear hK; refine hK _ ?_; clear hK))
          refine ⟨i + 1, ?_, by omega, by omega⟩
          simp only [hins, hany]
          refine le_turn (s1 := ?tus4) (m1 := ?tum4) [] [0, 3, 5, 6, 7] [0, 80] ?tua4 ?tub4 ?tuc4 ?tud4 ?tue4 ?tuf4 ?tug4
          case tua4 => first | (simp [keepS]; done) | (simp [keepS]; rfl)
          case tub4 => first | (simp; done) | (simp; rfl)
          case tuc4 => simp
          case tud4 => simp
          case tue4 => simp
          case tuf4 => simp
          case tug4 =>
            simp [swp, vr]
            exact le_of2 (by simp) (by simp [AVle, AV.under, AV.underL] <;> omega) (by simp [AOle, AO.under, AV.underL, AV.under] <;> omega)
    · obtain rfl : i = l.length := by omega
      rw [List.take_length] at hO ⊢
      cases hf : anyL l (a, b) with
      | true =>
        have hR : insR l (a, b) = O := by rw [hO]; unfold insO; rw [if_pos hf]
        rw [← hO]
        repeat' (first | (apply aw_seq_k; intro K hK) | (refine aw_run hc (by first | exact aw_nod | (intro _; rw [ordB_w hw]; kernel_rfl) | (intro _; rw [ordB_w0 hw0]; kernel_rfl) | (intro _; kernel_rfl)) ?_; simp [List.zipIdx, hOl, tkM, -getM, getM_hit, getM_miss, getM_none]; (repeat (simp (disch := first | omega | assumption | fail) only [if_pos, if_neg, wrap64]; try simp [List.zipIdx, hOl, tkM, -getM, getM_hit, getM_miss, getM_none])); try (repeat' (refine guardQ_split (fun h => ?_) (fun h => ?_) <;> simp at h <;> (simp [List.zipIdx, hOl, tkM, -getM, getM_hit, getM_miss, getM_none]; (repeat (simp (disch := first | omega | assumption | fail) only [if_pos, if_neg, wrap64]; try simp [List.zipIdx, hOl, tkM, -getM, getM_hit, getM_miss, getM_none])))))) | (refine aw_cond (b := _) (by exact rfl) (fun h => ?_) (fun h => ?_) <;> (try simp at h)) | (refine aw_block ?_) | (refine aw_skip ?_; simp only [thenQ, blockQ, if_true]) | (refine aw_exit ?_; simp [thenQ, blockQ]) | (refine aw_ret ?_; simp only [thenQ, blockQ]) | (refine aw_round ?_) | (refine hK _ ?_; clear hK) | (clear hK; refine hK _ ?_; clear hK) | (clear hK; clear hK; refine hK _ ?_; clear hK) | (clear hK; clear hK; clear hK; refine hK _ ?_; clear hK))
        refine ⟨by simp, ?_⟩
        simp [leaves_iff, Try.f36]
        try (first | omega | (refine decide_eq_decide.2 ?_; omega) | (refine decide_eq_false ?_; omega) | (refine decide_eq_true ?_; omega))
        rw [hR]
      | false =>
        have hR : insR l (a, b) = O ++ [(a, b)] := by rw [hO]; unfold insO; rw [if_neg (by simp [hf]), insR_none hf]
        rw [← hO]
        repeat' (first | (apply aw_seq_k; intro K hK) | (refine aw_run hc (by first | exact aw_nod | (intro _; rw [ordB_w hw]; kernel_rfl) | (intro _; rw [ordB_w0 hw0]; kernel_rfl) | (intro _; kernel_rfl)) ?_; simp [List.zipIdx, hOl, tkM, pap, -getM, getM_hit, getM_miss, getM_none]; (repeat (simp (disch := first | omega | assumption | fail) only [if_pos, if_neg, wrap64]; try simp [List.zipIdx, hOl, tkM, pap, -getM, getM_hit, getM_miss, getM_none])); try (repeat' (refine guardQ_split (fun h => ?_) (fun h => ?_) <;> simp at h <;> (simp [List.zipIdx, hOl, tkM, pap, -getM, getM_hit, getM_miss, getM_none]; (repeat (simp (disch := first | omega | assumption | fail) only [if_pos, if_neg, wrap64]; try simp [List.zipIdx, hOl, tkM, pap, -getM, getM_hit, getM_miss, getM_none])))))) | (refine aw_cond (b := _) (by exact rfl) (fun h => ?_) (fun h => ?_) <;> (try simp at h)) | (refine aw_block ?_) | (refine aw_skip ?_; simp only [thenQ, blockQ, if_true]) | (refine aw_exit ?_; simp [thenQ, blockQ]) | (refine aw_ret ?_; simp only [thenQ, blockQ]) | (refine aw_round ?_) | (refine hK _ ?_; clear hK) | (clear hK; refine hK _ ?_; clear hK) | (clear hK; clear hK; refine hK _ ?_; clear hK) | (clear hK; clear hK; clear hK; refine hK _ ?_; clear hK))
        refine ⟨by simp, ?_⟩
        simp [leaves_iff, Try.f36]
        try (first | omega | (refine decide_eq_decide.2 ?_; omega) | (refine decide_eq_false ?_; omega) | (refine decide_eq_true ?_; omega))
        rw [hR, List.take_of_length_le (by simp)]

theorem s12 (X : AX) (hX : XOK Try.prog X) (hw : X.W wT) (he : X.eqs 24 = true) (h9 : ∀ l : List Mp, l.length ≤ 1000000 → ∀ M n, X.call 9 [.rd 2 (prows l)] M n = some (I (chk l), [])) :
    PSound Try.prog 12 (specF (ι := {x : List Mp × Mp // x.1.length ≤ 1000000}) (fun x => [.rd 2 (prows x.1.1), Mv x.1.2]) fun x => retOf [B (decide (chk x.1.1 = 0 ∧ x.1.2 ∈ x.1.1))]) := by
  refine psound_spec hX mixed Try.func12 rfl fun ⟨⟨l, a, b⟩, hl⟩ w0 G => ⟨by show 2 ≤ 21; decide, rfl, ?_⟩
  show AW ⟨Try.prog, X, 21, w0, .pure G⟩ _ _ _
  have hc : Cx.OK ⟨Try.prog, X, 21, w0, .pure G⟩ := ⟨hX, mixed⟩
  simp only at hl ⊢
  unfold Mv
  simp only
  have h9' := h9 l hl
  obtain ⟨c, hcc⟩ : ∃ c, c = chk l := ⟨_, rfl⟩
  rw [← hcc] at h9' ⊢
  rcases Decidable.em (c = 0) with h0 | h0
  · repeat' (first | (apply aw_seq_k; intro K hK) | (refine aw_run hc (by first | exact aw_nod | (intro _; rw [ordB_w hw]; kernel_rfl) | (intro _; rw [ordB_w0 hw0]; kernel_rfl) | (intro _; kernel_rfl)) ?_; simp [List.zipIdx, h9', h0, -getM, getM_hit, getM_miss, getM_none]; (repeat (simp (disch := first | omega | assumption | fail) only [if_pos, if_neg, wrap64]; try simp [List.zipIdx, h9', h0, -getM, getM_hit, getM_miss, getM_none])); try (repeat' (refine guardQ_split (fun h => ?_) (fun h => ?_) <;> simp at h <;> (simp [List.zipIdx, h9', h0, -getM, getM_hit, getM_miss, getM_none]; (repeat (simp (disch := first | omega | assumption | fail) only [if_pos, if_neg, wrap64]; try simp [List.zipIdx, h9', h0, -getM, getM_hit, getM_miss, getM_none])))))) | (refine aw_cond (b := _) (by exact rfl) (fun h => ?_) (fun h => ?_) <;> (try simp at h)) | (refine aw_block ?_) | (refine aw_skip ?_; simp only [thenQ, blockQ, if_true]) | (refine aw_exit ?_; simp [thenQ, blockQ]) | (refine aw_ret ?_; simp only [thenQ, blockQ]) | (refine aw_round ?_) | (refine hK _ ?_; clear hK) | (clear hK; refine hK _ ?_; clear hK) | (clear hK; clear hK; refine hK _ ?_; clear hK) | (clear hK; clear hK; clear hK; refine hK _ ?_; clear hK))
    refine aw_loopK (s0 := ?lps5) (m0 := ?lpm5) (ι := {i : Nat // i ≤ l.length ∧ ∀ j, j < i → gm l j ≠ (a, b)}) [0, 3] (fun i => [(5, I i.1)]) (fun _ => []) (fun i => l.length - i.1) ⟨0, by omega, by omega⟩ ?lhs5 ?lhm5 ?_ ?_
    case lhs5 => first | (simp [keepS]; done) | (simp [keepS]; rfl)
    case lhm5 => first | rfl | (simp; done) | (simp; rfl)
    · exact le_of2 (by simp) (by simp [AVle, AV.under, AV.underL] <;> omega) (by simp [AOle, AO.under, AV.underL, AV.under] <;> omega)
    · rintro ⟨i, hi, hinv⟩
      simp only
      rcases Decidable.em (i < l.length) with hil | hil
      · have hilI : (i : Int) < (l.length : Int) := by omega
        have hg := prows_gi hil
        have hgE := prows_gE hil
        obtain ⟨⟨x, y⟩, hm⟩ : ∃ m, m = gm l i := ⟨_, rfl⟩
        rw [← hm] at hg hgE
        simp only at hg hgE
        rcases Decidable.em (x = a ∧ y = b) with hv | hv
        · have hmem : (a, b) ∈ l := by
            have := gm_mem hil
            rw [← hm, hv.1, hv.2] at this
            exact this
          repeat' (first | (apply aw_seq_k; intro K hK) | (refine aw_run hc (by first | exact aw_nod | (intro _; rw [ordB_w hw]; kernel_rfl) | (intro _; rw [ordB_w0 hw0]; kernel_rfl) | (intro _; kernel_rfl)) ?_; simp [List.zipIdx, hilI, hg, hgE, hv.1, hv.2, he, eqL, -getM, getM_hit, getM_miss, getM_none]; (repeat (simp (disch := first | omega | assumption | fail) only [if_pos, if_neg, wrap64]; try simp [List.zipIdx, hilI, hg, hgE, hv.1, hv.2, he, eqL, -getM, getM_hit, getM_miss, getM_none])); try (repeat' (refine guardQ_split (fun h => ?_) (fun h => ?_) <;> simp at h <;> (simp [List.zipIdx, hilI, hg, hgE, hv.1, hv.2, he, eqL, -getM, getM_hit, getM_miss, getM_none]; (repeat (simp (disch := first | omega | assumption | fail) only [if_pos, if_neg, wrap64]; try simp [List.zipIdx, hilI, hg, hgE, hv.1, hv.2, he, eqL, -getM, getM_hit, getM_miss, getM_none])))))) | (refine aw_cond (b := _) (by exact rfl) (fun h => ?_) (fun h => ?_) <;> (try simp at h)) | (refine aw_block ?_) | (refine aw_skip ?_; simp only [thenQ, blockQ, if_true]) | (refine aw_exit ?_; simp [thenQ, blockQ]) | (refine aw_ret ?_; simp only [thenQ, blockQ]) | (refine aw_round ?_) | (refine hK _ ?_; clear hK) | (clear hK; refine hK _ ?_; clear hK) | (clear hK; clear hK; refine hK _ ?_; clear hK) | (clear hK; clear hK; clear hK; refine hK _ ?_; clear hK))
          refine ⟨by simp, ?_⟩
          simp [leaves_iff, Try.f12, h0, hmem]
          try (first | omega | (refine decide_eq_decide.2 ?_; omega) | (refine decide_eq_false ?_; omega) | (refine decide_eq_true ?_; omega))
        · have hv' : (decide (x = a) && decide (y = b)) = false := by simpa using hv
          repeat' (first | (apply aw_seq_k; intro K hK) | (refine aw_run hc (by first | exact aw_nod | (intro _; rw [ordB_w hw]; kernel_rfl) | (intro _; rw [ordB_w0 hw0]; kernel_rfl) | (intro _; kernel_rfl)) ?_; simp [List.zipIdx, hilI, hg, hgE, hv', he, eqL, -getM, getM_hit, getM_miss, getM_none]; (repeat (simp (disch := first | omega | assumption | fail) only [if_pos, if_neg, wrap64]; try simp [List.zipIdx, hilI, hg, hgE, hv', he, eqL, -getM, getM_hit, getM_miss, getM_none])); try (repeat' (refine guardQ_split (fun h => ?_) (fun h => ?_) <;> simp at h <;> (simp [List.zipIdx, hilI, hg, hgE, hv', he, eqL, -getM, getM_hit, getM_miss, getM_none]; (repeat (simp (disch := first | omega | assumption | fail) only [if_pos, if_neg, wrap64]; try simp [List.zipIdx, hilI, hg, hgE, hv', he, eqL, -getM, getM_hit, getM_miss, getM_none])))))) | (refine aw_cond (b := _) (by exact rfl) (fun h => ?_) (fun h => ?_) <;> (try simp at h)) | (refine aw_block ?_) | (refine aw_skip ?_; simp only [thenQ, blockQ, if_true]) | (refine aw_exit ?_; simp [thenQ, blockQ]) | (refine aw_ret ?_; simp only [thenQ, blockQ]) | (refine aw_round ?_) | (refine hK _ ?_; clear hK) | (clear hK; refine hK _ ?_; clear hK) | (clear hK; clear hK; refine hK _ ?_; clear hK) | (clear hK; clear hK; clear hK; refine hK _ ?_; clear hK))
          refine ⟨i + 1, ?_, ⟨by omega, fun j hj => ?_⟩, by omega⟩
          · exact le_of2 (by simp) (by simp [AVle, AV.under, AV.underL] <;> omega) (by simp [AOle, AO.under, AV.underL, AV.under] <;> omega)
          · rcases Nat.lt_succ_iff_lt_or_eq.1 hj with h | rfl
            · exact hinv j h
            · rw [← hm]; intro e; exact hv (by simpa using e)
      · obtain rfl : i = l.length := by omega
        have hmem : (a, b) ∉ l := fun h => by
          obtain ⟨j, hj, e⟩ := List.getElem_of_mem h
          exact hinv j hj (by rw [gm_eq hj, e])
        repeat' (first | (apply aw_seq_k; intro K hK) | (refine aw_run hc (by first | exact aw_nod | (intro _; rw [ordB_w hw]; kernel_rfl) | (intro _; rw [ordB_w0 hw0]; kernel_rfl) | (intro _; kernel_rfl)) ?_; simp [List.zipIdx, -getM, getM_hit, getM_miss, getM_none]; (repeat (simp (disch := first | omega | assumption | fail) only [if_pos, if_neg, wrap64]; try simp [List.zipIdx, -getM, getM_hit, getM_miss, getM_none])); try (repeat' (refine guardQ_split (fun h => ?_) (fun h => ?_) <;> simp at h <;> (simp [List.zipIdx, -getM, getM_hit, getM_miss, getM_none]; (repeat (simp (disch := first | omega | assumption | fail) only [if_pos, if_neg, wrap64]; try simp [List.zipIdx, -getM, getM_hit, getM_miss, getM_none])))))) | (refine aw_cond (b := _) (by exact rfl) (fun h => ?_) (fun h => ?_) <;> (try simp at h)) | (refine aw_block ?_) | (refine aw_skip ?_; simp only [thenQ, blockQ, if_true]) | (refine aw_exit ?_; simp [thenQ, blockQ]) | (refine aw_ret ?_; simp only [thenQ, blockQ]) | (refine aw_round ?_) | (refine hK _ ?_; clear hK) | (clear hK; refine hK _ ?_; clear hK) | (clear hK; clear hK; refine hK _ ?_; clear hK) | (clear hK; clear hK; clear hK; refine hK _ ?_; clear hK))
        refine ⟨by simp, ?_⟩
        simp [leaves_iff, Try.f12, h0, hmem]
        try (first | omega | (refine decide_eq_decide.2 ?_; omega) | (refine decide_eq_false ?_; omega) | (refine decide_eq_true ?_; omega))
  · repeat' (first | (apply aw_seq_k; intro K hK) | (refine aw_run hc (by first | exact aw_nod | (intro _; rw [ordB_w hw]; kernel_rfl) | (intro _; rw [ordB_w0 hw0]; kernel_rfl) | (intro _; kernel_rfl)) ?_; simp [List.zipIdx, h9', h0, -getM, getM_hit, getM_miss, getM_none]; (repeat (simp (disch := first | omega | assumption | fail) only [if_pos, if_neg, wrap64]; try simp [List.zipIdx, h9', h0, -getM, getM_hit, getM_miss, getM_none])); try (repeat' (refine guardQ_split (fun h => ?_) (fun h => ?_) <;> simp at h <;> (simp [List.zipIdx, h9', h0, -getM, getM_hit, getM_miss, getM_none]; (repeat (simp (disch := first | omega | assumption | fail) only [if_pos, if_neg, wrap64]; try simp [List.zipIdx, h9', h0, -getM, getM_hit, getM_miss, getM_none])))))) | (refine aw_cond (b := _) (by exact rfl) (fun h => ?_) (fun h => ?_) <;> (try simp at h)) | (refine aw_block ?_) | (refine aw_skip ?_; simp only [thenQ, blockQ, if_true]) | (refine aw_exit ?_; simp [thenQ, blockQ]) | (refine aw_ret ?_; simp only [thenQ, blockQ]) | (refine aw_round ?_) | (refine hK _ ?_; clear hK) | (clear hK; refine hK _ ?_; clear hK) | (clear hK; clear hK; refine hK _ ?_; clear hK) | (clear hK; clear hK; clear hK; refine hK _ ?_; clear hK))
    refine ⟨by simp, ?_⟩
    simp [leaves_iff, Try.f12, h0]
    try (first | omega | (refine decide_eq_decide.2 ?_; omega) | (refine decide_eq_false ?_; omega) | (refine decide_eq_true ?_; omega))
theorem s17 (X : AX) (hX : XOK Try.prog X) (hw : X.W wT) (he : X.eqs 24 = true) :
    PSound Try.prog 17 (specF (ι := {x : List Mp × List Mp // x.1.length ≤ 1000000 ∧ x.2.length ≤ 1000000}) (fun x => [.rd 2 (prows x.1.1), .rd 2 (prows x.1.2)]) fun x => retOf [B (decide (x.1.1 = x.1.2))]) := by
  refine psound_spec hX mixed Try.func17 rfl fun ⟨⟨l, k⟩, hl, hk⟩ w0 G => ⟨by show 2 ≤ 26; decide, rfl, ?_⟩
  show AW ⟨Try.prog, X, 26, w0, .pure G⟩ _ _ _
  have hc : Cx.OK ⟨Try.prog, X, 26, w0, .pure G⟩ := ⟨hX, mixed⟩
  simp only at hl hk ⊢
  rcases Decidable.em ((l.length : Int) = (k.length : Int)) with h0 | h0
  · repeat' (first | (apply aw_seq_k; intro K hK) | (refine aw_run hc (by first | exact aw_nod | (intro _; rw [ordB_w hw]; kernel_rfl) | (intro _; rw [ordB_w0 hw0]; kernel_rfl) | (intro _; kernel_rfl)) ?_; simp [List.zipIdx, h0, -getM, getM_hit, getM_miss, getM_none]; (repeat (simp (disch := first | omega | assumption | fail) only [if_pos, if_neg, wrap64]; try simp [List.zipIdx, h0, -getM, getM_hit, getM_miss, getM_none])); try (repeat' (refine guardQ_split (fun h => ?_) (fun h => ?_) <;> simp at h <;> (simp [List.zipIdx, h0, -getM, getM_hit, getM_miss, getM_none]; (repeat (simp (disch := first | omega | assumption | fail) only [if_pos, if_neg, wrap64]; try simp [List.zipIdx, h0, -getM, getM_hit, getM_miss, getM_none])))))) | (refine aw_cond (b := _) (by exact rfl) (fun h => ?_) (fun h => ?_) <;> (try simp at h)) | (refine aw_block ?_) | (refine aw_skip ?_; simp only [thenQ, blockQ, if_true]) | (refine aw_exit ?_; simp [thenQ, blockQ]) | (refine aw_ret ?_; simp only [thenQ, blockQ]) | (refine aw_round ?_) | (refine hK _ ?_; clear hK) | (clear hK; refine hK _ ?_; clear hK) | (clear hK; clear hK; refine hK _ ?_; clear hK) | (clear hK; clear hK; clear hK; refine hK _ ?_; clear hK))
    refine aw_loopK (s0 := ?lps6) (m0 := ?lpm6) (ι := {i : Nat // i ≤ l.length ∧ ∀ j, j < i → gm l j = gm k j}) [0, 1] (fun i => [(5, I i.1)]) (fun _ => []) (fun i => l.length - i.1) ⟨0, by omega, by omega⟩ ?lhs6 ?lhm6 ?_ ?_
    case lhs6 => first | (simp [keepS]; done) | (simp [keepS]; rfl)
    case lhm6 => first | rfl | (simp; done) | (simp; rfl)
    · exact le_of2 (by simp) (by simp [AVle, AV.under, AV.underL] <;> omega) (by simp [AOle, AO.under, AV.underL, AV.under] <;> omega)
    · rintro ⟨i, hi, hinv⟩
      simp only
      rcases Decidable.em (i < l.length) with hil | hil
      · have hilI : (i : Int) < (l.length : Int) := by omega
        have hik : i < k.length := by omega
        have hikI : (i : Int) < (k.length : Int) := by omega
        have hg := prows_gi hil
        have hgE := prows_gE hil
        have hg2 := prows_gi hik
        have hg2E := prows_gE hik
        obtain ⟨⟨x, y⟩, hm⟩ : ∃ m, m = gm l i := ⟨_, rfl⟩
        obtain ⟨⟨u, v⟩, hn⟩ : ∃ m, m = gm k i := ⟨_, rfl⟩
        rw [← hm] at hg hgE
        rw [← hn] at hg2 hg2E
        simp only at hg hgE hg2 hg2E
        rcases Decidable.em (x = u ∧ y = v) with hv | hv
        · repeat' (first | (apply aw_seq_k; intro K hK) | (refine aw_run hc (by first | exact aw_nod | (intro _; rw [ordB_w hw]; kernel_rfl) | (intro _; rw [ordB_w0 hw0]; kernel_rfl) | (intro _; kernel_rfl)) ?_; simp [List.zipIdx, hilI, hikI, hg, hgE, hg2, hg2E, hv.1, hv.2, he, eqL, -getM, getM_hit, getM_miss, getM_none]; (repeat (simp (disch := first | omega | assumption | fail) only [if_pos, if_neg, wrap64]; try simp [List.zipIdx, hilI, hikI, hg, hgE, hg2, hg2E, hv.1, hv.2, he, eqL, -getM, getM_hit, getM_miss, getM_none])); try (repeat' (refine guardQ_split (fun h => ?_) (fun h => ?_) <;> simp at h <;> (simp [List.zipIdx, hilI, hikI, hg, hgE, hg2, hg2E, hv.1, hv.2, he, eqL, -getM, getM_hit, getM_miss, getM_none]; (repeat (simp (disch := first | omega | assumption | fail) only [if_pos, if_neg, wrap64]; try simp [List.zipIdx, hilI, hikI, hg, hgE, hg2, hg2E, hv.1, hv.2, he, eqL, -getM, getM_hit, getM_miss, getM_none])))))) | (refine aw_cond (b := _) (by exact rfl) (fun h => ?_) (fun h => ?_) <;> (try simp at h)) | (refine aw_block ?_) | (refine aw_skip ?_; simp only [thenQ, blockQ, if_true]) | (refine aw_exit ?_; simp [thenQ, blockQ]) | (refine aw_ret ?_; simp only [thenQ, blockQ]) | (refine aw_round ?_) | (refine hK _ ?_; clear hK) | (clear hK; refine hK _ ?_; clear hK) | (clear hK; clear hK; refine hK _ ?_; clear hK) | (clear hK; clear hK; clear hK; refine hK _ ?_; clear hK))
          refine ⟨i + 1, ?_, ⟨by omega, fun j hj => ?_⟩, by omega⟩
          · exact le_of2 (by simp) (by simp [AVle, AV.under, AV.underL] <;> omega) (by simp [AOle, AO.under, AV.underL, AV.under] <;> omega)
          · rcases Nat.lt_succ_iff_lt_or_eq.1 hj with h | rfl
            · exact hinv j h
            · rw [← hm, ← hn, hv.1, hv.2]
        · have hv' : (decide (x = u) && decide (y = v)) = false := by simpa using hv
          have hne : ¬ l = k := fun e => hv (by rw [e, ← hn] at hm; simpa using hm)
          repeat' (first | (apply aw_seq_k; intro K hK) | (refine aw_run hc (by first | exact aw_nod | (intro _; rw [ordB_w hw]; kernel_rfl) | (intro _; rw [ordB_w0 hw0]; kernel_rfl) | (intro _; kernel_rfl)) ?_; simp [List.zipIdx, hilI, hikI, hg, hgE, hg2, hg2E, hv', he, eqL, -getM, getM_hit, getM_miss, getM_none]; (repeat (simp (disch := first | omega | assumption | fail) only [if_pos, if_neg, wrap64]; try simp [List.zipIdx, hilI, hikI, hg, hgE, hg2, hg2E, hv', he, eqL, -getM, getM_hit, getM_miss, getM_none])); try (repeat' (refine guardQ_split (fun h => ?_) (fun h => ?_) <;> simp at h <;> (simp [List.zipIdx, hilI, hikI, hg, hgE, hg2, hg2E, hv', he, eqL, -getM, getM_hit, getM_miss, getM_none]; (repeat (simp (disch := first | omega | assumption | fail) only [if_pos, if_neg, wrap64]; try simp [List.zipIdx, hilI, hikI, hg, hgE, hg2, hg2E, hv', he, eqL, -getM, getM_hit, getM_miss, getM_none])))))) | (refine aw_cond (b := _) (by exact rfl) (fun h => ?_) (fun h => ?_) <;> (try simp at h)) | (refine aw_block ?_) | (refine aw_skip ?_; simp only [thenQ, blockQ, if_true]) | (refine aw_exit ?_; simp [thenQ, blockQ]) | (refine aw_ret ?_; simp only [thenQ, blockQ]) | (refine aw_round ?_) | (refine hK _ ?_; clear hK) | (clear hK; refine hK _ ?_; clear hK) | (clear hK; clear hK; refine hK _ ?_; clear hK) | (clear hK; clear hK; clear hK; refine hK _ ?_; clear hK))
          refine ⟨by simp, ?_⟩
          simp [leaves_iff, Try.f17, hne]
          try (first | omega | (refine decide_eq_decide.2 ?_; omega) | (refine decide_eq_false ?_; omega) | (refine decide_eq_true ?_; omega))
      · obtain rfl : i = l.length := by omega
        have heq : l = k := List.ext_getElem (by omega) fun j h1 h2 => by
          have := hinv j h1
          rw [gm_eq h1, gm_eq h2] at this
          exact this
        repeat' (first | (apply aw_seq_k; intro K hK) | (refine aw_run hc (by first | exact aw_nod | (intro _; rw [ordB_w hw]; kernel_rfl) | (intro _; rw [ordB_w0 hw0]; kernel_rfl) | (intro _; kernel_rfl)) ?_; simp [List.zipIdx, -getM, getM_hit, getM_miss, getM_none]; (repeat (simp (disch := first | omega | assumption | fail) only [if_pos, if_neg, wrap64]; try simp [List.zipIdx, -getM, getM_hit, getM_miss, getM_none])); try (repeat' (refine guardQ_split (fun h => ?_) (fun h => ?_) <;> simp at h <;> (simp [List.zipIdx, -getM, getM_hit, getM_miss, getM_none]; (repeat (simp (disch := first | omega | assumption | fail) only [if_pos, if_neg, wrap64]; try simp [List.zipIdx, -getM, getM_hit, getM_miss, getM_none])))))) | (refine aw_cond (b := _) (by exact rfl) (fun h => ?_) (fun h => ?_) <;> (try simp at h)) | (refine aw_block ?_) | (refine aw_skip ?_; simp only [thenQ, blockQ, if_true]) | (refine aw_exit ?_; simp [thenQ, blockQ]) | (refine aw_ret ?_; simp only [thenQ, blockQ]) | (refine aw_round ?_) | (refine hK _ ?_; clear hK) | (clear hK; refine hK _ ?_; clear hK) | (clear hK; clear hK; refine hK _ ?_; clear hK) | (clear hK; clear hK; clear hK; refine hK _ ?_; clear hK))
        refine ⟨by simp, ?_⟩
        simp [leaves_iff, Try.f17, heq]
        try (first | omega | (refine decide_eq_decide.2 ?_; omega) | (refine decide_eq_false ?_; omega) | (refine decide_eq_true ?_; omega))
  · have hne : ¬ l = k := fun e => h0 (by rw [e])
    repeat' (first | (apply aw_seq_k; intro K hK) | (refine aw_run hc (by first | exact aw_nod | (intro _; rw [ordB_w hw]; kernel_rfl) | (intro _; rw [ordB_w0 hw0]; kernel_rfl) | (intro _; kernel_rfl)) ?_; simp [List.zipIdx, h0, -getM, getM_hit, getM_miss, getM_none]; (repeat (simp (disch := first | omega | assumption | fail) only [if_pos, if_neg, wrap64]; try simp [List.zipIdx, h0, -getM, getM_hit, getM_miss, getM_none])); try (repeat' (refine guardQ_split (fun h => ?_) (fun h => ?_) <;> simp at h <;> (simp [List.zipIdx, h0, -getM, getM_hit, getM_miss, getM_none]; (repeat (simp (disch := first | omega | assumption | fail) only [if_pos, if_neg, wrap64]; try simp [List.zipIdx, h0, -getM, getM_hit, getM_miss, getM_none])))))) | (refine aw_cond (b := _) (by exact rfl) (fun h => ?_) (fun h => ?_) <;> (try simp at h)) | (refine aw_block ?_) | (refine aw_skip ?_; simp only [thenQ, blockQ, if_true]) | (refine aw_exit ?_; simp [thenQ, blockQ]) | (refine aw_ret ?_; simp only [thenQ, blockQ]) | (refine aw_round ?_) | (refine hK _ ?_; clear hK) | (clear hK; refine hK _ ?_; clear hK) | (clear hK; clear hK; refine hK _ ?_; clear hK) | (clear hK; clear hK; clear hK; refine hK _ ?_; clear hK))
    refine ⟨by simp, ?_⟩
    simp [leaves_iff, Try.f17, hne]
    try (first | omega | (refine decide_eq_decide.2 ?_; omega) | (refine decide_eq_false ?_; omega) | (refine decide_eq_true ?_; omega))

/-- Without those of a space. -/
def dropM (l : List Mp) (s : Int) : List Mp := l.filter fun m => !decide (m.1 = s)
theorem dropM_snoc (l : List Mp) (s : Int) (m : Mp) : dropM (l ++ [m]) s = if m.1 = s then dropM l s else dropM l s ++ [m] := by
  unfold dropM
  rw [List.filter_append]
  by_cases h : m.1 = s <;> simp [h]
theorem dropM_len (l : List Mp) (s : Int) : (dropM l s).length ≤ l.length := List.length_filter_le _ _
noncomputable def dropR (l : List Mp) (s : Int) : List Mp := if chk l = 0 then dropM l s else []

theorem s18 (X : AX) (hX : XOK Try.prog X) (hw : X.W wT) (h9 : ∀ l : List Mp, l.length ≤ 1000000 → ∀ M n, X.call 9 [.rd 2 (prows l)] M n = some (I (chk l), [])) :
    PSound Try.prog 18 (specF (ι := {x : List Mp × Int // x.1.length ≤ 1000000}) (fun x => [.rd 2 (prows x.1.1), I x.1.2]) fun x => retOf [.ow 2 (prows (dropR x.1.1 x.1.2))]) := by
  refine psound_spec hX mixed Try.func18 rfl fun ⟨⟨l, s⟩, hl⟩ w0 G => ⟨by show 2 ≤ 32; decide, rfl, ?_⟩
  show AW ⟨Try.prog, X, 32, w0, .pure G⟩ _ _ _
  have hc : Cx.OK ⟨Try.prog, X, 32, w0, .pure G⟩ := ⟨hX, mixed⟩
  simp only at hl ⊢
  have h9' := h9 l hl
  unfold dropR
  obtain ⟨c, hcc⟩ : ∃ c, c = chk l := ⟨_, rfl⟩
  rw [← hcc] at h9' ⊢
  rcases Decidable.em (c = 0) with h0 | h0
  · rw [if_pos h0]
    repeat' (first | (apply aw_seq_k; intro K hK) | (refine aw_run hc (by first | exact aw_nod | (intro _; rw [ordB_w hw]; kernel_rfl) | (intro _; rw [ordB_w0 hw0]; kernel_rfl) | (intro _; kernel_rfl)) ?_; simp [List.zipIdx, h9', h0, -getM, getM_hit, getM_miss, getM_none]; (repeat (simp (disch := first | omega | assumption | fail) only [if_pos, if_neg, wrap64]; try simp [List.zipIdx, h9', h0, -getM, getM_hit, getM_miss, getM_none])); try (repeat' (refine guardQ_split (fun h => ?_) (fun h => ?_) <;> simp at h <;> (simp [List.zipIdx, h9', h0, -getM, getM_hit, getM_miss, getM_none]; (repeat (simp (disch := first | omega | assumption | fail) only [if_pos, if_neg, wrap64]; try simp [List.zipIdx, h9', h0, -getM, getM_hit, getM_miss, getM_none])))))) | (refine aw_cond (b := _) (by exact rfl) (fun h => ?_) (fun h => ?_) <;> (try simp at h)) | (refine aw_block ?_) | (refine aw_skip ?_; simp only [thenQ, blockQ, if_true]) | (refine aw_exit ?_; simp [thenQ, blockQ]) | (refine aw_ret ?_; simp only [thenQ, blockQ]) | (refine aw_round ?_) | (refine hK _ ?_; clear hK) | (clear hK; refine hK _ ?_; clear hK) | (clear hK; clear hK; refine hK _ ?_; clear hK) | (clear hK; clear hK; clear hK; refine hK _ ?_; clear hK))
    refine aw_weaken (le_nilslot (t := 5) (sz := 2) (by simp)) ?_
    refine aw_loopK (s0 := ?lps7) (m0 := ?lpm7) (ι := {i : Nat // i ≤ l.length}) [0, 1] (fun i => [(6, I i.1), (5, .sl 96 1 2 0 (dropM (l.take i.1) s).length)]) (fun i => [(96, .vec 1 2 false (prows (dropM (l.take i.1) s)))]) (fun i => l.length - i.1) ⟨0, by omega⟩ ?lhs7 ?lhm7 ?_ ?_
    case lhs7 => first | (simp [keepS]; done) | (simp [keepS]; rfl)
    case lhm7 => first | rfl | (simp; done) | (simp; rfl)
    · simp only [List.take_zero, dropM, List.filter_nil, prows_nil, List.length_nil]
      exact le_of2 (by simp) (by simp [AVle, AV.under, AV.underL] <;> omega) (by simp [AOle, AO.under, AV.underL, AV.under] <;> omega)
    · rintro ⟨i, hi⟩
      simp only
      obtain ⟨O, hO⟩ : ∃ O, O = dropM (l.take i) s := ⟨_, rfl⟩
      have hOl : O.length ≤ 1000000 := by
        have := dropM_len (l.take i) s
        rw [← hO] at this
        rw [List.length_take] at this
        omega
      rcases Decidable.em (i < l.length) with hil | hil
      · have hilI : (i : Int) < (l.length : Int) := by omega
        have hg := prows_gi hil
        have hgE := prows_gE hil
        have hins := dropM_snoc (l.take i) s (gm l i)
        rw [← take_succ_gm hil, ← hO] at hins
        rw [← hO]
        obtain ⟨⟨x, y⟩, hm⟩ : ∃ m, m = gm l i := ⟨_, rfl⟩
        rw [← hm] at hg hgE hins
        simp only at hg hgE hins
        rcases Decidable.em (x = s) with hv | hv
        · rw [if_pos hv] at hins
          repeat' (first | (apply aw_seq_k; intro K hK) | (refine aw_run hc (by first | exact aw_nod | (intro _; rw [ordB_w hw]; kernel_rfl) | (intro _; rw [ordB_w0 hw0]; kernel_rfl) | (intro _; kernel_rfl)) ?_; simp [List.zipIdx, hilI, hg, hgE, pap, hOl, tkM, hv, -getM, getM_hit, getM_miss, getM_none]; (repeat (simp (disch := first | omega | assumption | fail) only [if_pos, if_neg, wrap64]; try simp [List.zipIdx, hilI, hg, hgE, pap, hOl, tkM, hv, -getM, getM_hit, getM_miss, getM_none])); try (repeat' (refine guardQ_split (fun h => ?_) (fun h => ?_) <;> simp at h <;> (simp [List.zipIdx, hilI, hg, hgE, pap, hOl, tkM, hv, -getM, getM_hit, getM_miss, getM_none]; (repeat (simp (disch := first | omega | assumption | fail) only [if_pos, if_neg, wrap64]; try simp [List.zipIdx, hilI, hg, hgE, pap, hOl, tkM, hv, -getM, getM_hit, getM_miss, getM_none])))))) | (refine aw_cond (b := _) (by exact rfl) (fun h => ?_) (fun h => ?_) <;> (try simp at h)) | (refine aw_block ?_) | (refine aw_skip ?_; simp only [thenQ, blockQ, if_true]) | (refine aw_exit ?_; simp [thenQ, blockQ]) | (refine aw_ret ?_; simp only [thenQ, blockQ]) | (refine aw_round ?_) | (refine hK _ ?_; clear hK) | (clear hK; refine hK _ ?_; clear hK) | (clear hK; clear hK; refine hK _ ?_; clear hK) | (clear hK; clear hK; clear hK; refine hK _ ?_; clear hK))
          refine ⟨i + 1, ?_, by omega, by omega⟩
          simp only [hins]
          refine le_turn (s1 := ?tus8) (m1 := ?tum8) [] [0, 1, 5, 6] [96] ?tua8 ?tub8 ?tuc8 ?tud8 ?tue8 ?tuf8 ?tug8
          case tua8 => first | (simp [keepS]; done) | (simp [keepS]; rfl)
          case tub8 => first | (simp; done) | (simp; rfl)
          case tuc8 => simp
          case tud8 => simp
          case tue8 => simp
          case tuf8 => simp
          case tug8 =>
            simp [swp, vr]
            exact le_of2 (by simp) (by simp [AVle, AV.under, AV.underL] <;> omega) (by simp [AOle, AO.under, AV.underL, AV.under] <;> omega)
        · rw [if_neg hv] at hins
          repeat' (first | (apply aw_seq_k; intro K hK) | (refine aw_run hc (by first | exact aw_nod | (intro _; rw [ordB_w hw]; kernel_rfl) | (intro _; rw [ordB_w0 hw0]; kernel_rfl) | (intro _; kernel_rfl)) ?_; simp [List.zipIdx, hilI, hg, hgE, pap, hOl, tkM, hv, -getM, getM_hit, getM_miss, getM_none]; (repeat (simp (disch := first | omega | assumption | fail) only [if_pos, if_neg, wrap64]; try simp [List.zipIdx, hilI, hg, hgE, pap, hOl, tkM, hv, -getM, getM_hit, getM_miss, getM_none])); try (repeat' (refine guardQ_split (fun h => ?_) (fun h => ?_) <;> simp at h <;> (simp [List.zipIdx, hilI, hg, hgE, pap, hOl, tkM, hv, -getM, getM_hit, getM_miss, getM_none]; (repeat (simp (disch := first | omega | assumption | fail) only [if_pos, if_neg, wrap64]; try simp [List.zipIdx, hilI, hg, hgE, pap, hOl, tkM, hv, -getM, getM_hit, getM_miss, getM_none])))))) | (refine aw_cond (b := _) (by exact rfl) (fun h => ?_) (fun h => ?_) <;> (try simp at h)) | (refine aw_block ?_) | (refine aw_skip ?_; simp only [thenQ, blockQ, if_true]) | (refine aw_exit ?_; simp [thenQ, blockQ]) | (refine aw_ret ?_; simp only [thenQ, blockQ]) | (refine aw_round ?_) | (refine hK _ ?_; clear hK) | (clear hK; refine hK _ ?_; clear hK) | (clear hK; clear hK; refine hK _ ?_; clear hK) | (clear hK; clear hK; clear hK; refine hK _ ?_; clear hK))
          refine ⟨i + 1, ?_, by omega, by omega⟩
          simp only [hins]
          refine le_turn (s1 := ?tus9) (m1 := ?tum9) [] [0, 1, 5, 6] [96] ?tua9 ?tub9 ?tuc9 ?tud9 ?tue9 ?tuf9 ?tug9
          case tua9 => first | (simp [keepS]; done) | (simp [keepS]; rfl)
          case tub9 => first | (simp; done) | (simp; rfl)
          case tuc9 => simp
          case tud9 => simp
          case tue9 => simp
          case tuf9 => simp
          case tug9 =>
            simp [swp, vr]
            exact le_of2 (by simp) (by simp [AVle, AV.under, AV.underL] <;> omega) (by simp [AOle, AO.under, AV.underL, AV.under] <;> omega)
      · obtain rfl : i = l.length := by omega
        rw [List.take_length] at hO ⊢
        rw [← hO]
        repeat' (first | (apply aw_seq_k; intro K hK) | (refine aw_run hc (by first | exact aw_nod | (intro _; rw [ordB_w hw]; kernel_rfl) | (intro _; rw [ordB_w0 hw0]; kernel_rfl) | (intro _; kernel_rfl)) ?_; simp [List.zipIdx, hOl, tkM, -getM, getM_hit, getM_miss, getM_none]; (repeat (simp (disch := first | omega | assumption | fail) only [if_pos, if_neg, wrap64]; try simp [List.zipIdx, hOl, tkM, -getM, getM_hit, getM_miss, getM_none])); try (repeat' (refine guardQ_split (fun h => ?_) (fun h => ?_) <;> simp at h <;> (simp [List.zipIdx, hOl, tkM, -getM, getM_hit, getM_miss, getM_none]; (repeat (simp (disch := first | omega | assumption | fail) only [if_pos, if_neg, wrap64]; try simp [List.zipIdx, hOl, tkM, -getM, getM_hit, getM_miss, getM_none])))))) | (refine aw_cond (b := _) (by exact rfl) (fun h => ?_) (fun h => ?_) <;> (try simp at h)) | (refine aw_block ?_) | (refine aw_skip ?_; simp only [thenQ, blockQ, if_true]) | (refine aw_exit ?_; simp [thenQ, blockQ]) | (refine aw_ret ?_; simp only [thenQ, blockQ]) | (refine aw_round ?_) | (refine hK _ ?_; clear hK) | (clear hK; refine hK _ ?_; clear hK) | (clear hK; clear hK; refine hK _ ?_; clear hK) | (clear hK; clear hK; clear hK; refine hK _ ?_; clear hK))
        refine ⟨by simp, ?_⟩
        simp [leaves_iff, Try.f18]
        try (first | omega | (refine decide_eq_decide.2 ?_; omega) | (refine decide_eq_false ?_; omega) | (refine decide_eq_true ?_; omega))
        rw [hO]
  · rw [if_neg h0]
    repeat' (first | (apply aw_seq_k; intro K hK) | (refine aw_run hc (by first | exact aw_nod | (intro _; rw [ordB_w hw]; kernel_rfl) | (intro _; rw [ordB_w0 hw0]; kernel_rfl) | (intro _; kernel_rfl)) ?_; simp [List.zipIdx, h9', h0, -getM, getM_hit, getM_miss, getM_none]; (repeat (simp (disch := first | omega | assumption | fail) only [if_pos, if_neg, wrap64]; try simp [List.zipIdx, h9', h0, -getM, getM_hit, getM_miss, getM_none])); try (repeat' (refine guardQ_split (fun h => ?_) (fun h => ?_) <;> simp at h <;> (simp [List.zipIdx, h9', h0, -getM, getM_hit, getM_miss, getM_none]; (repeat (simp (disch := first | omega | assumption | fail) only [if_pos, if_neg, wrap64]; try simp [List.zipIdx, h9', h0, -getM, getM_hit, getM_miss, getM_none])))))) | (refine aw_cond (b := _) (by exact rfl) (fun h => ?_) (fun h => ?_) <;> (try simp at h)) | (refine aw_block ?_) | (refine aw_skip ?_; simp only [thenQ, blockQ, if_true]) | (refine aw_exit ?_; simp [thenQ, blockQ]) | (refine aw_ret ?_; simp only [thenQ, blockQ]) | (refine aw_round ?_) | (refine hK _ ?_; clear hK) | (clear hK; refine hK _ ?_; clear hK) | (clear hK; clear hK; refine hK _ ?_; clear hK) | (clear hK; clear hK; clear hK; refine hK _ ?_; clear hK))
    refine ⟨by simp, ?_⟩
    simp [leaves_iff, Try.f18, prows_nil]
    try (first | omega | (refine decide_eq_decide.2 ?_; omega) | (refine decide_eq_false ?_; omega) | (refine decide_eq_true ?_; omega))
end Go.AM
