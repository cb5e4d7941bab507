/- Rmap: Copy, given what SortFunc does. -/
import Derived.Test.YtallcianhjejiaaRm10
set_option linter.all false

namespace Go.AM
open Go Go.Proofs

def unM : List (List AV) → Option (List Mp)
  | [] => some []
  | [.v (.int .i64 x), .v (.int .i64 y)] :: r => match unM r with
    | some l => some ((x, y) :: l)
    | none => none
  | _ => none
theorem unM_eq : ∀ {xs : List (List AV)} {l : List Mp}, unM xs = some l → xs = prows l
  | [], l, h => by simp only [unM, Option.some.injEq] at h; subst h; rfl
  | e :: r, l, h => by
    unfold unM at h
    split at h
    · simp at *
    · rename_i x y r' heq
      simp only [List.cons.injEq] at heq
      obtain ⟨rfl, rfl⟩ := heq
      cases hr : unM r <;> simp only [hr, reduceCtorEq, Option.some.injEq] at h
      subst h
      rw [unM_eq hr]; rfl
    · simp at h
theorem unM_prows : ∀ l : List Mp, unM (prows l) = some l
  | [] => rfl
  | (x, y) :: r => by
    rw [prows_cons]
    simp only [I, unM, unM_prows r]

/-- What SortFunc does, with order handed in. -/
def sortP (avs : List AV) (M : Nat → AO) (_nid : Nat) : Option (AV × List (Nat × AO)) :=
  match avs with
  | [.sl b m s o n, .fn 27 []] => match M b with
    | .vec m' s' f xs => match unM xs with
      | some l => if m = m' ∧ s = 2 ∧ s' = 2 ∧ o = 0 ∧ n = l.length ∧ n < 4611686018427387904 then some (.tup [], [(b, .vec m 2 f (prows (sortM l)))]) else none
      | none => none
    | _ => none
  | _ => none

set_option maxHeartbeats 1000000 in
theorem s15 (X : AX) (L : RmX X) (h34 : ∀ n M k, X.call 34 [I n] M k = some (B (decide (0 ≤ n ∧ n < 8)), [])) (h28 : X.call 28 = callP F28) (h35 : X.call 35 = sortP) :
    PSound Try.prog 15 (specF (ι := {x : List Mp × Int × Int // x.1.length ≤ 400000}) (fun x => [.rd 2 (prows x.1.1), I x.1.2.1, I x.1.2.2]) fun x => retOf [.ow 2 (prows (cpyR x.1.1 x.1.2.1 x.1.2.2).1), I (cpyR x.1.1 x.1.2.1 x.1.2.2).2]) := by
  have hX := L.ok
  have hw := L.w
  have he := L.eq
  refine psound_spec hX mixed Try.func15 rfl fun ⟨⟨l, f, t⟩, hl⟩ w0 G => ⟨by show 3 ≤ 50; decide, rfl, ?_⟩
  show AW ⟨Try.prog, X, 50, w0, .pure G⟩ _ _ _
  have hc : Cx.OK ⟨Try.prog, X, 50, w0, .pure G⟩ := ⟨hX, mixed⟩
  simp only at hl ⊢
  have hF := F9_at l (by omega)
  rcases Decidable.em (chk l = 0) with h0 | h0
  · rw [h0] at hF
    rcases Decidable.em (0 ≤ f ∧ f < 8) with hf | hf
    · rcases Decidable.em (0 ≤ t ∧ t < 8) with ht | ht
      · have hC := F31_at l (by omega)
        have hG := fun a b => F28_at l a b (by omega)
        repeat' (first | (apply aw_seq_k; intro K hK) | (refine aw_run hc (by first | exact aw_nod | (intro _; rw [ordB_w hw]; kernel_rfl) | (intro _; rw [ordB_w0 hw0]; kernel_rfl) | (intro _; kernel_rfl)) ?_; simp [List.zipIdx, L.h10, hF, h34, L.h31, hC, hf, ht, tkM, -getM, getM_hit, getM_miss, getM_none]; (repeat (simp (disch := first | omega | assumption | fail) only [if_pos, if_neg, wrap64]; try simp [List.zipIdx, L.h10, hF, h34, L.h31, hC, hf, ht, tkM, -getM, getM_hit, getM_miss, getM_none])); try (repeat' (refine guardQ_split (fun h => ?_) (fun h => ?_) <;> simp at h <;> (simp [List.zipIdx, L.h10, hF, h34, L.h31, hC, hf, ht, tkM, -getM, getM_hit, getM_miss, getM_none]; (repeat (simp (disch := first | omega | assumption | fail) only [if_pos, if_neg, wrap64]; try simp [List.zipIdx, L.h10, hF, h34, L.h31, hC, hf, ht, tkM, -getM, getM_hit, getM_miss, getM_none])))))) | (refine aw_cond (b := _) (by exact rfl) (fun h => ?_) (fun h => ?_) <;> (try simp at h)) | (refine aw_block ?_) | (refine aw_skip ?_; simp only [thenQ, blockQ, if_true]) | (refine aw_exit ?_; simp [thenQ, blockQ]) | (refine aw_ret ?_; simp only [thenQ, blockQ]) | (refine aw_round ?_) | (refine hK _ ?_; clear hK) | (clear hK; refine hK _ ?_; clear hK) | (clear hK; clear hK; refine hK _ ?_; clear hK) | (clear hK; clear hK; clear hK; refine hK _ ?_; clear hK))
        refine aw_loopK (s0 := ?lps1) (m0 := ?lpm1) (ι := {i : Nat // i ≤ l.length ∧ ∀ j, j < i → ¬ ((gm l j).1 = f ∧ (t, (gm l j).2) ∈ l)}) [0, 1, 2, 27, 28] (fun i => [(29, I i.1), (9, .sl 256 1 2 0 (l ++ cpC f t (l.take i.1)).length)]) (fun i => [(256, .vec 1 2 false (prows (l ++ cpC f t (l.take i.1))))]) (fun i => l.length - i.1) ⟨0, by omega, by omega⟩ ?lhs1 ?lhm1 ?_ ?_
        case lhs1 => first | (simp [keepS]; done) | (simp [keepS]; rfl)
        case lhm1 => first | rfl | (simp; done) | (simp; rfl)
        · simp only [List.take_zero, cpC, List.filter_nil, List.map_nil, List.append_nil]
          exact le_of2 (by simp) (by simp [AVle, AV.under, AV.underL] <;> omega) (by simp [AOle, AO.under, AV.underL, AV.under] <;> omega)
        · rintro ⟨i, hi, hinv⟩
          simp only
          have hcl := cpC_len f t (l.take i)
          rw [List.length_take] at hcl
          obtain ⟨O, hO⟩ : ∃ O, O = l ++ cpC f t (l.take i) := ⟨_, rfl⟩
          have hOm : O.length = l.length + (cpC f t (l.take i)).length := by rw [hO, List.length_append]
          have hOl : O.length ≤ 800000 := by omega
          rw [← hO]
          rcases Decidable.em (i < l.length) with hil | hil
          · have hilI : (i : Int) < (l.length : Int) := by omega
            have hg := prows_gi hil
            have hgE := prows_gE hil
            have hins := cpC_snoc f t (l.take i) (gm l i)
            rw [← take_succ_gm hil] at hins
            obtain ⟨⟨x, y⟩, hmm⟩ : ∃ m, m = gm l i := ⟨_, rfl⟩
            rw [← hmm] at hg hgE hins
            simp only at hg hgE hins
            rcases Decidable.em (x = f) with hv | hv
            · rw [if_pos hv] at hins
              rcases Decidable.em ((t, y) ∈ l) with hm | hm
              · have hx : cpX l f t := ⟨i, hil, by rw [← hmm]; exact ⟨hv, hm⟩⟩
                repeat' (first | (apply aw_seq_k; intro K hK) | (refine aw_run hc (by first | exact aw_nod | (intro _; rw [ordB_w hw]; kernel_rfl) | (intro _; rw [ordB_w0 hw0]; kernel_rfl) | (intro _; kernel_rfl)) ?_; simp [List.zipIdx, hilI, hg, hgE, hv, h28, hG, hm, -getM, getM_hit, getM_miss, getM_none]; (repeat (simp (disch := first | omega | assumption | fail) only [if_pos, if_neg, wrap64]; try simp [List.zipIdx, hilI, hg, hgE, hv, h28, hG, hm, -getM, getM_hit, getM_miss, getM_none])); try (repeat' (refine guardQ_split (fun h => ?_) (fun h => ?_) <;> simp at h <;> (simp [List.zipIdx, hilI, hg, hgE, hv, h28, hG, hm, -getM, getM_hit, getM_miss, getM_none]; (repeat (simp (disch := first | omega | assumption | fail) only [if_pos, if_neg, wrap64]; try simp [List.zipIdx, hilI, hg, hgE, hv, h28, hG, hm, -getM, getM_hit, getM_miss, getM_none])))))) | (refine aw_cond (b := _) (by exact rfl) (fun h => ?_) (fun h => ?_) <;> (try simp at h)) | (refine aw_block ?_) | (refine aw_skip ?_; simp only [thenQ, blockQ, if_true]) | (refine aw_exit ?_; simp [thenQ, blockQ]) | (refine aw_ret ?_; simp only [thenQ, blockQ]) | (refine aw_round ?_) | (refine hK _ ?_; clear hK) | (clear hK; refine hK _ ?_; clear hK) | (clear hK; clear hK; refine hK _ ?_; clear hK) | (clear hK; clear hK; clear hK; refine hK _ ?_; clear hK))
                refine ⟨by simp, ?_⟩
                simp [leaves_iff, Try.f15, prows_nil]
                try (first | omega | (refine decide_eq_decide.2 ?_; omega) | (refine decide_eq_false ?_; omega) | (refine decide_eq_true ?_; omega))
                rw [cpyR_x h0 ⟨hf, ht⟩ hx]; exact ⟨rfl, rfl⟩
              · have hins2 : l ++ cpC f t (l.take (i + 1)) = O ++ [(t, y)] := by rw [hins, hO, List.append_assoc]
                repeat' (first | (apply aw_seq_k; intro K hK) | (refine aw_run hc (by first | exact aw_nod | (intro _; rw [ordB_w hw]; kernel_rfl) | (intro _; rw [ordB_w0 hw0]; kernel_rfl) | (intro _; kernel_rfl)) ?_; simp [List.zipIdx, hilI, hg, hgE, hv, h28, hG, hm, pap, hOl, tkM, -getM, getM_hit, getM_miss, getM_none]; (repeat (simp (disch := first | omega | assumption | fail) only [if_pos, if_neg, wrap64]; try simp [List.zipIdx, hilI, hg, hgE, hv, h28, hG, hm, pap, hOl, tkM, -getM, getM_hit, getM_miss, getM_none])); try (repeat' (refine guardQ_split (fun h => ?_) (fun h => ?_) <;> simp at h <;> (simp [List.zipIdx, hilI, hg, hgE, hv, h28, hG, hm, pap, hOl, tkM, -getM, getM_hit, getM_miss, getM_none]; (repeat (simp (disch := first | omega | assumption | fail) only [if_pos, if_neg, wrap64]; try simp [List.zipIdx, hilI, hg, hgE, hv, h28, hG, hm, pap, hOl, tkM, -getM, getM_hit, getM_miss, getM_none])))))) | (refine aw_cond (b := _) (by exact rfl) (fun h => ?_) (fun h => ?_) <;> (try simp at h)) | (refine aw_block ?_) | (refine aw_skip ?_; simp only [thenQ, blockQ, if_true]) | (refine aw_exit ?_; simp [thenQ, blockQ]) | (refine aw_ret ?_; simp only [thenQ, blockQ]) | (refine aw_round ?_) | (refine hK _ ?_; clear hK) | (clear hK; refine hK _ ?_; clear hK) | (clear hK; clear hK; refine hK _ ?_; clear hK) | (clear hK; clear hK; clear hK; refine hK _ ?_; clear hK))
                refine ⟨i + 1, ?_, ⟨by omega, fun j hj => ?_⟩, by omega⟩
                · simp only [hins2]
                  simp only [hins]
                  refine le_turn (s1 := ?tus2) (m1 := ?tum2) [] [0, 1, 2, 27, 28, 9, 29] [256] ?tua2 ?tub2 ?tuc2 ?tud2 ?tue2 ?tuf2 ?tug2
                  case tua2 => first | (simp [keepS]; done) | (simp [keepS]; rfl)
                  case tub2 => first | (simp; done) | (simp; rfl)
                  case tuc2 => simp
                  case tud2 => simp
                  case tue2 => simp
                  case tuf2 => simp
                  case tug2 =>
                    simp [swp, vr]
                    exact le_of2 (by simp) (by simp [AVle, AV.under, AV.underL] <;> omega) (by simp [AOle, AO.under, AV.underL, AV.under] <;> omega)
                · rcases Nat.lt_succ_iff_lt_or_eq.1 hj with h | rfl
                  · simpa using hinv j h
                  · rw [← hmm]; intro _; exact hm
            · rw [if_neg hv] at hins
              have hins2 : l ++ cpC f t (l.take (i + 1)) = O := by rw [hins, hO]
              repeat' (first | (apply aw_seq_k; intro K hK) | (refine aw_run hc (by first | exact aw_nod | (intro _; rw [ordB_w hw]; kernel_rfl) | (intro _; rw [ordB_w0 hw0]; kernel_rfl) | (intro _; kernel_rfl)) ?_; simp [List.zipIdx, hilI, hg, hgE, hv, -getM, getM_hit, getM_miss, getM_none]; (repeat (simp (disch := first | omega | assumption | fail) only [if_pos, if_neg, wrap64]; try simp [List.zipIdx, hilI, hg, hgE, hv, -getM, getM_hit, getM_miss, getM_none])); try (repeat' (refine guardQ_split (fun h => ?_) (fun h => ?_) <;> simp at h <;> (simp [List.zipIdx, hilI, hg, hgE, hv, -getM, getM_hit, getM_miss, getM_none]; (repeat (simp (disch := first | omega | assumption | fail) only [if_pos, if_neg, wrap64]; try simp [List.zipIdx, hilI, hg, hgE, hv, -getM, getM_hit, getM_miss, getM_none])))))) | (refine aw_cond (b := _) (by exact rfl) (fun h => ?_) (fun h => ?_) <;> (try simp at h)) | (refine aw_block ?_) | (refine aw_skip ?_; simp only [thenQ, blockQ, if_true]) | (refine aw_exit ?_; simp [thenQ, blockQ]) | (refine aw_ret ?_; simp only [thenQ, blockQ]) | (refine aw_round ?_) | (refine hK _ ?_; clear hK) | (clear hK; refine hK _ ?_; clear hK) | (clear hK; clear hK; refine hK _ ?_; clear hK) | (clear hK; clear hK; clear hK; refine hK _ ?_; clear hK))
              refine ⟨i + 1, ?_, ⟨by omega, fun j hj => ?_⟩, by omega⟩
              · simp only [hins2]
                simp only [hins]
                refine le_turn (s1 := ?tus3) (m1 := ?tum3) [] [0, 1, 2, 27, 28, 9, 29] [256] ?tua3 ?tub3 ?tuc3 ?tud3 ?tue3 ?tuf3 ?tug3
                case tua3 => first | (simp [keepS]; done) | (simp [keepS]; rfl)
                case tub3 => first | (simp; done) | (simp; rfl)
                case tuc3 => simp
                case tud3 => simp
                case tue3 => simp
                case tuf3 => simp
                case tug3 =>
                  simp [swp, vr]
                  exact le_of2 (by simp) (by simp [AVle, AV.under, AV.underL] <;> omega) (by simp [AOle, AO.under, AV.underL, AV.under] <;> omega)
              · rcases Nat.lt_succ_iff_lt_or_eq.1 hj with h | rfl
                · simpa using hinv j h
                · rw [← hmm]; intro e; exact absurd e hv
          · obtain rfl : i = l.length := by omega
            have hx : ¬ cpX l f t := fun ⟨j, hj, e⟩ => hinv j hj e
            rw [List.take_length] at hO
            have hsrt : sortM O = cpG f t l := by rw [hO]; exact copy_eq f t l
            have hul := unM_prows O
            have hO62 : O.length < 4611686018427387904 := by omega
            repeat' (first | (apply aw_seq_k; intro K hK) | (refine aw_run hc (by first | exact aw_nod | (intro _; rw [ordB_w hw]; kernel_rfl) | (intro _; rw [ordB_w0 hw0]; kernel_rfl) | (intro _; kernel_rfl)) ?_; simp [List.zipIdx, h35, sortP, hul, hO62, tkM, -getM, getM_hit, getM_miss, getM_none]; (repeat (simp (disch := first | omega | assumption | fail) only [if_pos, if_neg, wrap64]; try simp [List.zipIdx, h35, sortP, hul, hO62, tkM, -getM, getM_hit, getM_miss, getM_none])); try (repeat' (refine guardQ_split (fun h => ?_) (fun h => ?_) <;> simp at h <;> (simp [List.zipIdx, h35, sortP, hul, hO62, tkM, -getM, getM_hit, getM_miss, getM_none]; (repeat (simp (disch := first | omega | assumption | fail) only [if_pos, if_neg, wrap64]; try simp [List.zipIdx, h35, sortP, hul, hO62, tkM, -getM, getM_hit, getM_miss, getM_none])))))) | (refine aw_cond (b := _) (by exact rfl) (fun h => ?_) (fun h => ?_) <;> (try simp at h)) | (refine aw_block ?_) | (refine aw_skip ?_; simp only [thenQ, blockQ, if_true]) | (refine aw_exit ?_; simp [thenQ, blockQ]) | (refine aw_ret ?_; simp only [thenQ, blockQ]) | (refine aw_round ?_) | (refine hK _ ?_; clear hK) | (clear hK; refine hK _ ?_; clear hK) | (clear hK; clear hK; refine hK _ ?_; clear hK) | (clear hK; clear hK; clear hK; refine hK _ ?_; clear hK))
            refine ⟨by simp, ?_⟩
            simp [leaves_iff, Try.f15]
            try (first | omega | (refine decide_eq_decide.2 ?_; omega) | (refine decide_eq_false ?_; omega) | (refine decide_eq_true ?_; omega))
            rw [cpyR_z h0 ⟨hf, ht⟩ hx, ← hsrt]
            exact ⟨by rw [List.take_of_length_le (by simp)], rfl⟩
      · repeat' (first | (apply aw_seq_k; intro K hK) | (refine aw_run hc (by first | exact aw_nod | (intro _; rw [ordB_w hw]; kernel_rfl) | (intro _; rw [ordB_w0 hw0]; kernel_rfl) | (intro _; kernel_rfl)) ?_; simp [List.zipIdx, L.h10, hF, h34, hf, ht, -getM, getM_hit, getM_miss, getM_none]; (repeat (simp (disch := first | omega | assumption | fail) only [if_pos, if_neg, wrap64]; try simp [List.zipIdx, L.h10, hF, h34, hf, ht, -getM, getM_hit, getM_miss, getM_none])); try (repeat' (refine guardQ_split (fun h => ?_) (fun h => ?_) <;> simp at h <;> (simp [List.zipIdx, L.h10, hF, h34, hf, ht, -getM, getM_hit, getM_miss, getM_none]; (repeat (simp (disch := first | omega | assumption | fail) only [if_pos, if_neg, wrap64]; try simp [List.zipIdx, L.h10, hF, h34, hf, ht, -getM, getM_hit, getM_miss, getM_none])))))) | (refine aw_cond (b := _) (by exact rfl) (fun h => ?_) (fun h => ?_) <;> (try simp at h)) | (refine aw_block ?_) | (refine aw_skip ?_; simp only [thenQ, blockQ, if_true]) | (refine aw_exit ?_; simp [thenQ, blockQ]) | (refine aw_ret ?_; simp only [thenQ, blockQ]) | (refine aw_round ?_) | (refine hK _ ?_; clear hK) | (clear hK; refine hK _ ?_; clear hK) | (clear hK; clear hK; refine hK _ ?_; clear hK) | (clear hK; clear hK; clear hK; refine hK _ ?_; clear hK))
        refine ⟨by simp, ?_⟩
        simp [leaves_iff, Try.f15, prows_nil]
        try (first | omega | (refine decide_eq_decide.2 ?_; omega) | (refine decide_eq_false ?_; omega) | (refine decide_eq_true ?_; omega))
        rw [cpyR_s h0 fun h => ht h.2]; exact ⟨rfl, rfl⟩
    · repeat' (first | (apply aw_seq_k; intro K hK) | (refine aw_run hc (by first | exact aw_nod | (intro _; rw [ordB_w hw]; kernel_rfl) | (intro _; rw [ordB_w0 hw0]; kernel_rfl) | (intro _; kernel_rfl)) ?_; simp [List.zipIdx, L.h10, hF, h34, hf, -getM, getM_hit, getM_miss, getM_none]; (repeat (simp (disch := first | omega | assumption | fail) only [if_pos, if_neg, wrap64]; try simp [List.zipIdx, L.h10, hF, h34, hf, -getM, getM_hit, getM_miss, getM_none])); try (repeat' (refine guardQ_split (fun h => ?_) (fun h => ?_) <;> simp at h <;> (simp [List.zipIdx, L.h10, hF, h34, hf, -getM, getM_hit, getM_miss, getM_none]; (repeat (simp (disch := first | omega | assumption | fail) only [if_pos, if_neg, wrap64]; try simp [List.zipIdx, L.h10, hF, h34, hf, -getM, getM_hit, getM_miss, getM_none])))))) | (refine aw_cond (b := _) (by exact rfl) (fun h => ?_) (fun h => ?_) <;> (try simp at h)) | (refine aw_block ?_) | (refine aw_skip ?_; simp only [thenQ, blockQ, if_true]) | (refine aw_exit ?_; simp [thenQ, blockQ]) | (refine aw_ret ?_; simp only [thenQ, blockQ]) | (refine aw_round ?_) | (refine hK _ ?_; clear hK) | (clear hK; refine hK _ ?_; clear hK) | (clear hK; clear hK; refine hK _ ?_; clear hK) | (clear hK; clear hK; clear hK; refine hK _ ?_; clear hK))
      refine ⟨by simp, ?_⟩
      simp [leaves_iff, Try.f15, prows_nil]
      try (first | omega | (refine decide_eq_decide.2 ?_; omega) | (refine decide_eq_false ?_; omega) | (refine decide_eq_true ?_; omega))
      rw [cpyR_s h0 fun h => hf h.1]; exact ⟨rfl, rfl⟩
  · obtain ⟨c, hcc⟩ : ∃ c, c = chk l := ⟨_, rfl⟩
    rw [← hcc] at hF h0
    repeat' (first | (apply aw_seq_k; intro K hK) | (refine aw_run hc (by first | exact aw_nod | (intro _; rw [ordB_w hw]; kernel_rfl) | (intro _; rw [ordB_w0 hw0]; kernel_rfl) | (intro _; kernel_rfl)) ?_; simp [List.zipIdx, L.h10, hF, h0, -getM, getM_hit, getM_miss, getM_none]; (repeat (simp (disch := first | omega | assumption | fail) only [if_pos, if_neg, wrap64]; try simp [List.zipIdx, L.h10, hF, h0, -getM, getM_hit, getM_miss, getM_none])); try (repeat' (refine guardQ_split (fun h => ?_) (fun h => ?_) <;> simp at h <;> (simp [List.zipIdx, L.h10, hF, h0, -getM, getM_hit, getM_miss, getM_none]; (repeat (simp (disch := first | omega | assumption | fail) only [if_pos, if_neg, wrap64]; try simp [List.zipIdx, L.h10, hF, h0, -getM, getM_hit, getM_miss, getM_none])))))) | (refine aw_cond (b := _) (by exact rfl) (fun h => ?_) (fun h => ?_) <;> (try simp at h)) | (refine aw_block ?_) | (refine aw_skip ?_; simp only [thenQ, blockQ, if_true]) | (refine aw_exit ?_; simp [thenQ, blockQ]) | (refine aw_ret ?_; simp only [thenQ, blockQ]) | (refine aw_round ?_) | (refine hK _ ?_; clear hK) | (clear hK; refine hK _ ?_; clear hK) | (clear hK; clear hK; refine hK _ ?_; clear hK) | (clear hK; clear hK; clear hK; refine hK _ ?_; clear hK))
    refine ⟨by simp, ?_⟩
    simp [leaves_iff, Try.f15, prows_nil]
    try (first | omega | (refine decide_eq_decide.2 ?_; omega) | (refine decide_eq_false ?_; omega) | (refine decide_eq_true ?_; omega))
    rw [cpyR_c (by rw [← hcc]; exact h0), ← hcc]; exact ⟨rfl, rfl⟩
end Go.AM
