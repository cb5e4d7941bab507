/- Workingset: the reference's plain cache; equal lists. -/
import Derived.Test.YtpkbbmimfoakcaaWs4
set_option linter.all false

namespace Go.AM
open Go Go.Proofs

theorem idx_at (l : List Int) (p : Int) (h : l.length ≤ bigN) (R : List Int → Int → Int) : specF (ι := {x : List Int × Int // x.1.length ≤ bigN}) (fun x => [.rd 1 (irows x.1.1), I x.1.2]) (fun x => retOf [I (R x.1.1 x.1.2)]) [.rd 1 (irows l), I p] = some (I (R l p)) :=
  specF_eq (A := fun x : {x : List Int × Int // x.1.length ≤ bigN} => [.rd 1 (irows x.1.1), I x.1.2]) (R := fun x => retOf [I (R x.1.1 x.1.2)]) ⟨(l, p), h⟩ (by
    rintro ⟨⟨a, b⟩, h2⟩ e
    simp [irows_inj] at e
    obtain ⟨rfl, rfl⟩ := e
    rfl)
noncomputable def F28 : List AV → Option AV := specF (ι := {x : List Int × Int // x.1.length ≤ bigN}) (fun x => [.rd 1 (irows x.1.1), I x.1.2]) fun x => retOf [I (idxI x.1.1 x.1.2)]
theorem F28_at (l : List Int) (p : Int) (h : l.length ≤ bigN) : F28 [.rd 1 (irows l), I p] = some (I (idxI l p)) := idx_at l p h idxI
noncomputable def F29 : List AV → Option AV := specF (ι := {x : List Int × Int // x.1.length ≤ bigN}) (fun x => [.rd 1 (irows x.1.1), I x.1.2]) fun x => retOf [I (distL x.1.1 x.1.2)]
theorem F29_at (l : List Int) (p : Int) (h : l.length ≤ bigN) : F29 [.rd 1 (irows l), I p] = some (I (distL l p)) := idx_at l p h distL

set_option maxHeartbeats 1000000 in
theorem s17 (X : AX) (hX : XOK Try.prog X) (hw : X.W wT) (h27 : ∀ l s M n, X.call 27 [.rd 1 (irows l), I s] M n = some (I (errS l.length s), [])) (h28 : X.call 28 = callP F28) (h29 : X.call 29 = callP F29) :
    PSound Try.prog 17 (specF (ι := List Int × Int) (fun x => [.rd 1 (irows x.1), I x.2]) fun x => retOf [.ow 1 (irows (refR x.1 x.2).1), I (refR x.1 x.2).2]) := by
  refine psound_spec hX mixed Try.func17 rfl fun ⟨l, size⟩ w0 G => ⟨by show 2 ≤ 62; decide, rfl, ?_⟩
  show AW ⟨Try.prog, X, 62, w0, .pure G⟩ _ _ _
  have hc : Cx.OK ⟨Try.prog, X, 62, w0, .pure G⟩ := ⟨hX, mixed⟩
  simp only
  unfold refR
  rcases Decidable.em (errS l.length size = 0) with h | h
  · obtain ⟨hl, hs1, hs2⟩ := errS_zero.1 h
    rw [if_pos h]
    simp only
    have hinv := rrun_inv hs1 l
    repeat' (first | (apply aw_seq_k; intro K hK) | (refine aw_run hc (by first | exact aw_nod | (intro _; rw [ordB_w hw]; kernel_rfl) | (intro _; rw [ordB_w0 hw0]; kernel_rfl) | (intro _; kernel_rfl)) ?_; simp [List.zipIdx, h27, h, -getM, getM_hit, getM_miss, getM_none]; (repeat (simp (disch := first | omega | assumption | fail) only [if_pos, if_neg, wrap64]; try simp [List.zipIdx, h27, h, -getM, getM_hit, getM_miss, getM_none])); try (repeat' (refine guardQ_split (fun h => ?_) (fun h => ?_) <;> simp at h <;> (simp [List.zipIdx, h27, h, -getM, getM_hit, getM_miss, getM_none]; (repeat (simp (disch := first | omega | assumption | fail) only [if_pos, if_neg, wrap64]; try simp [List.zipIdx, h27, h, -getM, getM_hit, getM_miss, getM_none])))))) | (refine aw_cond (b := _) (by exact rfl) (fun h => ?_) (fun h => ?_) <;> (try simp at h)) | (refine aw_block ?_) | (refine aw_skip ?_; simp only [thenQ, blockQ, if_true]) | (refine aw_exit ?_; simp [thenQ, blockQ]) | (refine aw_ret ?_; simp only [thenQ, blockQ]) | (refine aw_round ?_) | (refine hK _ ?_; clear hK) | (clear hK; refine hK _ ?_; clear hK) | (clear hK; clear hK; refine hK _ ?_; clear hK) | (clear hK; clear hK; clear hK; refine hK _ ?_; clear hK))
    refine aw_weaken (le_nilslot (t := 7) (sz := 1) (by simp)) ?_
    refine aw_weaken (le_nilslot (t := 8) (sz := 1) (by simp)) ?_
    refine aw_weaken (le_nilslot (t := 9) (sz := 1) (by simp)) ?_
    refine aw_loopK (s0 := ?lps1) (m0 := ?lpm1) (ι := {i : Nat // i ≤ l.length}) [0, 1] (fun i => [(10, I i.1), (7, .sl 192 1 1 0 (rrun size l i.1).q.length), (8, .sl 193 1 1 0 (rrun size l i.1).gone.length), (9, .sl 194 1 1 0 (rrun size l i.1).out.length)]) (fun i => [(192, .vec 1 1 false (irows (rrun size l i.1).q)), (193, .vec 1 1 false (irows (rrun size l i.1).gone)), (194, .vec 1 1 false (irows (rrun size l i.1).out))]) (fun i => l.length - i.1) ⟨0, by omega⟩ ?lhs1 ?lhm1 ?_ ?_
    case lhs1 => first | (simp [keepS]; done) | (simp [keepS]; rfl)
    case lhm1 => first | rfl | (simp; done) | (simp; rfl)
    · simp only [rrun, List.length_nil]
      exact le_of2 (by simp) (by simp [AVle, AV.under, AV.underL] <;> omega) (by simp [AOle, AO.under, AV.underL, AV.under] <;> omega)
    · rintro ⟨i, hi⟩
      simp only
      obtain ⟨s, hs⟩ : ∃ s, s = rrun size l i := ⟨_, rfl⟩
      have hsi := hinv i
      rw [← hs] at hsi ⊢
      have hsucc : rrun size l (i + 1) = rstep size s (gi l i) := by rw [hs]; rfl
      rcases Decidable.em (i < l.length) with hil | hil
      · have hilI : (i : Int) < (l.length : Int) := by omega
        have hg := irows_gi hil
        obtain ⟨p, hp⟩ : ∃ p, p = gi l i := ⟨_, rfl⟩
        rw [← hp] at hg hsucc
        have hgE : ∀ h, (irows l)[i]'h = [I p] := fun h => by rw [List.getElem?_eq_getElem h] at hg; exact Option.some.inj hg
        obtain ⟨q, gone, out, held⟩ := s
        obtain ⟨i1, i2, i3, i4, i5, i6, i7⟩ := hsi
        simp only at i1 i2 i3 i4 i5 i6 i7 ⊢
        have hF8 := F28_at q p (by unfold bigN; omega)
        have hF9 := F29_at gone p (by unfold bigN; omega)
        have hlo : out.length ≤ 1073741823 := by omega
        have hlq : q.length ≤ 1073741823 := by omega
        have hlg : gone.length ≤ 1073741823 := by omega
        have hap : ∀ (A : List Int) (x : Int), irows A ++ [[I x]] = irows (A ++ [x]) := fun A x => by rw [irows_one, irows_append]
        have htl : List.take (q.length - 1) (irows q).tail = irows (q.drop 1) := by rw [tlI, ← List.drop_one, irows_take, List.take_of_length_le (by simp)]
        unfold rstep at hsucc
        simp only at hsucc
        have hix := idxI_pos (l := q) (x := p)
        rcases Decidable.em (p ∈ q) with hpq | hpq
        · rw [if_pos hpq] at hsucc
          have hi0 := hix.2 hpq
          repeat' (first | (apply aw_seq_k; intro K hK) | (refine aw_run hc (by first | exact aw_nod | (intro _; rw [ordB_w hw]; kernel_rfl) | (intro _; rw [ordB_w0 hw0]; kernel_rfl) | (intro _; kernel_rfl)) ?_; simp [List.zipIdx, hilI, hg, hgE, tkI, hap, htl, hlo, h28, hF8, hi0, -getM, getM_hit, getM_miss, getM_none]; (repeat (simp (disch := first | omega | assumption | fail) only [if_pos, if_neg, wrap64]; try simp [List.zipIdx, hilI, hg, hgE, tkI, hap, htl, hlo, h28, hF8, hi0, -getM, getM_hit, getM_miss, getM_none])); try (repeat' (refine guardQ_split (fun h => ?_) (fun h => ?_) <;> simp at h <;> (simp [List.zipIdx, hilI, hg, hgE, tkI, hap, htl, hlo, h28, hF8, hi0, -getM, getM_hit, getM_miss, getM_none]; (repeat (simp (disch := first | omega | assumption | fail) only [if_pos, if_neg, wrap64]; try simp [List.zipIdx, hilI, hg, hgE, tkI, hap, htl, hlo, h28, hF8, hi0, -getM, getM_hit, getM_miss, getM_none])))))) | (refine aw_cond (b := _) (by exact rfl) (fun h => ?_) (fun h => ?_) <;> (try simp at h)) | (refine aw_block ?_) | (refine aw_skip ?_; simp only [thenQ, blockQ, if_true]) | (refine aw_exit ?_; simp [thenQ, blockQ]) | (refine aw_ret ?_; simp only [thenQ, blockQ]) | (refine aw_round ?_) | (refine hK _ ?_; clear hK) | (clear hK; refine hK _ ?_; clear hK) | (clear hK; clear hK; refine hK _ ?_; clear hK) | (clear hK; clear hK; clear hK; refine hK _ ?_; clear hK))
          refine ⟨i + 1, ?_, by omega, by omega⟩
          simp only [hsucc]
          refine le_turn (s1 := ?tus2) (m1 := ?tum2) [] [0, 1, 7, 8, 9, 10] [192, 193, 194] ?tua2 ?tub2 ?tuc2 ?tud2 ?tue2 ?tuf2 ?tug2
          case tua2 => first | (simp [keepS]; done) | (simp [keepS]; rfl)
          case tub2 => first | (simp; done) | (simp; rfl)
          case tuc2 => simp
          case tud2 => simp
          case tue2 => simp
          case tuf2 => simp
          case tug2 =>
            simp [swp, vr]
            exact le_of2 (by simp) (by simp [AVle, AV.under, AV.underL] <;> omega) (by simp [AOle, AO.under, AV.underL, AV.under] <;> omega)
        · rw [if_neg hpq] at hsucc
          have hi0 : ¬ 0 ≤ idxI q p := fun h => hpq (hix.1 h)
          rcases Decidable.em ((q.length : Int) = size) with hf | hf
          · rw [if_pos hf] at hsucc
            have hq0 : 0 < q.length := by omega
            have hgq := irows_gi hq0
            have hgqE : ∀ h, (irows q)[0]'h = [I (gi q 0)] := fun h => by rw [List.getElem?_eq_getElem h] at hgq; exact Option.some.inj hgq
            repeat' (first | (apply aw_seq_k; intro K hK) | (refine aw_run hc (by first | exact aw_nod | (intro _; rw [ordB_w hw]; kernel_rfl) | (intro _; rw [ordB_w0 hw0]; kernel_rfl) | (intro _; kernel_rfl)) ?_; simp [List.zipIdx, hilI, hg, hgE, tkI, hap, htl, hlo, hlg, h28, hF8, hi0, h29, hF9, hf, hq0, hgq, hgqE, -getM, getM_hit, getM_miss, getM_none]; (repeat (simp (disch := first | omega | assumption | fail) only [if_pos, if_neg, wrap64]; try simp [List.zipIdx, hilI, hg, hgE, tkI, hap, htl, hlo, hlg, h28, hF8, hi0, h29, hF9, hf, hq0, hgq, hgqE, -getM, getM_hit, getM_miss, getM_none])); try (repeat' (refine guardQ_split (fun h => ?_) (fun h => ?_) <;> simp at h <;> (simp [List.zipIdx, hilI, hg, hgE, tkI, hap, htl, hlo, hlg, h28, hF8, hi0, h29, hF9, hf, hq0, hgq, hgqE, -getM, getM_hit, getM_miss, getM_none]; (repeat (simp (disch := first | omega | assumption | fail) only [if_pos, if_neg, wrap64]; try simp [List.zipIdx, hilI, hg, hgE, tkI, hap, htl, hlo, hlg, h28, hF8, hi0, h29, hF9, hf, hq0, hgq, hgqE, -getM, getM_hit, getM_miss, getM_none])))))) | (refine aw_cond (b := _) (by exact rfl) (fun h => ?_) (fun h => ?_) <;> (try simp at h)) | (refine aw_block ?_) | (refine aw_skip ?_; simp only [thenQ, blockQ, if_true]) | (refine aw_exit ?_; simp [thenQ, blockQ]) | (refine aw_ret ?_; simp only [thenQ, blockQ]) | (refine aw_round ?_) | (refine hK _ ?_; clear hK) | (clear hK; refine hK _ ?_; clear hK) | (clear hK; clear hK; refine hK _ ?_; clear hK) | (clear hK; clear hK; clear hK; refine hK _ ?_; clear hK))
            refine ⟨i + 1, ?_, by omega, by omega⟩
            simp only [hsucc]
            refine le_turn (s1 := ?tus3) (m1 := ?tum3) [] [0, 1, 7, 8, 9, 10] [192, 193, 194] ?tua3 ?tub3 ?tuc3 ?tud3 ?tue3 ?tuf3 ?tug3
            case tua3 => first | (simp [keepS]; done) | (simp [keepS]; rfl)
            case tub3 => first | (simp; done) | (simp; rfl)
            case tuc3 => simp
            case tud3 => simp
            case tue3 => simp
            case tuf3 => simp
            case tug3 =>
              simp [swp, vr]
              exact le_of2 (by simp) (by simp [AVle, AV.under, AV.underL] <;> omega) (by simp [AOle, AO.under, AV.underL, AV.under] <;> omega)
          · rw [if_neg hf] at hsucc
            repeat' (first | (apply aw_seq_k; intro K hK) | (refine aw_run hc (by first | exact aw_nod | (intro _; rw [ordB_w hw]; kernel_rfl) | (intro _; rw [ordB_w0 hw0]; kernel_rfl) | (intro _; kernel_rfl)) ?_; simp [List.zipIdx, hilI, hg, hgE, tkI, hap, htl, hlo, hlq, h28, hF8, hi0, h29, hF9, hf, -getM, getM_hit, getM_miss, getM_none]; (repeat (simp (disch := first | omega | assumption | fail) only [if_pos, if_neg, wrap64]; try simp [List.zipIdx, hilI, hg, hgE, tkI, hap, htl, hlo, hlq, h28, hF8, hi0, h29, hF9, hf, -getM, getM_hit, getM_miss, getM_none])); try (repeat' (refine guardQ_split (fun h => ?_) (fun h => ?_) <;> simp at h <;> (simp [List.zipIdx, hilI, hg, hgE, tkI, hap, htl, hlo, hlq, h28, hF8, hi0, h29, hF9, hf, -getM, getM_hit, getM_miss, getM_none]; (repeat (simp (disch := first | omega | assumption | fail) only [if_pos, if_neg, wrap64]; try simp [List.zipIdx, hilI, hg, hgE, tkI, hap, htl, hlo, hlq, h28, hF8, hi0, h29, hF9, hf, -getM, getM_hit, getM_miss, getM_none])))))) | (refine aw_cond (b := _) (by exact rfl) (fun h => ?_) (fun h => ?_) <;> (try simp at h)) | (refine aw_block ?_) | (refine aw_skip ?_; simp only [thenQ, blockQ, if_true]) | (refine aw_exit ?_; simp [thenQ, blockQ]) | (refine aw_ret ?_; simp only [thenQ, blockQ]) | (refine aw_round ?_) | (refine hK _ ?_; clear hK) | (clear hK; refine hK _ ?_; clear hK) | (clear hK; clear hK; refine hK _ ?_; clear hK) | (clear hK; clear hK; clear hK; refine hK _ ?_; clear hK))
            refine ⟨i + 1, ?_, by omega, by omega⟩
            simp only [hsucc]
            refine le_turn (s1 := ?tus4) (m1 := ?tum4) [] [0, 1, 7, 8, 9, 10] [192, 193, 194] ?tua4 ?tub4 ?tuc4 ?tud4 ?tue4 ?tuf4 ?tug4
            case tua4 => first | (simp [keepS]; done) | (simp [keepS]; rfl)
            case tub4 => first | (simp; done) | (simp; rfl)
            case tuc4 => simp
            case tud4 => simp
            case tue4 => simp
            case tuf4 => simp
            case tug4 =>
              simp [swp, vr]
              exact le_of2 (by simp) (by simp [AVle, AV.under, AV.underL] <;> omega) (by simp [AOle, AO.under, AV.underL, AV.under] <;> omega)
      · obtain rfl : i = l.length := by omega
        repeat' (first | (apply aw_seq_k; intro K hK) | (refine aw_run hc (by first | exact aw_nod | (intro _; rw [ordB_w hw]; kernel_rfl) | (intro _; rw [ordB_w0 hw0]; kernel_rfl) | (intro _; kernel_rfl)) ?_; simp [List.zipIdx, -getM, getM_hit, getM_miss, getM_none]; (repeat (simp (disch := first | omega | assumption | fail) only [if_pos, if_neg, wrap64]; try simp [List.zipIdx, -getM, getM_hit, getM_miss, getM_none])); try (repeat' (refine guardQ_split (fun h => ?_) (fun h => ?_) <;> simp at h <;> (simp [List.zipIdx, -getM, getM_hit, getM_miss, getM_none]; (repeat (simp (disch := first | omega | assumption | fail) only [if_pos, if_neg, wrap64]; try simp [List.zipIdx, -getM, getM_hit, getM_miss, getM_none])))))) | (refine aw_cond (b := _) (by exact rfl) (fun h => ?_) (fun h => ?_) <;> (try simp at h)) | (refine aw_block ?_) | (refine aw_skip ?_; simp only [thenQ, blockQ, if_true]) | (refine aw_exit ?_; simp [thenQ, blockQ]) | (refine aw_ret ?_; simp only [thenQ, blockQ]) | (refine aw_round ?_) | (refine hK _ ?_; clear hK) | (clear hK; refine hK _ ?_; clear hK) | (clear hK; clear hK; refine hK _ ?_; clear hK) | (clear hK; clear hK; clear hK; refine hK _ ?_; clear hK))
        refine ⟨by simp, ?_⟩
        simp [leaves_iff, Try.f17, hs, tkI]
        try (first | omega | (refine decide_eq_decide.2 ?_; omega) | (refine decide_eq_false ?_; omega) | (refine decide_eq_true ?_; omega))
  · rw [if_neg h]
    repeat' (first | (apply aw_seq_k; intro K hK) | (refine aw_run hc (by first | exact aw_nod | (intro _; rw [ordB_w hw]; kernel_rfl) | (intro _; rw [ordB_w0 hw0]; kernel_rfl) | (intro _; kernel_rfl)) ?_; simp [List.zipIdx, h27, h, -getM, getM_hit, getM_miss, getM_none]; (repeat (simp (disch := first | omega | assumption | fail) only [if_pos, if_neg, wrap64]; try simp [List.zipIdx, h27, h, -getM, getM_hit, getM_miss, getM_none])); try (repeat' (refine guardQ_split (fun h => ?_) (fun h => ?_) <;> simp at h <;> (simp [List.zipIdx, h27, h, -getM, getM_hit, getM_miss, getM_none]; (repeat (simp (disch := first | omega | assumption | fail) only [if_pos, if_neg, wrap64]; try simp [List.zipIdx, h27, h, -getM, getM_hit, getM_miss, getM_none])))))) | (refine aw_cond (b := _) (by exact rfl) (fun h => ?_) (fun h => ?_) <;> (try simp at h)) | (refine aw_block ?_) | (refine aw_skip ?_; simp only [thenQ, blockQ, if_true]) | (refine aw_exit ?_; simp [thenQ, blockQ]) | (refine aw_ret ?_; simp only [thenQ, blockQ]) | (refine aw_round ?_) | (refine hK _ ?_; clear hK) | (clear hK; refine hK _ ?_; clear hK) | (clear hK; clear hK; refine hK _ ?_; clear hK) | (clear hK; clear hK; clear hK; refine hK _ ?_; clear hK))
    refine ⟨by simp, ?_⟩
    simp [leaves_iff, Try.f17]
    try (first | omega | (refine decide_eq_decide.2 ?_; omega) | (refine decide_eq_false ?_; omega) | (refine decide_eq_true ?_; omega))

theorem s18 (X : AX) (hX : XOK Try.prog X) : PSound Try.prog 18 (specF (ι := {x : List Int × List Int // x.1.length ≤ 1000000 ∧ x.2.length ≤ 1000000}) (fun x => [.rd 1 (irows x.1.1), .rd 1 (irows x.1.2)]) fun x => retOf [B (x.1.1 = x.1.2)]) := by
  refine psound_spec hX mixed Try.func18 rfl fun ⟨⟨a, b⟩, ha, hb⟩ w0 G => ⟨by show 2 ≤ 26; decide, rfl, ?_⟩
  show AW ⟨Try.prog, X, 26, w0, .pure G⟩ _ _ _
  have hc : Cx.OK ⟨Try.prog, X, 26, w0, .pure G⟩ := ⟨hX, mixed⟩
  simp only at ha hb
  repeat' (first | (apply aw_seq_k; intro K hK) | (refine aw_run hc (by first | exact aw_nod | (intro _; rw [ordB_w hw]; kernel_rfl) | (intro _; rw [ordB_w0 hw0]; kernel_rfl) | (intro _; kernel_rfl)) ?_; simp (disch := first | omega | assumption | (simp; done) | fail) [if_pos, if_neg, List.zipIdx]; try (repeat' (refine guardQ_split (fun h => ?_) (fun h => ?_) <;> simp at h <;> simp (disch := first | omega | assumption | (simp; done) | fail) [if_pos, if_neg, List.zipIdx]))) | (refine aw_cond (b := _) (by exact rfl) (fun h => ?_) (fun h => ?_) <;> (try simp at h)) | (refine aw_block ?_) | (refine aw_skip ?_; simp only [thenQ, blockQ, if_true]) | (refine aw_exit ?_; simp [thenQ, blockQ]) | (refine aw_ret ?_; simp only [thenQ, blockQ]) | (refine hK _ ?_; clear hK) | (clear hK; refine hK _ ?_; clear hK) | (clear hK; clear hK; refine hK _ ?_; clear hK) | (clear hK; clear hK; clear hK; refine hK _ ?_; clear hK))
  · refine ⟨by simp, ?_⟩
    simp [leaves_iff, Try.f18]
    try (first | omega | (refine decide_eq_decide.2 ?_; omega) | (refine decide_eq_false ?_; omega) | (refine decide_eq_true ?_; omega))
    rintro rfl; exact h rfl
  · have hl : a.length = b.length := by omega
    refine aw_loop (ι := {i : Nat // i ≤ a.length ∧ a.take i = b.take i}) (fun i => ⟨[(0, .rd 1 (irows a)), (1, .rd 1 (irows b)), (5, I i.1)], [], 0⟩) (fun i => a.length - i.1) ⟨0, by omega, by simp⟩ ?_ ?_
    · exact le_of2 (by simp) (by simp [AVle, AV.under, AV.underL] <;> omega) (by simp [AOle, AO.under, AV.underL, AV.under] <;> omega)
    · rintro ⟨i, hi, hinv⟩
      repeat' (first | (apply aw_seq_k; intro K hK) | (refine aw_run hc (by first | exact aw_nod | (intro _; rw [ordB_w hw]; kernel_rfl) | (intro _; rw [ordB_w0 hw0]; kernel_rfl) | (intro _; kernel_rfl)) ?_; simp (disch := first | omega | assumption | (simp; done) | fail) [if_pos, if_neg, irows_get, wrap64]; try (repeat' (refine guardQ_split (fun h => ?_) (fun h => ?_) <;> simp at h <;> simp (disch := first | omega | assumption | (simp; done) | fail) [if_pos, if_neg, irows_get, wrap64]))) | (refine aw_cond (b := _) (by exact rfl) (fun h => ?_) (fun h => ?_) <;> (try simp at h)) | (refine aw_block ?_) | (refine aw_skip ?_; simp only [thenQ, blockQ, if_true]) | (refine aw_exit ?_; simp [thenQ, blockQ]) | (refine aw_ret ?_; simp only [thenQ, blockQ]) | (refine hK _ ?_; clear hK) | (clear hK; refine hK _ ?_; clear hK) | (clear hK; clear hK; refine hK _ ?_; clear hK) | (clear hK; clear hK; clear hK; refine hK _ ?_; clear hK))
      · refine ⟨by simp, ?_⟩
        simp [leaves_iff, Try.f18]
        try (first | omega | (refine decide_eq_decide.2 ?_; omega) | (refine decide_eq_false ?_; omega) | (refine decide_eq_true ?_; omega))
        rintro rfl; exact h rfl
      · refine ⟨i + 1, ?_, ⟨by omega, ?_⟩, by omega⟩
        · exact le_of2 (by simp) (by simp [AVle, AV.under, AV.underL] <;> omega) (by simp [AOle, AO.under, AV.underL, AV.under] <;> omega)
        · rw [List.take_add_one, List.take_add_one, hinv, List.getElem?_eq_getElem (by omega), List.getElem?_eq_getElem (by omega), h]
      · have : i = a.length := by omega
        subst this
        refine ⟨by simp, ?_⟩
        simp [leaves_iff, Try.f18]
        try (first | omega | (refine decide_eq_decide.2 ?_; omega) | (refine decide_eq_false ?_; omega) | (refine decide_eq_true ?_; omega))
        rw [List.take_length, hl, List.take_length] at hinv
        simpa using hinv
end Go.AM
