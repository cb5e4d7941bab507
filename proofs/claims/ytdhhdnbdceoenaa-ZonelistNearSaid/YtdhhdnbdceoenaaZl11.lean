/- slices.DeleteFunc: the walk. -/
import Derived.Test.YtdhhdnbdceoenaaZl10
set_option linter.all false

namespace Go.AM
open Go Go.Proofs

noncomputable def F35 (Y : AX) : AV → List AV → Option (AV × AV) := specM (ι := PA Y) (fun x => .ow 1 (irows x.l)) (fun x => [.fn x.g x.caps]) (fun x => retOf [.ow 1 (irows (keepL x.p x.l))]) fun _ => .any
theorem F35_at {Y : AX} (x : PA Y) : F35 Y (.ow 1 (irows x.l)) [.fn x.g x.caps] = some (.ow 1 (irows (keepL x.p x.l)), .any) :=
  specM_eq (A0 := fun x : PA Y => AV.ow 1 (irows x.l)) (A := fun x => [.fn x.g x.caps]) (R := fun x => retOf [.ow 1 (irows (keepL x.p x.l))]) (O := fun _ => .any) x fun j h1 h2 => by
    simp [irows_inj] at h1 h2
    refine ⟨?_, rfl⟩
    have := PA.inj h1 h2.1 h2.2
    have e : keepL j.p j.l = keepL x.p x.l := by
      rw [h1]
      exact List.filter_congr fun a ha => by rw [this a ha]
    rw [e]
theorem ex_first {p : Int → Bool} {l : List Int} (h : ∃ i, i < l.length ∧ p (gi l i) = true) : ∃ i, i < l.length ∧ p (gi l i) = true ∧ ∀ j, j < i → p (gi l j) = false := by
  obtain ⟨i, hi⟩ := h
  induction i using Nat.strongRecOn with
  | ind i ih =>
    by_cases hj : ∃ j, j < i ∧ p (gi l j) = true
    · obtain ⟨j, h1, h2⟩ := hj
      exact ih j h1 ⟨by omega, h2⟩
    · exact ⟨i, hi.1, hi.2, fun j h1 => by
        cases hp : p (gi l j)
        · rfl
        · exact absurd ⟨j, h1, hp⟩ hj⟩
theorem s35 (X Y : AX) (hX : XOK Try.prog X) (hw : X.W wT) (h45 : X.call 45 = callP (F45 Y)) (hg0 : ∀ x : PA Y, ∀ a M n, a ∈ x.l → X.call x.g (I a :: x.caps) M n = some (B (x.p a), [])) : MSound Try.prog 35 (F35 Y) := by
  refine msound_spec Try.func35 rfl X fun x w0 bl E => ⟨by show 2 ≤ 42; decide, rfl, ?_⟩
  show AW ⟨Try.prog, X, 42, w0, ⟨bl, E, 1⟩⟩ _ _ _
  have hc : Cx.OK ⟨Try.prog, X, 42, w0, ⟨bl, E, 1⟩⟩ := ⟨hX, mixed⟩
  have hl := x.hl
  have hcu := x.ok.und
  have hpk := x.ok.peek
  have hat := F45_at x
  have htk0 : List.take x.l.length (irows x.l) = irows x.l := by rw [irows_take, List.take_length]
  by_cases hx : ∃ i, i < x.l.length ∧ x.p (gi x.l i) = true ∧ ∀ j, j < i → x.p (gi x.l j) = false
  · obtain ⟨i0, hi0, hp0, hb0⟩ := hx
    have hf := fIdx_at hi0 hp0 hb0
    rw [hf] at hat
    have hk0 : keepL x.p (x.l.take i0) = x.l.take i0 := keepL_all fun j hj => by
      rw [List.length_take] at hj
      have e : gi (x.l.take i0) j = gi x.l j := by rw [gi_eq (by simp; omega), gi_eq (by omega), List.getElem_take]
      rw [e]; exact hb0 j (by omega)
    have hk1 : keepL x.p (x.l.take (i0 + 1)) = x.l.take i0 := by rw [keepL_no hi0 hp0, hk0]
    have hk2 : (keepL x.p (x.l.take (i0 + 1))).length = i0 := by rw [hk1, List.length_take]; omega
    repeat' (first | (apply aw_seq_k; intro K hK) | (refine aw_run hc (by first | exact aw_nod | (intro _; rw [ordB_w hw]; kernel_rfl) | (intro _; rw [ordB_w0 hw0]; kernel_rfl) | (intro _; kernel_rfl)) ?_; simp [List.zipIdx, h45, hpk, hat, htk0, -getM, getM_hit, getM_miss, getM_none]; (repeat (simp (disch := first | omega | assumption | fail) only [if_pos, if_neg, wrap64]; try simp [List.zipIdx, h45, hpk, hat, htk0, -getM, getM_hit, getM_miss, getM_none])); try (repeat' (refine guardQ_split (fun h => ?_) (fun h => ?_) <;> simp at h <;> (simp [List.zipIdx, h45, hpk, hat, htk0, -getM, getM_hit, getM_miss, getM_none]; (repeat (simp (disch := first | omega | assumption | fail) only [if_pos, if_neg, wrap64]; try simp [List.zipIdx, h45, hpk, hat, htk0, -getM, getM_hit, getM_miss, getM_none])))))) | (refine aw_cond (b := _) (by exact rfl) (fun h => ?_) (fun h => ?_) <;> (try simp at h)) | (refine aw_block ?_) | (refine aw_skip ?_; simp only [thenQ, blockQ, if_true]) | (refine aw_exit ?_; simp [thenQ, blockQ]) | (refine aw_ret ?_; simp only [thenQ, blockQ]) | (refine aw_round ?_) | (refine hK _ ?_; clear hK) | (clear hK; refine hK _ ?_; clear hK) | (clear hK; clear hK; refine hK _ ?_; clear hK) | (clear hK; clear hK; clear hK; refine hK _ ?_; clear hK))
    refine aw_loopK (s0 := ?lps1) (m0 := ?lpm1) (ι := DSt x.p x.l) [0, 1] (fun s => [(6, I s.j), (5, I (keepL x.p (x.l.take s.j)).length)]) (fun s => [(0, .vec 1 1 false (irows s.c))]) (fun s => x.l.length - s.j) ⟨i0 + 1, x.l, by omega, rfl, by rw [hk2, hk1], rfl⟩ ?lhs1 ?lhm1 ?_ ?_
    case lhs1 => first | (simp [keepS]; done) | (simp [keepS]; rfl)
    case lhm1 => first | rfl | (simp; done) | (simp; rfl)
    · simp only [hk2]
      exact le_of2 (by simp) (by simp [AVle, AV.under, AV.underL, hcu] <;> omega) (by simp [AOle, AO.under, AV.underL, AV.under] <;> omega)
    · intro s
      have hlt := s.lt
      have hcl := s.hc
      have hsj := s.hj
      rcases Decidable.em (s.j < x.l.length) with hil | hil
      · have hilI : (s.j : Int) < (x.l.length : Int) := by omega
        have hg := irows_gi (l := s.c) (n := s.j) (by omega)
        rw [s.get hil] at hg
        have hcall := fun M n => hg0 x (gi x.l s.j) M n (gi_mem hil)
        cases hp : x.p (gi x.l s.j)
        · rw [hp] at hcall
          have hltI : (keepL x.p (x.l.take s.j)).length < x.l.length := by omega
          have hgk := irows_gi (l := s.c) (n := (keepL x.p (x.l.take s.j)).length) (by omega)
          have hset := irows_set s.c (keepL x.p (x.l.take s.j)).length (gi x.l s.j)
          have hyes : (keepL x.p (x.l.take (s.j + 1))).length = (keepL x.p (x.l.take s.j)).length + 1 := by rw [keepL_yes hil hp]; simp
          repeat' (first | (apply aw_seq_k; intro K hK) | (refine aw_run hc (by first | exact aw_nod | (intro _; rw [ordB_w hw]; kernel_rfl) | (intro _; rw [ordB_w0 hw0]; kernel_rfl) | (intro _; kernel_rfl)) ?_; simp [List.zipIdx, hilI, hg, hcall, hltI, hgk, hset, -getM, getM_hit, getM_miss, getM_none]; (repeat (simp (disch := first | omega | assumption | fail) only [if_pos, if_neg, wrap64]; try simp [List.zipIdx, hilI, hg, hcall, hltI, hgk, hset, -getM, getM_hit, getM_miss, getM_none])); try (repeat' (refine guardQ_split (fun h => ?_) (fun h => ?_) <;> simp at h <;> (simp [List.zipIdx, hilI, hg, hcall, hltI, hgk, hset, -getM, getM_hit, getM_miss, getM_none]; (repeat (simp (disch := first | omega | assumption | fail) only [if_pos, if_neg, wrap64]; try simp [List.zipIdx, hilI, hg, hcall, hltI, hgk, hset, -getM, getM_hit, getM_miss, getM_none])))))) | (refine aw_cond (b := _) (by exact rfl) (fun h => ?_) (fun h => ?_) <;> (try simp at h)) | (refine aw_block ?_) | (refine aw_skip ?_; simp only [thenQ, blockQ, if_true]) | (refine aw_exit ?_; simp [thenQ, blockQ]) | (refine aw_ret ?_; simp only [thenQ, blockQ]) | (refine aw_round ?_) | (refine hK _ ?_; clear hK) | (clear hK; refine hK _ ?_; clear hK) | (clear hK; clear hK; refine hK _ ?_; clear hK) | (clear hK; clear hK; clear hK; refine hK _ ?_; clear hK))
          refine ⟨s.keep hil hp, ?_, by simp only [DSt.keep]; omega⟩
          simp only [DSt.keep, hyes]
          exact le_of2 (by simp) (by simp [AVle, AV.under, AV.underL, hcu] <;> omega) (by simp [AOle, AO.under, AV.underL, AV.under] <;> omega)
        · rw [hp] at hcall
          have hno : (keepL x.p (x.l.take (s.j + 1))).length = (keepL x.p (x.l.take s.j)).length := by rw [keepL_no hil hp]
          repeat' (first | (apply aw_seq_k; intro K hK) | (refine aw_run hc (by first | exact aw_nod | (intro _; rw [ordB_w hw]; kernel_rfl) | (intro _; rw [ordB_w0 hw0]; kernel_rfl) | (intro _; kernel_rfl)) ?_; simp [List.zipIdx, hilI, hg, hcall, -getM, getM_hit, getM_miss, getM_none]; (repeat (simp (disch := first | omega | assumption | fail) only [if_pos, if_neg, wrap64]; try simp [List.zipIdx, hilI, hg, hcall, -getM, getM_hit, getM_miss, getM_none])); try (repeat' (refine guardQ_split (fun h => ?_) (fun h => ?_) <;> simp at h <;> (simp [List.zipIdx, hilI, hg, hcall, -getM, getM_hit, getM_miss, getM_none]; (repeat (simp (disch := first | omega | assumption | fail) only [if_pos, if_neg, wrap64]; try simp [List.zipIdx, hilI, hg, hcall, -getM, getM_hit, getM_miss, getM_none])))))) | (refine aw_cond (b := _) (by exact rfl) (fun h => ?_) (fun h => ?_) <;> (try simp at h)) | (refine aw_block ?_) | (refine aw_skip ?_; simp only [thenQ, blockQ, if_true]) | (refine aw_exit ?_; simp [thenQ, blockQ]) | (refine aw_ret ?_; simp only [thenQ, blockQ]) | (refine aw_round ?_) | (refine hK _ ?_; clear hK) | (clear hK; refine hK _ ?_; clear hK) | (clear hK; clear hK; refine hK _ ?_; clear hK) | (clear hK; clear hK; clear hK; refine hK _ ?_; clear hK))
          refine ⟨s.skip hil hp, ?_, by simp only [DSt.skip]; omega⟩
          simp only [DSt.skip, hno]
          exact le_of2 (by simp) (by simp [AVle, AV.under, AV.underL, hcu] <;> omega) (by simp [AOle, AO.under, AV.underL, AV.under] <;> omega)
      · have hie : s.j = x.l.length := by omega
        have hilI : ¬ (s.j : Int) < (x.l.length : Int) := by omega
        have hK : keepL x.p (x.l.take s.j) = keepL x.p x.l := by rw [hie, List.take_length]
        have ht := s.ht
        rw [hK] at ht
        have hkl := keepL_len x.p x.l
        rw [hK]
        have hfin : ∀ B : List (List AV), List.take (keepL x.p x.l).length (List.take (keepL x.p x.l).length (irows s.c) ++ B) = irows (keepL x.p x.l) := fun B => by
          rw [List.take_left' (by simp; omega), irows_take, ht]
        repeat' (first | (apply aw_seq_k; intro K hK) | (refine aw_run hc (by first | exact aw_nod | (intro _; rw [ordB_w hw]; kernel_rfl) | (intro _; rw [ordB_w0 hw0]; kernel_rfl) | (intro _; kernel_rfl)) ?_; simp [List.zipIdx, hilI, -getM, getM_hit, getM_miss, getM_none]; (repeat (simp (disch := first | omega | assumption | fail) only [if_pos, if_neg, wrap64]; try simp [List.zipIdx, hilI, -getM, getM_hit, getM_miss, getM_none])); try (repeat' (refine guardQ_split (fun h => ?_) (fun h => ?_) <;> simp at h <;> (simp [List.zipIdx, hilI, -getM, getM_hit, getM_miss, getM_none]; (repeat (simp (disch := first | omega | assumption | fail) only [if_pos, if_neg, wrap64]; try simp [List.zipIdx, hilI, -getM, getM_hit, getM_miss, getM_none])))))) | (refine aw_cond (b := _) (by exact rfl) (fun h => ?_) (fun h => ?_) <;> (try simp at h)) | (refine aw_block ?_) | (refine aw_skip ?_; simp only [thenQ, blockQ, if_true]) | (refine aw_exit ?_; simp [thenQ, blockQ]) | (refine aw_ret ?_; simp only [thenQ, blockQ]) | (refine aw_round ?_) | (refine hK _ ?_; clear hK) | (clear hK; refine hK _ ?_; clear hK) | (clear hK; clear hK; refine hK _ ?_; clear hK) | (clear hK; clear hK; clear hK; refine hK _ ?_; clear hK))
        refine ⟨by simp, leavesM_any ?_⟩
        simp (disch := first | omega | assumption | (simp; done) | fail) [if_pos, if_neg, leaves_iff, Try.f35, hfin]
  · have hb : ∀ j, j < x.l.length → x.p (gi x.l j) = false := fun j hj => by
      cases hp : x.p (gi x.l j)
      · rfl
      · exact absurd (ex_first ⟨j, hj, hp⟩) hx
    have hf := fIdx_not hb
    rw [hf] at hat
    repeat' (first | (apply aw_seq_k; intro K hK) | (refine aw_run hc (by first | exact aw_nod | (intro _; rw [ordB_w hw]; kernel_rfl) | (intro _; rw [ordB_w0 hw0]; kernel_rfl) | (intro _; kernel_rfl)) ?_; simp [List.zipIdx, h45, hpk, hat, htk0, -getM, getM_hit, getM_miss, getM_none]; (repeat (simp (disch := first | omega | assumption | fail) only [if_pos, if_neg, wrap64]; try simp [List.zipIdx, h45, hpk, hat, htk0, -getM, getM_hit, getM_miss, getM_none])); try (repeat' (refine guardQ_split (fun h => ?_) (fun h => ?_) <;> simp at h <;> (simp [List.zipIdx, h45, hpk, hat, htk0, -getM, getM_hit, getM_miss, getM_none]; (repeat (simp (disch := first | omega | assumption | fail) only [if_pos, if_neg, wrap64]; try simp [List.zipIdx, h45, hpk, hat, htk0, -getM, getM_hit, getM_miss, getM_none])))))) | (refine aw_cond (b := _) (by exact rfl) (fun h => ?_) (fun h => ?_) <;> (try simp at h)) | (refine aw_block ?_) | (refine aw_skip ?_; simp only [thenQ, blockQ, if_true]) | (refine aw_exit ?_; simp [thenQ, blockQ]) | (refine aw_ret ?_; simp only [thenQ, blockQ]) | (refine aw_round ?_) | (refine hK _ ?_; clear hK) | (clear hK; refine hK _ ?_; clear hK) | (clear hK; clear hK; refine hK _ ?_; clear hK) | (clear hK; clear hK; clear hK; refine hK _ ?_; clear hK))
    refine ⟨by simp, leavesM_any ?_⟩
    simp (disch := first | omega | assumption | (simp; done) | fail) [if_pos, if_neg, leaves_iff, Try.f35, keepL_all hb, htk0]
end Go.AM
