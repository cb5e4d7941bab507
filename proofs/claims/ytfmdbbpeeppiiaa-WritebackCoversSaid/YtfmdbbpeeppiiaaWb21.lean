/- Writeback: slices.Reverse at runs. -/
import Derived.Test.YtfmdbbpeeppiiaaWb9
set_option linter.all false

namespace Go.AM
open Go Go.Proofs

theorem gd_set {l : List Tp} {i j : Nat} {v : Tp} (hi : i < l.length) : gd (l.set i v) j = if i = j then v else gd l j := by
  unfold gd
  rw [List.getD_eq_getElem?_getD, List.getD_eq_getElem?_getD, List.getElem?_set]
  by_cases h : i = j
  · subst h; simp [hi]
  · simp [h]
theorem gd_ext {a b : List Tp} (hl : a.length = b.length) (h : ∀ j, j < a.length → gd a j = gd b j) : a = b := by
  refine List.ext_getElem hl fun j h1 h2 => ?_
  have := h j h1
  rwa [gd_eq h1, gd_eq h2] at this
theorem gd_reverse {l : List Tp} {j : Nat} (h : j < l.length) : gd l.reverse j = gd l (l.length - 1 - j) := by
  rw [gd_eq (by simpa using h), gd_eq (by omega), List.getElem_reverse]
/-- Turned round up to i. -/
def revI (l : List Tp) (i : Nat) (L : List Tp) : Prop := 2 * i ≤ l.length ∧ L.length = l.length ∧ ∀ j, j < l.length → gd L j = if j < i ∨ l.length - i ≤ j then gd l (l.length - 1 - j) else gd l j
theorem revI_end {l L : List Tp} {i : Nat} (h : revI l i L) (he : l.length ≤ 2 * i + 1) : L = l.reverse := by
  obtain ⟨h1, h2, h3⟩ := h
  refine gd_ext (by rw [h2, List.length_reverse]) fun j hj => ?_
  rw [h2] at hj
  rw [h3 j hj, gd_reverse hj]
  by_cases hc : j < i ∨ l.length - i ≤ j
  · rw [if_pos hc]
  · rw [if_neg hc]
    congr 1
    omega
theorem revI_step {l L : List Tp} {i : Nat} (h : revI l i L) (he : 2 * i + 1 < l.length) : revI l (i + 1) ((L.set i (gd L (l.length - 1 - i))).set (l.length - 1 - i) (gd L i)) := by
  obtain ⟨h1, h2, h3⟩ := h
  refine ⟨by omega, by simp [h2], fun j hj => ?_⟩
  rw [gd_set (by simp; omega), gd_set (by omega)]
  by_cases e1 : l.length - 1 - i = j
  · rw [if_pos e1, if_pos (by omega), h3 i (by omega), if_neg (by omega)]
    congr 1; omega
  · rw [if_neg e1]
    by_cases e2 : i = j
    · rw [if_pos e2, if_pos (by omega), h3 _ (by omega), if_neg (by omega)]
      congr 1; omega
    · rw [if_neg e2, h3 j hj]
      by_cases hc : j < i ∨ l.length - i ≤ j
      · rw [if_pos hc, if_pos (by omega)]
      · rw [if_neg hc, if_neg (by omega)]

noncomputable def F27 : AV → List AV → Option (AV × AV) := specM (ι := {x : List Tp // x.length ≤ 1000000}) (fun x => .ow 3 (drows x.1)) (fun _ => []) (fun _ => retOf []) fun x => .ow 3 (drows x.1.reverse)
theorem F27_at (l : List Tp) (h : l.length ≤ 1000000) : F27 (.ow 3 (drows l)) [] = some (.tup [], .ow 3 (drows l.reverse)) :=
  specM_eq (A0 := fun x : {x : List Tp // x.length ≤ 1000000} => AV.ow 3 (drows x.1)) (A := fun _ => []) (R := fun _ => retOf []) (O := fun x => .ow 3 (drows x.1.reverse)) ⟨l, h⟩ (by
    rintro ⟨l', h1⟩ e1 e2
    simp only [AV.ow.injEq, drows_inj, true_and] at e1
    subst e1
    exact ⟨rfl, rfl⟩)

set_option maxHeartbeats 1000000 in
theorem s27 (X : AX) (hX : XOK Try.prog X) (hw : X.W wT) : MSound Try.prog 27 F27 := by
  refine msound_spec Try.func27 rfl X fun ⟨l, hl⟩ w0 bl E => ⟨by show 1 ≤ 28; decide, rfl, ?_⟩
  show AW ⟨Try.prog, X, 28, w0, ⟨bl, E, 1⟩⟩ _ _ _
  have hc : Cx.OK ⟨Try.prog, X, 28, w0, ⟨bl, E, 1⟩⟩ := ⟨hX, mixed⟩
  repeat' (first | (apply aw_seq_k; intro K hK) | (refine aw_run hc (by first | exact aw_nod | (intro _; rw [ordB_w hw]; kernel_rfl) | (intro _; rw [ordB_w0 hw0]; kernel_rfl) | (intro _; kernel_rfl)) ?_; simp [List.zipIdx, -getM, getM_hit, getM_miss, getM_none]; (repeat (simp (disch := first | omega | assumption | fail) only [if_pos, if_neg, wrap64]; try simp [List.zipIdx, -getM, getM_hit, getM_miss, getM_none])); try (repeat' (refine guardQ_split (fun h => ?_) (fun h => ?_) <;> simp at h <;> (simp [List.zipIdx, -getM, getM_hit, getM_miss, getM_none]; (repeat (simp (disch := first | omega | assumption | fail) only [if_pos, if_neg, wrap64]; try simp [List.zipIdx, -getM, getM_hit, getM_miss, getM_none])))))) | (refine aw_cond (b := _) (by exact rfl) (fun h => ?_) (fun h => ?_) <;> (try simp at h)) | (refine aw_block ?_) | (refine aw_skip ?_; simp only [thenQ, blockQ, if_true]) | (refine aw_exit ?_; simp [thenQ, blockQ]) | (refine aw_ret ?_; simp only [thenQ, blockQ]) | (refine aw_round ?_) | (refine hK _ ?_; clear hK) | (clear hK; refine hK _ ?_; clear hK) | (clear hK; clear hK; refine hK _ ?_; clear hK) | (clear hK; clear hK; clear hK; refine hK _ ?_; clear hK))
  refine aw_loopK (s0 := ?lps1) (m0 := ?lpm1) (ι := {x : Nat × List Tp // revI l x.1 x.2}) [0] (fun x => [(2, I x.1.1), (3, I ((l.length : Int) - 1 - x.1.1))]) (fun x => [(0, .vec 1 3 false (drows x.1.2))]) (fun x => l.length - x.1.1) ⟨(0, l), by omega, rfl, fun j hj => by rw [if_neg (by simp only; omega)]⟩ ?lhs1 ?lhm1 ?_ ?_
  case lhs1 => first | (simp [keepS]; done) | (simp [keepS]; rfl)
  case lhm1 => first | rfl | (simp; done) | (simp; rfl)
  · exact le_of2 (by simp) (by simp [AVle, AV.under, AV.underL] <;> omega) (by simp [AOle, AO.under, AV.underL, AV.under] <;> omega)
  · rintro ⟨⟨i, L⟩, hI⟩
    simp only at hI ⊢
    have hLl := hI.2.1
    have hi2 := hI.1
    rcases Decidable.em (2 * i + 1 < l.length) with hil | hil
    · have hilI : (i : Int) < (l.length : Int) - 1 - i := by omega
      have hn := revI_step hI hil
      obtain ⟨j, hj⟩ : ∃ j, j = l.length - 1 - i := ⟨_, rfl⟩
      have hjI : (l.length : Int) - 1 - i = (j : Int) := by omega
      rw [← hj] at hn
      rw [hjI] at hilI ⊢
      have hij : i < j := by omega
      have hjl : j < l.length := by omega
      have hg1 := drows_gi (l := L) (n := i) (by omega)
      have hgE1 := drows_gE (l := L) (n := i) (by omega)
      have hg2 := drows_gi (l := L) (n := j) (by omega)
      have hgE2 := drows_gE (l := L) (n := j) (by omega)
      obtain ⟨⟨x, y, z⟩, hm⟩ : ∃ m, m = gd L i := ⟨_, rfl⟩
      obtain ⟨⟨u, v, t⟩, hm2⟩ : ∃ m, m = gd L j := ⟨_, rfl⟩
      rw [← hm] at hg1 hgE1 hn
      rw [← hm2] at hg2 hgE2 hn
      simp only at hg1 hgE1 hg2 hgE2
      have hgE3 := drows_gE (l := L.set i (u, v, t)) (n := j) (by simp; omega)
      rw [gd_set (by omega), if_neg (by omega), ← hm2] at hgE3
      simp only at hgE3
      repeat' (first | (apply aw_seq_k; intro K hK) | (refine aw_run hc (by first | exact aw_nod | (intro _; rw [ordB_w hw]; kernel_rfl) | (intro _; rw [ordB_w0 hw0]; kernel_rfl) | (intro _; kernel_rfl)) ?_; simp [List.zipIdx, hilI, hij, hjl, hLl, hg1, hgE1, hg2, hgE2, hgE3, drows_set, -getM, getM_hit, getM_miss, getM_none]; (repeat (simp (disch := first | omega | assumption | fail) only [if_pos, if_neg, wrap64]; try simp [List.zipIdx, hilI, hij, hjl, hLl, hg1, hgE1, hg2, hgE2, hgE3, drows_set, -getM, getM_hit, getM_miss, getM_none])); try (repeat' (refine guardQ_split (fun h => ?_) (fun h => ?_) <;> simp at h <;> (simp [List.zipIdx, hilI, hij, hjl, hLl, hg1, hgE1, hg2, hgE2, hgE3, drows_set, -getM, getM_hit, getM_miss, getM_none]; (repeat (simp (disch := first | omega | assumption | fail) only [if_pos, if_neg, wrap64]; try simp [List.zipIdx, hilI, hij, hjl, hLl, hg1, hgE1, hg2, hgE2, hgE3, drows_set, -getM, getM_hit, getM_miss, getM_none])))))) | (refine aw_cond (b := _) (by exact rfl) (fun h => ?_) (fun h => ?_) <;> (try simp at h)) | (refine aw_block ?_) | (refine aw_skip ?_; simp only [thenQ, blockQ, if_true]) | (refine aw_exit ?_; simp [thenQ, blockQ]) | (refine aw_ret ?_; simp only [thenQ, blockQ]) | (refine aw_round ?_) | (refine hK _ ?_; clear hK) | (clear hK; refine hK _ ?_; clear hK) | (clear hK; clear hK; refine hK _ ?_; clear hK) | (clear hK; clear hK; clear hK; refine hK _ ?_; clear hK))
      refine ⟨i + 1, _, ?_, hn, by omega⟩
      refine le_turn (s1 := ?tus2) (m1 := ?tum2) [] [0, 2, 3] [0] ?tua2 ?tub2 ?tuc2 ?tud2 ?tue2 ?tuf2 ?tug2
      case tua2 => first | (simp [keepS]; done) | (simp [keepS]; rfl)
      case tub2 => first | (simp; done) | (simp; rfl)
      case tuc2 => simp
      case tud2 => simp
      case tue2 => simp
      case tuf2 => simp
      case tug2 =>
        simp [swp, vr]
        exact le_of2 (by simp) (by simp [AVle, AV.under, AV.underL] <;> omega) (by simp [AOle, AO.under, AV.underL, AV.under] <;> omega)
    · have hilI : ¬ (i : Int) < (l.length : Int) - 1 - i := by omega
      have he := revI_end hI (by omega)
      subst he
      repeat' (first | (apply aw_seq_k; intro K hK) | (refine aw_run hc (by first | exact aw_nod | (intro _; rw [ordB_w hw]; kernel_rfl) | (intro _; rw [ordB_w0 hw0]; kernel_rfl) | (intro _; kernel_rfl)) ?_; simp [List.zipIdx, hilI, -getM, getM_hit, getM_miss, getM_none]; (repeat (simp (disch := first | omega | assumption | fail) only [if_pos, if_neg, wrap64]; try simp [List.zipIdx, hilI, -getM, getM_hit, getM_miss, getM_none])); try (repeat' (refine guardQ_split (fun h => ?_) (fun h => ?_) <;> simp at h <;> (simp [List.zipIdx, hilI, -getM, getM_hit, getM_miss, getM_none]; (repeat (simp (disch := first | omega | assumption | fail) only [if_pos, if_neg, wrap64]; try simp [List.zipIdx, hilI, -getM, getM_hit, getM_miss, getM_none])))))) | (refine aw_cond (b := _) (by exact rfl) (fun h => ?_) (fun h => ?_) <;> (try simp at h)) | (refine aw_block ?_) | (refine aw_skip ?_; simp only [thenQ, blockQ, if_true]) | (refine aw_exit ?_; simp [thenQ, blockQ]) | (refine aw_ret ?_; simp only [thenQ, blockQ]) | (refine aw_round ?_) | (refine hK _ ?_; clear hK) | (clear hK; refine hK _ ?_; clear hK) | (clear hK; clear hK; refine hK _ ?_; clear hK) | (clear hK; clear hK; clear hK; refine hK _ ?_; clear hK))
      refine leavesM_out ?_
      simp [leaves_iff]
      exact (List.take_of_length_le (by simp)).symm
end Go.AM
