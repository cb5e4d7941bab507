/- Writeback: runs gives an iterator. -/
import Derived.Test.YtfmdbbpeeppiiaaWb9
import Derived.Test.YtfmdbbpeeppiiaaAmG3
set_option linter.all false

namespace Go.AM
open Go Go.Proofs

noncomputable def F44 : List AV → List AO → Option (AV × List AO) := specG (ι := List Mp × Int) (fun x => [.sl 0 1 2 0 x.1.length, I x.2]) (fun x => [.vec 1 2 false (prows x.1)]) (fun _ => .fn 53 [.bp 1 0, .bp 2 0]) (fun x => [.vec 1 2 false (prows x.1), .box [.sl 0 1 2 0 x.1.length], .box [I x.2]])
theorem F44_at (L : List Mp) (m : Int) : F44 [.sl 0 1 2 0 L.length, I m] [.vec 1 2 false (prows L)] = some (.fn 53 [.bp 1 0, .bp 2 0], [.vec 1 2 false (prows L), .box [.sl 0 1 2 0 L.length], .box [I m]]) :=
  specG_eq (A := fun x : List Mp × Int => [AV.sl 0 1 2 0 x.1.length, I x.2]) (M := fun x => [AO.vec 1 2 false (prows x.1)]) (R := fun _ => AV.fn 53 [.bp 1 0, .bp 2 0]) (O := fun x => [.vec 1 2 false (prows x.1), .box [.sl 0 1 2 0 x.1.length], .box [I x.2]]) (L, m) (by
    rintro ⟨L', m'⟩ e1 e2
    simp only [List.cons.injEq, AO.vec.injEq, prows_inj, true_and, and_true] at e2
    simp only [List.cons.injEq, AV.v.injEq, Value.int.injEq, true_and, and_true] at e1
    obtain ⟨_, rfl⟩ := e1
    subst e2
    exact ⟨rfl, rfl⟩)
theorem s44 (X : AX) (hX : XOK Try.prog X) : GSound Try.prog 44 F44 := by
  refine gsound_spec Try.func44 rfl X fun ⟨L, m⟩ w0 l E => ⟨by show 2 ≤ 6; decide, ?_⟩
  simp only
  show AW ⟨Try.prog, X, 6, w0, ⟨l, E, 1⟩⟩ _ _ _
  have hc : Cx.OK ⟨Try.prog, X, 6, w0, ⟨l, E, 1⟩⟩ := ⟨hX, mixed⟩
  repeat' (first | (apply aw_seq_k; intro K hK) | (refine aw_run hc (by first | exact aw_nod | (intro _; rw [ordB_w hw]; kernel_rfl) | (intro _; rw [ordB_w0 hw0]; kernel_rfl) | (intro _; kernel_rfl)) ?_; simp [List.zipIdx, enterS, -getM, getM_hit, getM_miss, getM_none]; (repeat (simp (disch := first | omega | assumption | fail) only [if_pos, if_neg, wrap64]; try simp [List.zipIdx, enterS, -getM, getM_hit, getM_miss, getM_none])); try (repeat' (refine guardQ_split (fun h => ?_) (fun h => ?_) <;> simp at h <;> (simp [List.zipIdx, enterS, -getM, getM_hit, getM_miss, getM_none]; (repeat (simp (disch := first | omega | assumption | fail) only [if_pos, if_neg, wrap64]; try simp [List.zipIdx, enterS, -getM, getM_hit, getM_miss, getM_none])))))) | (refine aw_cond (b := _) (by exact rfl) (fun h => ?_) (fun h => ?_) <;> (try simp at h)) | (refine aw_block ?_) | (refine aw_skip ?_; simp only [thenQ, blockQ, if_true]) | (refine aw_exit ?_; simp [thenQ, blockQ]) | (refine aw_ret ?_; simp only [thenQ, blockQ]) | (refine aw_round ?_) | (refine hK _ ?_; clear hK) | (clear hK; refine hK _ ?_; clear hK) | (clear hK; clear hK; refine hK _ ?_; clear hK) | (clear hK; clear hK; clear hK; refine hK _ ?_; clear hK))
  refine ⟨by simp, _, by simp [aResults, aResult, Try.f44]; rfl, ?_⟩
  refine le_turn (s1 := ?tus1) (m1 := ?tum1) [(17, 2)] [0] [0, 1, 17] ?tua1 ?tub1 ?tuc1 ?tud1 ?tue1 ?tuf1 ?tug1
  case tua1 => first | (simp [keepS]; done) | (simp [keepS]; rfl)
  case tub1 => first | (simp; done) | (simp; rfl)
  case tuc1 => simp
  case tud1 => simp
  case tue1 => simp
  case tuf1 => simp
  case tug1 =>
    simp [swp, vr]
    exact le_of2 (by simp) (by simp [AVle, AV.under, AV.underL] <;> omega) (by simp [AOle, AO.under, AV.underL, AV.under] <;> omega)
end Go.AM
