/- A part of the proof: what functions of the program compute, by abstract execution of their code. Its theorems hold without further condition. -/
import Derived.Test.YtjdahonmgfhpgaaAmQ
import Derived.Test.YtjdahonmgfhpgaaBd2
set_option linter.all false
namespace Go.AM
open Go Go.Proofs

theorem x60 : ExtOK Try.prog 60 ovlF :=
  ovl_ok (tR := 4) Try.func60 (by kernel_rfl) (by kernel_rfl) (by kernel_rfl) (by kernel_rfl) ty22 rfl ty3

theorem ins_shift {α : Type} {L P S A : List α} {x : α} {i n : Nat} (hL : L = P ++ S) (hi : P.length = i) (hn : L.length = n) (h1 : 1 ≤ A.length) (hS : i < n) :
    P ++ x :: S = List.take (n + 1) (List.take i (List.take (i + 1) (L ++ A) ++ (List.take (n - i) (List.take (n + 1 - i) (List.drop i (L ++ A))) ++ List.drop (i + 1 + (n - i)) (L ++ A))) ++
      (List.take 1 [x] ++ List.drop (i + 1) (List.take (i + 1) (L ++ A) ++ (List.take (n - i) (List.take (n + 1 - i) (List.drop i (L ++ A))) ++ List.drop (i + 1 + (n - i)) (L ++ A))))) := by
  subst hL hi
  obtain ⟨s, S, rfl⟩ : ∃ s S', S = s :: S' := by cases S with | nil => simp at hn; omega | cons a b => exact ⟨a, b, rfl⟩
  obtain ⟨a, A, rfl⟩ : ∃ s S', A = s :: S' := by cases A with | nil => simp at h1 | cons a b => exact ⟨a, b, rfl⟩
  subst hn
  rw [List.length_append]
  have e1 : List.take (P.length + 1) (P ++ s :: S ++ a :: A) = P ++ [s] := by simp [List.take_append, List.take_of_length_le]
  have e2 : List.drop P.length (P ++ s :: S ++ a :: A) = s :: S ++ a :: A := by simp
  have e3 : P.length + (s :: S).length - P.length = (s :: S).length := by omega
  have e4 : P.length + (s :: S).length + 1 - P.length = (s :: S).length + 1 := by omega
  have e5 : List.take (s :: S).length (List.take ((s :: S).length + 1) (s :: S ++ a :: A)) = s :: S := by rw [List.take_take, Nat.min_eq_left (by omega)]; simp
  have e6 : List.drop (P.length + 1 + (s :: S).length) (P ++ s :: S ++ a :: A) = A := by
    rw [show P.length + 1 + (s :: S).length = (P ++ s :: S).length + 1 by simp; omega, ← List.drop_drop, List.drop_left]; simp
  rw [e1, e2, e3, e4, e5, e6]
  have e7 : List.take P.length (P ++ [s] ++ (s :: S ++ A)) = P := by simp
  have e8 : List.drop (P.length + 1) (P ++ [s] ++ (s :: S ++ A)) = s :: S ++ A := by
    rw [show P.length + 1 = (P ++ [s]).length by simp, List.drop_left]
  rw [e7, e8]
  have e9 : P ++ ([x].take 1 ++ (s :: S ++ A)) = (P ++ x :: s :: S) ++ A := by simp
  rw [e9, show P.length + (s :: S).length + 1 = (P ++ x :: s :: S).length by simp; omega, List.take_left]

theorem ins_grow {α : Type} {L P S Z D : List α} {x : α} {i n : Nat} (hL : L = P ++ S) (hi : P.length = i) (hn : L.length = n) :
    P ++ x :: S = List.take (n + 1) (List.take (i + 1) (List.take i (List.take i (L ++ []) ++ Z) ++ (List.take 1 [x] ++ List.drop (i + 1) (List.take i (L ++ []) ++ Z))) ++ (List.take (n - i) (List.take (n - i) (List.drop i (L ++ []))) ++ D)) := by
  subst hL hi hn
  rw [List.length_append]
  have e0 : List.take P.length (P ++ S ++ []) = P := by simp
  have e1 : List.take P.length (P ++ Z) = P := by simp
  have e2 : List.take (P.length + 1) (P ++ (List.take 1 [x] ++ List.drop (P.length + 1) (P ++ Z))) = P ++ [x] := by simp [List.take_append, List.take_of_length_le]
  have e4 : List.take (P.length + S.length - P.length) (List.take (P.length + S.length - P.length) (List.drop P.length (P ++ S ++ []))) = S := by
    rw [show P.length + S.length - P.length = S.length by omega]; simp
  rw [e0, e1, e2, e4]
  have e3 : P ++ [x] ++ (S ++ D) = (P ++ x :: S) ++ D := by simp
  rw [e3, show P.length + S.length + 1 = (P ++ x :: S).length by simp; omega, List.take_left]

theorem s51 (X : AX) (hX : XOK Try.prog X) (h60 : X.call 60 = ovlF) : MSound Try.prog 51 (specM (ι := {x : List Int × Nat × Int // x.2.1 ≤ x.1.length ∧ x.1.length ≤ 1000000}) (fun x => .ow 1 (irows x.1.1)) (fun x => [I x.1.2.1, .rd 1 (irows [x.1.2.2])]) (fun x => retOf [.ow 1 (irows (x.1.1.take x.1.2.1 ++ x.1.2.2 :: x.1.1.drop x.1.2.1))]) fun _ => .any) := by
  refine msound_cap_spec Try.func51 rfl X fun ⟨⟨l, i, x⟩, hi, hl⟩ w0 bl E m => ⟨by show 3 ≤ 95; decide, rfl, ?_⟩
  simp only at hi hl
  show AW ⟨Try.prog, X, 95, w0, ⟨bl, E, 1⟩⟩ _ _ _
  have hc : Cx.OK ⟨Try.prog, X, 95, w0, ⟨bl, E, 1⟩⟩ := ⟨hX, mixed⟩
  have hm : m = 0 ∨ 1 ≤ m := by omega
  have hP : irows l = irows (l.take i) ++ irows (l.drop i) := by rw [irows_append, List.take_append_drop]
  have hR : irows (l.take i ++ x :: l.drop i) = irows (l.take i) ++ [I x] :: irows (l.drop i) := by simp [irows]
  have hPl : (irows (l.take i)).length = i := by simp; omega
  rcases hm with rfl | hm
  · repeat' (first | (apply aw_seq_k; intro K hK) | (refine aw_run hc (by first | exact aw_nod | (intro _; rw [ordB_w hw]; kernel_rfl) | (intro _; kernel_rfl)) ?_; simp (disch := first | omega | assumption | (simp; done) | fail) [if_pos, if_neg, List.zipIdx, Int.ofNat_inj, h60, ovlF, wrap64]; try (repeat' (refine guardQ_split (fun h => ?_) (fun h => ?_) <;> simp at h <;> simp (disch := first | omega | assumption | (simp; done) | fail) [if_pos, if_neg, List.zipIdx, Int.ofNat_inj, h60, ovlF, wrap64]))) | (refine aw_cond (b := _) (by exact rfl) (fun h => ?_) (fun h => ?_) <;> (try simp at h)) | (refine aw_block ?_) | (refine aw_skip ?_; simp only [thenQ, blockQ, if_true]) | (refine aw_exit ?_; simp [thenQ, blockQ]) | (refine aw_ret ?_; simp only [thenQ, blockQ]) | (refine hK _ ?_; clear hK) | (clear hK; refine hK _ ?_; clear hK) | (clear hK; clear hK; refine hK _ ?_; clear hK) | (clear hK; clear hK; clear hK; refine hK _ ?_; clear hK))
    all_goals first | (exfalso; omega) | skip
    all_goals (refine ⟨by simp, leavesM_any ?_⟩; simp (disch := first | omega | assumption | (simp; done) | fail) [if_pos, if_neg, leaves_iff, Try.f51])
    · subst h
      rw [irows_append]
      simp [List.take_of_length_le]
    · rw [hR]
      exact ins_grow hP hPl (irows_length l)
  · repeat' (first | (apply aw_seq_k; intro K hK) | (refine aw_run hc (by first | exact aw_nod | (intro _; rw [ordB_w hw]; kernel_rfl) | (intro _; kernel_rfl)) ?_; simp (disch := first | omega | assumption | (simp; done) | fail) [if_pos, if_neg, List.zipIdx, Int.ofNat_inj, h60, ovlF, wrap64]; try (repeat' (refine guardQ_split (fun h => ?_) (fun h => ?_) <;> simp at h <;> simp (disch := first | omega | assumption | (simp; done) | fail) [if_pos, if_neg, List.zipIdx, Int.ofNat_inj, h60, ovlF, wrap64]))) | (refine aw_cond (b := _) (by exact rfl) (fun h => ?_) (fun h => ?_) <;> (try simp at h)) | (refine aw_block ?_) | (refine aw_skip ?_; simp only [thenQ, blockQ, if_true]) | (refine aw_exit ?_; simp [thenQ, blockQ]) | (refine aw_ret ?_; simp only [thenQ, blockQ]) | (refine hK _ ?_; clear hK) | (clear hK; refine hK _ ?_; clear hK) | (clear hK; clear hK; refine hK _ ?_; clear hK) | (clear hK; clear hK; clear hK; refine hK _ ?_; clear hK))
    all_goals first | (exfalso; omega) | skip
    all_goals (refine ⟨by simp, leavesM_any ?_⟩; simp (disch := first | omega | assumption | (simp; done) | fail) [if_pos, if_neg, leaves_iff, Try.f51])
    · subst h
      rw [← List.append_assoc, irows_append, List.take_append_of_le_length (by simp), List.take_of_length_le (by simp)]
      simp [List.take_of_length_le]
    · rw [hR]
      exact ins_shift hP hPl (irows_length l) (by simpa using hm) (by omega)
end Go.AM
