/- Workingset: slices.Delete, Clone; the reference's cache with two lists. -/
import Derived.Test.YtpkbbmimfoakcaaWs5
set_option linter.all false

namespace Go.AM
open Go Go.Proofs

theorem irows_replicate (n : Nat) (x : Int) : List.replicate n [AV.v (.int .i64 x)] = irows (List.replicate n x) := by simp [irows, I]

noncomputable def F32 : AV → List AV → Option (AV × AV) := specM (ι := {x : List Int × Nat × Nat // x.2.1 ≤ x.2.2 ∧ x.2.2 ≤ x.1.length ∧ x.1.length ≤ 1000000}) (fun x => .ow 1 (irows x.1.1)) (fun x => [I x.1.2.1, I x.1.2.2]) (fun x => retOf [.ow 1 (irows (x.1.1.take x.1.2.1 ++ x.1.1.drop x.1.2.2))]) fun _ => .any
theorem F32_at (l : List Int) (i j : Nat) (h : i ≤ j ∧ j ≤ l.length ∧ l.length ≤ 1000000) : F32 (.ow 1 (irows l)) [I i, I j] = some (.ow 1 (irows (l.take i ++ l.drop j)), .any) :=
  specM_eq (ι := {x : List Int × Nat × Nat // x.2.1 ≤ x.2.2 ∧ x.2.2 ≤ x.1.length ∧ x.1.length ≤ 1000000}) (A0 := fun x => .ow 1 (irows x.1.1)) (A := fun x => [I x.1.2.1, I x.1.2.2]) (R := fun x => retOf [.ow 1 (irows (x.1.1.take x.1.2.1 ++ x.1.1.drop x.1.2.2))]) (O := fun _ => .any) ⟨(l, i, j), h⟩ (by
    rintro ⟨⟨a, b, c⟩, h⟩ e1 e2
    simp [irows_inj] at e1 e2
    have e3 := Int.ofNat_inj.1 e2.1
    have e4 := Int.ofNat_inj.1 e2.2
    subst e1 e3 e4
    exact ⟨rfl, rfl⟩)
theorem s32 (X : AX) (hX : XOK Try.prog X) (hw : X.W wT) : MSound Try.prog 32 F32 := by
  refine msound_spec Try.func32 rfl X fun ⟨⟨l, i, j⟩, hij, hj, hl⟩ w0 bl E => ⟨by show 3 ≤ 33; decide, rfl, ?_⟩
  simp only at hij hj hl
  show AW ⟨Try.prog, X, 33, w0, ⟨bl, E, 1⟩⟩ _ _ _
  have hc : Cx.OK ⟨Try.prog, X, 33, w0, ⟨bl, E, 1⟩⟩ := ⟨hX, mixed⟩
  repeat' (first | (apply aw_seq_k; intro K hK) | (refine aw_run hc (by first | exact aw_nod | (intro _; rw [ordB_w hw]; kernel_rfl) | (intro _; rw [ordB_w0 hw0]; kernel_rfl) | (intro _; kernel_rfl)) ?_; simp (disch := first | omega | assumption | (simp; done) | fail) [if_pos, if_neg, List.zipIdx, Int.ofNat_inj]; try (repeat' (refine guardQ_split (fun h => ?_) (fun h => ?_) <;> simp at h <;> simp (disch := first | omega | assumption | (simp; done) | fail) [if_pos, if_neg, List.zipIdx, Int.ofNat_inj]))) | (refine aw_cond (b := _) (by exact rfl) (fun h => ?_) (fun h => ?_) <;> (try simp at h)) | (refine aw_block ?_) | (refine aw_skip ?_; simp only [thenQ, blockQ, if_true]) | (refine aw_exit ?_; simp [thenQ, blockQ]) | (refine aw_ret ?_; simp only [thenQ, blockQ]) | (refine hK _ ?_; clear hK) | (clear hK; refine hK _ ?_; clear hK) | (clear hK; clear hK; refine hK _ ?_; clear hK) | (clear hK; clear hK; clear hK; refine hK _ ?_; clear hK))
  · refine ⟨by simp, leavesM_any ?_⟩
    simp (disch := first | omega | assumption | (simp; done) | fail) [if_pos, if_neg, leaves_iff, Try.f32]
    subst h
    simp [List.take_of_length_le]
  · refine ⟨by simp, leavesM_any ?_⟩
    simp (disch := first | omega | assumption | (simp; done) | fail) [if_pos, if_neg, leaves_iff, Try.f32, irows_take, irows_drop, irows_append, irows_replicate]
    have e1 : l.take i ++ ((l.drop j).take (l.length - j) ++ l.drop (i + (l.length - j))) = (l.take i ++ l.drop j) ++ l.drop (i + (l.length - j)) := by
      rw [List.take_of_length_le (l := l.drop j) (by simp), List.append_assoc]
    have e2 : (l.take i ++ l.drop j).length = i + (l.length - j) := by simp; omega
    have key : ∀ (A B C : List Int) n, A.length = n → A = ((A ++ B).take n ++ C).take n := by
      intro A B C n h
      subst h
      simp
    rw [e1]
    exact congrArg irows (key _ _ _ _ e2)

theorem s33 (X : AX) (hX : XOK Try.prog X) : PSound Try.prog 33 (specF (ι := {x : List Int // x.length ≤ 1000000}) (fun x => [.rd 1 (irows x.1)]) fun x => retOf [.ow 1 (irows x.1)]) := by
  refine psound_spec hX mixed Try.func33 rfl fun ⟨l, hl⟩ w0 G => ⟨by show 1 ≤ 8; decide, rfl, ?_⟩
  show AW ⟨Try.prog, X, 8, w0, .pure G⟩ _ _ _
  have hc : Cx.OK ⟨Try.prog, X, 8, w0, .pure G⟩ := ⟨hX, mixed⟩
  cases l with
  | nil =>
    refine aw_cases_nil 0 1 rfl ?_ fun p n => ?_
    · repeat' (first | (apply aw_seq_k; intro K hK) | (refine aw_run hc (by first | exact aw_nod | (intro _; rw [ordB_w hw]; kernel_rfl) | (intro _; rw [ordB_w0 hw0]; kernel_rfl) | (intro _; kernel_rfl)) ?_; simp (disch := first | omega | assumption | (simp; done) | fail) [if_pos, if_neg, List.zipIdx]; try (repeat' (refine guardQ_split (fun h => ?_) (fun h => ?_) <;> simp at h <;> simp (disch := first | omega | assumption | (simp; done) | fail) [if_pos, if_neg, List.zipIdx]))) | (refine aw_cond (b := _) (by exact rfl) (fun h => ?_) (fun h => ?_) <;> (try simp at h)) | (refine aw_block ?_) | (refine aw_skip ?_; simp only [thenQ, blockQ, if_true]) | (refine aw_exit ?_; simp [thenQ, blockQ]) | (refine aw_ret ?_; simp only [thenQ, blockQ]) | (refine hK _ ?_; clear hK) | (clear hK; refine hK _ ?_; clear hK) | (clear hK; clear hK; refine hK _ ?_; clear hK) | (clear hK; clear hK; clear hK; refine hK _ ?_; clear hK))
      refine ⟨by simp, ?_⟩
      simp [leaves_iff, Try.f33, irows]
      try (first | omega | (refine decide_eq_decide.2 ?_; omega) | (refine decide_eq_false ?_; omega) | (refine decide_eq_true ?_; omega))
    · repeat' (first | (apply aw_seq_k; intro K hK) | (refine aw_run hc (by first | exact aw_nod | (intro _; rw [ordB_w hw]; kernel_rfl) | (intro _; rw [ordB_w0 hw0]; kernel_rfl) | (intro _; kernel_rfl)) ?_; simp (disch := first | omega | assumption | (simp; done) | fail) [if_pos, if_neg, List.zipIdx]; try (repeat' (refine guardQ_split (fun h => ?_) (fun h => ?_) <;> simp at h <;> simp (disch := first | omega | assumption | (simp; done) | fail) [if_pos, if_neg, List.zipIdx]))) | (refine aw_cond (b := _) (by exact rfl) (fun h => ?_) (fun h => ?_) <;> (try simp at h)) | (refine aw_block ?_) | (refine aw_skip ?_; simp only [thenQ, blockQ, if_true]) | (refine aw_exit ?_; simp [thenQ, blockQ]) | (refine aw_ret ?_; simp only [thenQ, blockQ]) | (refine hK _ ?_; clear hK) | (clear hK; refine hK _ ?_; clear hK) | (clear hK; clear hK; refine hK _ ?_; clear hK) | (clear hK; clear hK; clear hK; refine hK _ ?_; clear hK))
      refine ⟨by simp, ?_⟩
      simp [leaves_iff, Try.f33, irows]
      try (first | omega | (refine decide_eq_decide.2 ?_; omega) | (refine decide_eq_false ?_; omega) | (refine decide_eq_true ?_; omega))
  | cons x r =>
    simp at hl
    repeat' (first | (apply aw_seq_k; intro K hK) | (refine aw_run hc (by first | exact aw_nod | (intro _; rw [ordB_w hw]; kernel_rfl) | (intro _; rw [ordB_w0 hw0]; kernel_rfl) | (intro _; kernel_rfl)) ?_; simp (disch := first | omega | assumption | (simp; done) | fail) [if_pos, if_neg, List.zipIdx, irows]; try (repeat' (refine guardQ_split (fun h => ?_) (fun h => ?_) <;> simp at h <;> simp (disch := first | omega | assumption | (simp; done) | fail) [if_pos, if_neg, List.zipIdx, irows]))) | (refine aw_cond (b := _) (by exact rfl) (fun h => ?_) (fun h => ?_) <;> (try simp at h)) | (refine aw_block ?_) | (refine aw_skip ?_; simp only [thenQ, blockQ, if_true]) | (refine aw_exit ?_; simp [thenQ, blockQ]) | (refine aw_ret ?_; simp only [thenQ, blockQ]) | (refine hK _ ?_; clear hK) | (clear hK; refine hK _ ?_; clear hK) | (clear hK; clear hK; refine hK _ ?_; clear hK) | (clear hK; clear hK; clear hK; refine hK _ ?_; clear hK))
    refine ⟨by simp, ?_⟩
    simp [leaves_iff, Try.f33, irows]
    try (first | omega | (refine decide_eq_decide.2 ?_; omega) | (refine decide_eq_false ?_; omega) | (refine decide_eq_true ?_; omega))
    rw [List.take_of_length_le (by simp)]

/-- A list without a number. -/
def wo (l : List Int) (x : Int) : List Int := l.filter fun y => decide (y ≠ x)
theorem wo_succ {l : List Int} {x : Int} {i : Nat} (h : i < l.length) : wo (l.take (i + 1)) x = if gi l i = x then wo (l.take i) x else wo (l.take i) x ++ [gi l i] := by
  unfold wo
  rw [take_succ_gi h, List.filter_append]
  by_cases e : gi l i = x
  · rw [if_pos e]; simp [e]
  · rw [if_neg e]; simp [e]
theorem wo_len (l : List Int) (x : Int) : (wo l x).length ≤ l.length := List.length_filter_le _ _
theorem wo_not {l : List Int} {x : Int} (h : x ∉ l) : wo l x = l := by
  unfold wo
  exact List.filter_eq_self.2 fun y hy => by
    have : y ≠ x := fun e => h (e ▸ hy)
    simpa using this

theorem s36 (X : AX) (hX : XOK Try.prog X) : PSound Try.prog 36 (specF (ι := {x : List Int × Int // x.1.length ≤ 1000000}) (fun x => [.rd 1 (irows x.1.1), I x.1.2]) fun x => retOf [.ow 1 (irows (wo x.1.1 x.1.2))]) := by
  refine psound_spec hX mixed Try.func36 rfl fun ⟨⟨l, x⟩, hl⟩ w0 G => ⟨by show 2 ≤ 27; decide, rfl, ?_⟩
  show AW ⟨Try.prog, X, 27, w0, .pure G⟩ _ _ _
  have hc : Cx.OK ⟨Try.prog, X, 27, w0, .pure G⟩ := ⟨hX, mixed⟩
  simp only at hl ⊢
  repeat' (first | (apply aw_seq_k; intro K hK) | (refine aw_run hc (by first | exact aw_nod | (intro _; rw [ordB_w hw]; kernel_rfl) | (intro _; rw [ordB_w0 hw0]; kernel_rfl) | (intro _; kernel_rfl)) ?_; simp [List.zipIdx, -getM, getM_hit, getM_miss, getM_none]; (repeat (simp (disch := first | omega | assumption | fail) only [if_pos, if_neg, wrap64]; try simp [List.zipIdx, -getM, getM_hit, getM_miss, getM_none])); try (repeat' (refine guardQ_split (fun h => ?_) (fun h => ?_) <;> simp at h <;> (simp [List.zipIdx, -getM, getM_hit, getM_miss, getM_none]; (repeat (simp (disch := first | omega | assumption | fail) only [if_pos, if_neg, wrap64]; try simp [List.zipIdx, -getM, getM_hit, getM_miss, getM_none])))))) | (refine aw_cond (b := _) (by exact rfl) (fun h => ?_) (fun h => ?_) <;> (try simp at h)) | (refine aw_block ?_) | (refine aw_skip ?_; simp only [thenQ, blockQ, if_true]) | (refine aw_exit ?_; simp [thenQ, blockQ]) | (refine aw_ret ?_; simp only [thenQ, blockQ]) | (refine aw_round ?_) | (refine hK _ ?_; clear hK) | (clear hK; refine hK _ ?_; clear hK) | (clear hK; clear hK; refine hK _ ?_; clear hK) | (clear hK; clear hK; clear hK; refine hK _ ?_; clear hK))
  refine aw_weaken (le_nilslot (t := 5) (sz := 1) (by simp)) ?_
  refine aw_loopK (s0 := ?lps1) (m0 := ?lpm1) (ι := {i : Nat // i ≤ l.length}) [0, 1] (fun i => [(6, I i.1), (5, .sl 48 1 1 0 (wo (l.take i.1) x).length)]) (fun i => [(48, .vec 1 1 false (irows (wo (l.take i.1) x)))]) (fun i => l.length - i.1) ⟨0, by omega⟩ ?lhs1 ?lhm1 ?_ ?_
  case lhs1 => first | (simp [keepS]; done) | (simp [keepS]; rfl)
  case lhm1 => first | rfl | (simp; done) | (simp; rfl)
  · simp only [List.take_zero, wo, List.filter_nil, List.length_nil]
    exact le_of2 (by simp) (by simp [AVle, AV.under, AV.underL] <;> omega) (by simp [AOle, AO.under, AV.underL, AV.under] <;> omega)
  · rintro ⟨i, hi⟩
    simp only
    obtain ⟨A, hA⟩ : ∃ A, A = wo (l.take i) x := ⟨_, rfl⟩
    have hAl : A.length ≤ 1073741823 := by have := wo_len (l.take i) x; rw [← hA, List.length_take] at this; omega
    have hap : ∀ (A : List Int) (x : Int), irows A ++ [[I x]] = irows (A ++ [x]) := fun A x => by rw [irows_one, irows_append]
    rcases Decidable.em (i < l.length) with hil | hil
    · have hilI : (i : Int) < (l.length : Int) := by omega
      have hg := irows_gi hil
      have hgE : ∀ h, (irows l)[i]'h = [I (gi l i)] := fun h => by rw [List.getElem?_eq_getElem h] at hg; exact Option.some.inj hg
      have hs := wo_succ (x := x) hil
      rw [← hA] at hs ⊢
      rcases Decidable.em (gi l i = x) with he | he
      · rw [if_pos he] at hs
        rw [he] at hg hgE
        repeat' (first | (apply aw_seq_k; intro K hK) | (refine aw_run hc (by first | exact aw_nod | (intro _; rw [ordB_w hw]; kernel_rfl) | (intro _; rw [ordB_w0 hw0]; kernel_rfl) | (intro _; kernel_rfl)) ?_; simp [List.zipIdx, hilI, hg, hgE, -getM, getM_hit, getM_miss, getM_none]; (repeat (simp (disch := first | omega | assumption | fail) only [if_pos, if_neg, wrap64]; try simp [List.zipIdx, hilI, hg, hgE, -getM, getM_hit, getM_miss, getM_none])); try (repeat' (refine guardQ_split (fun h => ?_) (fun h => ?_) <;> simp at h <;> (simp [List.zipIdx, hilI, hg, hgE, -getM, getM_hit, getM_miss, getM_none]; (repeat (simp (disch := first | omega | assumption | fail) only [if_pos, if_neg, wrap64]; try simp [List.zipIdx, hilI, hg, hgE, -getM, getM_hit, getM_miss, getM_none])))))) | (refine aw_cond (b := _) (by exact rfl) (fun h => ?_) (fun h => ?_) <;> (try simp at h)) | (refine aw_block ?_) | (refine aw_skip ?_; simp only [thenQ, blockQ, if_true]) | (refine aw_exit ?_; simp [thenQ, blockQ]) | (refine aw_ret ?_; simp only [thenQ, blockQ]) | (refine aw_round ?_) | (refine hK _ ?_; clear hK) | (clear hK; refine hK _ ?_; clear hK) | (clear hK; clear hK; refine hK _ ?_; clear hK) | (clear hK; clear hK; clear hK; refine hK _ ?_; clear hK))
        refine ⟨i + 1, ?_, by omega, by omega⟩
        simp only [hs]
        exact le_of2 (by simp) (by simp [AVle, AV.under, AV.underL] <;> omega) (by simp [AOle, AO.under, AV.underL, AV.under] <;> omega)
      · rw [if_neg he] at hs
        repeat' (first | (apply aw_seq_k; intro K hK) | (refine aw_run hc (by first | exact aw_nod | (intro _; rw [ordB_w hw]; kernel_rfl) | (intro _; rw [ordB_w0 hw0]; kernel_rfl) | (intro _; kernel_rfl)) ?_; simp [List.zipIdx, hilI, hg, hgE, he, hap, tkI, hAl, -getM, getM_hit, getM_miss, getM_none]; (repeat (simp (disch := first | omega | assumption | fail) only [if_pos, if_neg, wrap64]; try simp [List.zipIdx, hilI, hg, hgE, he, hap, tkI, hAl, -getM, getM_hit, getM_miss, getM_none])); try (repeat' (refine guardQ_split (fun h => ?_) (fun h => ?_) <;> simp at h <;> (simp [List.zipIdx, hilI, hg, hgE, he, hap, tkI, hAl, -getM, getM_hit, getM_miss, getM_none]; (repeat (simp (disch := first | omega | assumption | fail) only [if_pos, if_neg, wrap64]; try simp [List.zipIdx, hilI, hg, hgE, he, hap, tkI, hAl, -getM, getM_hit, getM_miss, getM_none])))))) | (refine aw_cond (b := _) (by exact rfl) (fun h => ?_) (fun h => ?_) <;> (try simp at h)) | (refine aw_block ?_) | (refine aw_skip ?_; simp only [thenQ, blockQ, if_true]) | (refine aw_exit ?_; simp [thenQ, blockQ]) | (refine aw_ret ?_; simp only [thenQ, blockQ]) | (refine aw_round ?_) | (refine hK _ ?_; clear hK) | (clear hK; refine hK _ ?_; clear hK) | (clear hK; clear hK; refine hK _ ?_; clear hK) | (clear hK; clear hK; clear hK; refine hK _ ?_; clear hK))
        refine ⟨i + 1, ?_, by omega, by omega⟩
        simp only [hs]
        refine le_turn (s1 := ?tus2) (m1 := ?tum2) [] [0, 1, 5, 6] [48] ?tua2 ?tub2 ?tuc2 ?tud2 ?tue2 ?tuf2 ?tug2
        case tua2 => first | (simp [keepS]; done) | (simp [keepS]; rfl)
        case tub2 => first | (simp; done) | (simp; rfl)
        case tuc2 => simp
        case tud2 => simp
        case tue2 => simp
        case tuf2 => simp
        case tug2 =>
          simp [swp, vr]
          exact le_of2 (by simp) (by simp [AVle, AV.under, AV.underL] <;> omega) (by simp [AOle, AO.under, AV.underL, AV.under] <;> omega)
    · obtain rfl : i = l.length := by omega
      rw [List.take_length] at hA
      rw [List.take_length, ← hA]
      repeat' (first | (apply aw_seq_k; intro K hK) | (refine aw_run hc (by first | exact aw_nod | (intro _; rw [ordB_w hw]; kernel_rfl) | (intro _; rw [ordB_w0 hw0]; kernel_rfl) | (intro _; kernel_rfl)) ?_; simp [List.zipIdx, -getM, getM_hit, getM_miss, getM_none]; (repeat (simp (disch := first | omega | assumption | fail) only [if_pos, if_neg, wrap64]; try simp [List.zipIdx, -getM, getM_hit, getM_miss, getM_none])); try (repeat' (refine guardQ_split (fun h => ?_) (fun h => ?_) <;> simp at h <;> (simp [List.zipIdx, -getM, getM_hit, getM_miss, getM_none]; (repeat (simp (disch := first | omega | assumption | fail) only [if_pos, if_neg, wrap64]; try simp [List.zipIdx, -getM, getM_hit, getM_miss, getM_none])))))) | (refine aw_cond (b := _) (by exact rfl) (fun h => ?_) (fun h => ?_) <;> (try simp at h)) | (refine aw_block ?_) | (refine aw_skip ?_; simp only [thenQ, blockQ, if_true]) | (refine aw_exit ?_; simp [thenQ, blockQ]) | (refine aw_ret ?_; simp only [thenQ, blockQ]) | (refine aw_round ?_) | (refine hK _ ?_; clear hK) | (clear hK; refine hK _ ?_; clear hK) | (clear hK; clear hK; refine hK _ ?_; clear hK) | (clear hK; clear hK; clear hK; refine hK _ ?_; clear hK))
      refine ⟨by simp, ?_⟩
      simp [leaves_iff, Try.f36, hA, tkI]
      try (first | omega | (refine decide_eq_decide.2 ?_; omega) | (refine decide_eq_false ?_; omega) | (refine decide_eq_true ?_; omega))
end Go.AM
