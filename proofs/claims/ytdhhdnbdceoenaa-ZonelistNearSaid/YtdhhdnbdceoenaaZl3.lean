/- The chain of slices.SortFunc and slices.SortStableFunc for short slices. -/
import Derived.Test.YtdhhdnbdceoenaaZl2
import Derived.Test.YtdhhdnbdceoenaaAmT
import Derived.Test.YtdhhdnbdceoenaaAmW
set_option linter.all false

namespace Go.AM
open Go Go.Proofs

theorem insK_congr {k1 k2 : Int → Int} {x : Int} {S : List Int} (h : ∀ a ∈ S, (k1 a ≤ k1 x ↔ k2 a ≤ k2 x)) : insK k1 x S = insK k2 x S := by
  unfold insK
  have h1 : S.filter (fun y => decide (k1 y ≤ k1 x)) = S.filter (fun y => decide (k2 y ≤ k2 x)) := List.filter_congr fun a ha => decide_eq_decide.2 (h a ha)
  have h2 : S.filter (fun y => decide (k1 x < k1 y)) = S.filter (fun y => decide (k2 x < k2 y)) := List.filter_congr fun a ha => decide_eq_decide.2 (by have := h a ha; omega)
  rw [h1, h2]
theorem sortK_congr {k1 k2 : Int → Int} {l : List Int} (h : ∀ a ∈ l, ∀ b ∈ l, (k1 a ≤ k1 b ↔ k2 a ≤ k2 b)) : sortK k1 l = sortK k2 l := by
  have key : ∀ (r S : List Int), (∀ a ∈ S ++ r, ∀ b ∈ S ++ r, (k1 a ≤ k1 b ↔ k2 a ≤ k2 b)) → r.foldl (fun S x => insK k1 x S) S = r.foldl (fun S x => insK k2 x S) S := by
    intro r
    induction r with
    | nil => intro S _; rfl
    | cons x r ih =>
      intro S hS
      simp only [List.foldl_cons]
      rw [insK_congr (k1 := k1) (k2 := k2) (x := x) (S := S) fun a ha => hS a (by simp [ha]) x (by simp)]
      refine ih _ fun a ha b hb => hS a ?_ b ?_
      · simp only [List.mem_append, mem_insK, List.mem_cons] at ha ⊢
        rcases ha with (rfl | ha) | ha
        · exact .inr (.inl rfl)
        · exact .inl ha
        · exact .inr (.inr ha)
      · simp only [List.mem_append, mem_insK, List.mem_cons] at hb ⊢
        rcases hb with (rfl | hb) | hb
        · exact .inr (.inl rfl)
        · exact .inl hb
        · exact .inr (.inr hb)
  exact key l [] (by simpa using h)

theorem cmp_le {a b : Int} : cmpI a b ≤ 0 ↔ a ≤ b := by unfold cmpI; split <;> (try split) <;> omega
/-- A closure that compares by a key. -/
structure CmpOK (Y : AX) (l : List Int) (g : FuncId) (caps : List AV) (key : Int → Int) : Prop where
  und : ∀ n, AV.underL n caps
  peek : ∀ M, peekCaps M caps = some caps
  call : ∀ a b M n, a ∈ l → b ∈ l → Y.call g (I a :: I b :: caps) M n = some (I (cmpI (key a) (key b)), [])
theorem CmpOK.same {Y : AX} {l : List Int} {g : FuncId} {caps : List AV} {k1 k2 : Int → Int} (h1 : CmpOK Y l g caps k1) (h2 : CmpOK Y l g caps k2) : sortK k1 l = sortK k2 l :=
  sortK_congr fun a ha b hb => by
    have e1 := h1.call a b (fun _ => .dead) 0 ha hb
    rw [h2.call a b (fun _ => .dead) 0 ha hb] at e1
    simp only [Option.some.injEq, Prod.mk.injEq, AV.v.injEq, Value.int.injEq, true_and, and_true] at e1
    rw [← cmp_le, ← cmp_le (a := k2 a), e1]
structure SA (Y : AX) where
  l : List Int
  g : FuncId
  caps : List AV
  key : Int → Int
  hl : l.length ≤ 12
  ok : CmpOK Y l g caps key
theorem SA.inj {Y : AX} {x y : SA Y} (h : x.l = y.l) (hg : x.g = y.g) (hc : x.caps = y.caps) : sortK x.key x.l = sortK y.key y.l := by
  have h1 := x.ok
  rw [h, hg, hc] at h1
  rw [h]
  exact h1.same y.ok

noncomputable def F46 (Y : AX) : AV → List AV → Option (AV × AV) := specM (ι := SA Y) (fun x => .ow 1 (irows x.l)) (fun x => [I 0, I (x.l.length : Int), .fn x.g x.caps]) (fun _ => retOf []) fun x => .ow 1 (irows (sortK x.key x.l))
theorem F46_at {Y : AX} (x : SA Y) : F46 Y (.ow 1 (irows x.l)) [I 0, I (x.l.length : Int), .fn x.g x.caps] = some (.tup [], .ow 1 (irows (sortK x.key x.l))) :=
  specM_eq (A0 := fun x : SA Y => AV.ow 1 (irows x.l)) (A := fun x => [I 0, I (x.l.length : Int), .fn x.g x.caps]) (R := fun _ => retOf []) (O := fun x => .ow 1 (irows (sortK x.key x.l))) x fun j h1 h2 => by
    simp [irows_inj] at h1 h2
    exact ⟨rfl, by rw [SA.inj h1 h2.2.1 h2.2.2]⟩
theorem s46 (X : AX) (hX : XOK Try.prog X) (hw : X.W wT) : MSound Try.prog 46 (F46 X) := by
  refine msound_spec Try.func46 rfl X fun x w0 bl E => ⟨by show 4 ≤ 53; decide, rfl, ?_⟩
  exact s46_core X hX hw x.g x.caps x.ok.und x.key x.l x.hl x.ok.call w0 bl E

noncomputable def F41 (Y : AX) : AV → List AV → Option (AV × AV) := specM (ι := SA Y) (fun x => .ow 1 (irows x.l)) (fun x => [I 0, I (x.l.length : Int), .any, .fn x.g x.caps]) (fun _ => retOf []) fun x => .ow 1 (irows (sortK x.key x.l))
theorem F41_at {Y : AX} (x : SA Y) : F41 Y (.ow 1 (irows x.l)) [I 0, I (x.l.length : Int), .any, .fn x.g x.caps] = some (.tup [], .ow 1 (irows (sortK x.key x.l))) :=
  specM_eq (A0 := fun x : SA Y => AV.ow 1 (irows x.l)) (A := fun x => [I 0, I (x.l.length : Int), .any, .fn x.g x.caps]) (R := fun _ => retOf []) (O := fun x => .ow 1 (irows (sortK x.key x.l))) x fun j h1 h2 => by
    simp [irows_inj] at h1 h2
    exact ⟨rfl, by rw [SA.inj h1 h2.2.1 h2.2.2]⟩
attribute [simp] callK
theorem s41 (X Y : AX) (hX : XOK Try.prog X) (hw : X.W wT) (h46 : X.call 46 = callK (F46 Y)) : MSound Try.prog 41 (F41 Y) := by
  refine msound_spec Try.func41 rfl X fun x w0 bl E => ⟨by show 5 ≤ 148; decide, rfl, ?_⟩
  show AW ⟨Try.prog, X, 148, w0, ⟨bl, E, 1⟩⟩ _ _ _
  have hc : Cx.OK ⟨Try.prog, X, 148, w0, ⟨bl, E, 1⟩⟩ := ⟨hX, mixed⟩
  have hl := x.hl
  have hle : (x.l.length : Int) ≤ 12 := by omega
  have hpk := x.ok.peek
  have hat := F46_at x
  repeat' (first | (apply aw_seq_k; intro K hK) | (refine aw_run hc (by first | exact aw_nod | (intro _; rw [ordB_w hw]; kernel_rfl) | (intro _; kernel_rfl)) ?_; simp [List.zipIdx, -getM, getM_hit, getM_miss, getM_none]; (repeat (simp (disch := first | omega | assumption | fail) only [if_pos, if_neg, wrap64]; try simp [List.zipIdx, -getM, getM_hit, getM_miss, getM_none])); try (repeat' (refine guardQ_split (fun h => ?_) (fun h => ?_) <;> simp at h <;> (simp [List.zipIdx, -getM, getM_hit, getM_miss, getM_none]; (repeat (simp (disch := first | omega | assumption | fail) only [if_pos, if_neg, wrap64]; try simp [List.zipIdx, -getM, getM_hit, getM_miss, getM_none])))))) | (refine aw_cond (b := _) (by exact rfl) (fun h => ?_) (fun h => ?_) <;> (try simp at h)) | (refine aw_block ?_) | (refine aw_skip ?_; simp only [thenQ, blockQ, if_true]) | (refine aw_exit ?_; simp [thenQ, blockQ]) | (refine aw_ret ?_; simp only [thenQ, blockQ]) | (refine aw_round ?_) | (refine hK _ ?_; clear hK) | (clear hK; refine hK _ ?_; clear hK) | (clear hK; clear hK; refine hK _ ?_; clear hK) | (clear hK; clear hK; clear hK; refine hK _ ?_; clear hK))
  refine aw_rounds 1 (aw_round ?_)
  repeat' (first | (apply aw_seq_k; intro K hK) | (refine aw_run hc (by first | exact aw_nod | (intro _; rw [ordB_w hw]; kernel_rfl) | (intro _; kernel_rfl)) ?_; simp [List.zipIdx, h46, hle, hpk, hat, sortK_len, -getM, getM_hit, getM_miss, getM_none]; (repeat (simp (disch := first | omega | assumption | fail) only [if_pos, if_neg, wrap64]; try simp [List.zipIdx, h46, hle, hpk, hat, sortK_len, -getM, getM_hit, getM_miss, getM_none])); try (repeat' (refine guardQ_split (fun h => ?_) (fun h => ?_) <;> simp at h <;> (simp [List.zipIdx, h46, hle, hpk, hat, sortK_len, -getM, getM_hit, getM_miss, getM_none]; (repeat (simp (disch := first | omega | assumption | fail) only [if_pos, if_neg, wrap64]; try simp [List.zipIdx, h46, hle, hpk, hat, sortK_len, -getM, getM_hit, getM_miss, getM_none])))))) | (refine aw_cond (b := _) (by exact rfl) (fun h => ?_) (fun h => ?_) <;> (try simp at h)) | (refine aw_block ?_) | (refine aw_skip ?_; simp only [thenQ, blockQ, if_true]) | (refine aw_exit ?_; simp [thenQ, blockQ]) | (refine aw_ret ?_; simp only [thenQ, blockQ]) | (refine aw_round ?_) | (refine hK _ ?_; clear hK) | (clear hK; refine hK _ ?_; clear hK) | (clear hK; clear hK; refine hK _ ?_; clear hK) | (clear hK; clear hK; clear hK; refine hK _ ?_; clear hK))
  first | refine ⟨.inr rfl, leavesM_out ?_⟩ | refine ⟨.inr trivial, leavesM_out ?_⟩ | refine leavesM_out ?_
  simp [leaveArg, sortK_len, take_irows', openArg, openVal, openLeaf, Try.f41]

noncomputable def F26 (Y : AX) : AV → List AV → Option (AV × AV) := specM (ι := SA Y) (fun x => .ow 1 (irows x.l)) (fun x => [.fn x.g x.caps]) (fun _ => retOf []) fun x => .ow 1 (irows (sortK x.key x.l))
theorem F26_at {Y : AX} (x : SA Y) : F26 Y (.ow 1 (irows x.l)) [.fn x.g x.caps] = some (.tup [], .ow 1 (irows (sortK x.key x.l))) :=
  specM_eq (A0 := fun x : SA Y => AV.ow 1 (irows x.l)) (A := fun x => [.fn x.g x.caps]) (R := fun _ => retOf []) (O := fun x => .ow 1 (irows (sortK x.key x.l))) x fun j h1 h2 => by
    simp [irows_inj] at h1 h2
    exact ⟨rfl, by rw [SA.inj h1 h2.1 h2.2]⟩
theorem s26 (X Y : AX) (hX : XOK Try.prog X) (hw : X.W wT) (h41 : X.call 41 = callK (F41 Y)) (h42 : ∀ n : Nat, n ≤ 12 → ∀ M k, X.call 42 [.v (.int .u64 n)] M k = some (.any, [])) : MSound Try.prog 26 (F26 Y) := by
  refine msound_spec Try.func26 rfl X fun x w0 bl E => ⟨by show 2 ≤ 14; decide, rfl, ?_⟩
  show AW ⟨Try.prog, X, 14, w0, ⟨bl, E, 1⟩⟩ _ _ _
  have hc : Cx.OK ⟨Try.prog, X, 14, w0, ⟨bl, E, 1⟩⟩ := ⟨hX, mixed⟩
  have hl := x.hl
  have hpk := x.ok.peek
  have hat := F41_at x
  have h42' := h42 x.l.length hl
  have hu := wrapU64 (n := (x.l.length : Int)) ⟨by omega, by omega⟩
  repeat' (first | (apply aw_seq_k; intro K hK) | (refine aw_run hc (by first | exact aw_nod | (intro _; rw [ordB_w hw]; kernel_rfl) | (intro _; kernel_rfl)) ?_; simp [List.zipIdx, hu, h41, h42', hpk, hat, sortK_len, -getM, getM_hit, getM_miss, getM_none]; (repeat (simp (disch := first | omega | assumption | fail) only [if_pos, if_neg, wrap64]; try simp [List.zipIdx, hu, h41, h42', hpk, hat, sortK_len, -getM, getM_hit, getM_miss, getM_none])); try (repeat' (refine guardQ_split (fun h => ?_) (fun h => ?_) <;> simp at h <;> (simp [List.zipIdx, hu, h41, h42', hpk, hat, sortK_len, -getM, getM_hit, getM_miss, getM_none]; (repeat (simp (disch := first | omega | assumption | fail) only [if_pos, if_neg, wrap64]; try simp [List.zipIdx, hu, h41, h42', hpk, hat, sortK_len, -getM, getM_hit, getM_miss, getM_none])))))) | (refine aw_cond (b := _) (by exact rfl) (fun h => ?_) (fun h => ?_) <;> (try simp at h)) | (refine aw_block ?_) | (refine aw_skip ?_; simp only [thenQ, blockQ, if_true]) | (refine aw_exit ?_; simp [thenQ, blockQ]) | (refine aw_ret ?_; simp only [thenQ, blockQ]) | (refine aw_round ?_) | (refine hK _ ?_; clear hK) | (clear hK; refine hK _ ?_; clear hK) | (clear hK; clear hK; refine hK _ ?_; clear hK) | (clear hK; clear hK; clear hK; refine hK _ ?_; clear hK))
  first | refine ⟨.inr rfl, leavesM_out ?_⟩ | refine ⟨.inr trivial, leavesM_out ?_⟩ | refine leavesM_out ?_
  simp [leaveArg, sortK_len, take_irows', openArg, openVal, openLeaf, Try.f41]

noncomputable def F44 (Y : AX) : AV → List AV → Option (AV × AV) := specM (ι := SA Y) (fun x => .ow 1 (irows x.l)) (fun x => [I (x.l.length : Int), .fn x.g x.caps]) (fun _ => retOf []) fun x => .ow 1 (irows (sortK x.key x.l))
theorem F44_at {Y : AX} (x : SA Y) : F44 Y (.ow 1 (irows x.l)) [I (x.l.length : Int), .fn x.g x.caps] = some (.tup [], .ow 1 (irows (sortK x.key x.l))) :=
  specM_eq (A0 := fun x : SA Y => AV.ow 1 (irows x.l)) (A := fun x => [I (x.l.length : Int), .fn x.g x.caps]) (R := fun _ => retOf []) (O := fun x => .ow 1 (irows (sortK x.key x.l))) x fun j h1 h2 => by
    simp [irows_inj] at h1 h2
    exact ⟨rfl, by rw [SA.inj h1 h2.2.1 h2.2.2]⟩
theorem s44 (X Y : AX) (hX : XOK Try.prog X) (hw : X.W wT) (h46 : X.call 46 = callK (F46 Y)) : MSound Try.prog 44 (F44 Y) := by
  refine msound_spec Try.func44 rfl X fun x w0 bl E => ⟨by show 3 ≤ 63; decide, rfl, ?_⟩
  show AW ⟨Try.prog, X, 63, w0, ⟨bl, E, 1⟩⟩ _ _ _
  have hc : Cx.OK ⟨Try.prog, X, 63, w0, ⟨bl, E, 1⟩⟩ := ⟨hX, mixed⟩
  have hl := x.hl
  have hle : ¬ (20 : Int) ≤ (x.l.length : Int) := by omega
  have hlt : ¬ (20 : Int) < (x.l.length : Int) := by omega
  have hpk := x.ok.peek
  have hat := F46_at x
  repeat' (first | (apply aw_seq_k; intro K hK) | (refine aw_run hc (by first | exact aw_nod | (intro _; rw [ordB_w hw]; kernel_rfl) | (intro _; kernel_rfl)) ?_; simp [List.zipIdx, -getM, getM_hit, getM_miss, getM_none]; (repeat (simp (disch := first | omega | assumption | fail) only [if_pos, if_neg, wrap64]; try simp [List.zipIdx, -getM, getM_hit, getM_miss, getM_none])); try (repeat' (refine guardQ_split (fun h => ?_) (fun h => ?_) <;> simp at h <;> (simp [List.zipIdx, -getM, getM_hit, getM_miss, getM_none]; (repeat (simp (disch := first | omega | assumption | fail) only [if_pos, if_neg, wrap64]; try simp [List.zipIdx, -getM, getM_hit, getM_miss, getM_none])))))) | (refine aw_cond (b := _) (by exact rfl) (fun h => ?_) (fun h => ?_) <;> (try simp at h)) | (refine aw_block ?_) | (refine aw_skip ?_; simp only [thenQ, blockQ, if_true]) | (refine aw_exit ?_; simp [thenQ, blockQ]) | (refine aw_ret ?_; simp only [thenQ, blockQ]) | (refine aw_round ?_) | (refine hK _ ?_; clear hK) | (clear hK; refine hK _ ?_; clear hK) | (clear hK; clear hK; refine hK _ ?_; clear hK) | (clear hK; clear hK; clear hK; refine hK _ ?_; clear hK))
  refine aw_rounds 1 (aw_round ?_)
  repeat' (first | (apply aw_seq_k; intro K hK) | (refine aw_run hc (by first | exact aw_nod | (intro _; rw [ordB_w hw]; kernel_rfl) | (intro _; kernel_rfl)) ?_; simp [List.zipIdx, h46, hle, hlt, hpk, hat, sortK_len, -getM, getM_hit, getM_miss, getM_none]; (repeat (simp (disch := first | omega | assumption | fail) only [if_pos, if_neg, wrap64]; try simp [List.zipIdx, h46, hle, hlt, hpk, hat, sortK_len, -getM, getM_hit, getM_miss, getM_none])); try (repeat' (refine guardQ_split (fun h => ?_) (fun h => ?_) <;> simp at h <;> (simp [List.zipIdx, h46, hle, hlt, hpk, hat, sortK_len, -getM, getM_hit, getM_miss, getM_none]; (repeat (simp (disch := first | omega | assumption | fail) only [if_pos, if_neg, wrap64]; try simp [List.zipIdx, h46, hle, hlt, hpk, hat, sortK_len, -getM, getM_hit, getM_miss, getM_none])))))) | (refine aw_cond (b := _) (by exact rfl) (fun h => ?_) (fun h => ?_) <;> (try simp at h)) | (refine aw_block ?_) | (refine aw_skip ?_; simp only [thenQ, blockQ, if_true]) | (refine aw_exit ?_; simp [thenQ, blockQ]) | (refine aw_ret ?_; simp only [thenQ, blockQ]) | (refine aw_round ?_) | (refine hK _ ?_; clear hK) | (clear hK; refine hK _ ?_; clear hK) | (clear hK; clear hK; refine hK _ ?_; clear hK) | (clear hK; clear hK; clear hK; refine hK _ ?_; clear hK))
  refine aw_rounds 1 (aw_round ?_)
  repeat' (first | (apply aw_seq_k; intro K hK) | (refine aw_run hc (by first | exact aw_nod | (intro _; rw [ordB_w hw]; kernel_rfl) | (intro _; kernel_rfl)) ?_; simp [List.zipIdx, h46, hle, hlt, hpk, hat, sortK_len, -getM, getM_hit, getM_miss, getM_none]; (repeat (simp (disch := first | omega | assumption | fail) only [if_pos, if_neg, wrap64]; try simp [List.zipIdx, h46, hle, hlt, hpk, hat, sortK_len, -getM, getM_hit, getM_miss, getM_none])); try (repeat' (refine guardQ_split (fun h => ?_) (fun h => ?_) <;> simp at h <;> (simp [List.zipIdx, h46, hle, hlt, hpk, hat, sortK_len, -getM, getM_hit, getM_miss, getM_none]; (repeat (simp (disch := first | omega | assumption | fail) only [if_pos, if_neg, wrap64]; try simp [List.zipIdx, h46, hle, hlt, hpk, hat, sortK_len, -getM, getM_hit, getM_miss, getM_none])))))) | (refine aw_cond (b := _) (by exact rfl) (fun h => ?_) (fun h => ?_) <;> (try simp at h)) | (refine aw_block ?_) | (refine aw_skip ?_; simp only [thenQ, blockQ, if_true]) | (refine aw_exit ?_; simp [thenQ, blockQ]) | (refine aw_ret ?_; simp only [thenQ, blockQ]) | (refine aw_round ?_) | (refine hK _ ?_; clear hK) | (clear hK; refine hK _ ?_; clear hK) | (clear hK; clear hK; refine hK _ ?_; clear hK) | (clear hK; clear hK; clear hK; refine hK _ ?_; clear hK))
  first | refine ⟨.inr rfl, leavesM_out ?_⟩ | refine ⟨.inr trivial, leavesM_out ?_⟩ | refine leavesM_out ?_
  simp [leaveArg, sortK_len, take_irows', openArg, openVal, openLeaf, Try.f41]

theorem s32 (X Y : AX) (hX : XOK Try.prog X) (hw : X.W wT) (h44 : X.call 44 = callK (F44 Y)) : MSound Try.prog 32 (F26 Y) := by
  refine msound_spec Try.func32 rfl X fun x w0 bl E => ⟨by show 2 ≤ 9; decide, rfl, ?_⟩
  show AW ⟨Try.prog, X, 9, w0, ⟨bl, E, 1⟩⟩ _ _ _
  have hc : Cx.OK ⟨Try.prog, X, 9, w0, ⟨bl, E, 1⟩⟩ := ⟨hX, mixed⟩
  have hl := x.hl
  have hpk := x.ok.peek
  have hat := F44_at x
  repeat' (first | (apply aw_seq_k; intro K hK) | (refine aw_run hc (by first | exact aw_nod | (intro _; rw [ordB_w hw]; kernel_rfl) | (intro _; kernel_rfl)) ?_; simp [List.zipIdx, h44, hpk, hat, sortK_len, -getM, getM_hit, getM_miss, getM_none]; (repeat (simp (disch := first | omega | assumption | fail) only [if_pos, if_neg, wrap64]; try simp [List.zipIdx, h44, hpk, hat, sortK_len, -getM, getM_hit, getM_miss, getM_none])); try (repeat' (refine guardQ_split (fun h => ?_) (fun h => ?_) <;> simp at h <;> (simp [List.zipIdx, h44, hpk, hat, sortK_len, -getM, getM_hit, getM_miss, getM_none]; (repeat (simp (disch := first | omega | assumption | fail) only [if_pos, if_neg, wrap64]; try simp [List.zipIdx, h44, hpk, hat, sortK_len, -getM, getM_hit, getM_miss, getM_none])))))) | (refine aw_cond (b := _) (by exact rfl) (fun h => ?_) (fun h => ?_) <;> (try simp at h)) | (refine aw_block ?_) | (refine aw_skip ?_; simp only [thenQ, blockQ, if_true]) | (refine aw_exit ?_; simp [thenQ, blockQ]) | (refine aw_ret ?_; simp only [thenQ, blockQ]) | (refine aw_round ?_) | (refine hK _ ?_; clear hK) | (clear hK; refine hK _ ?_; clear hK) | (clear hK; clear hK; refine hK _ ?_; clear hK) | (clear hK; clear hK; clear hK; refine hK _ ?_; clear hK))
  first | refine ⟨.inr rfl, leavesM_out ?_⟩ | refine ⟨.inr trivial, leavesM_out ?_⟩ | refine leavesM_out ?_
  simp [leaveArg, sortK_len, take_irows', openArg, openVal, openLeaf, Try.f41]
end Go.AM
