/- Rmap: Delete, DeleteFunc. -/
import Derived.Test.YtallcianhjejiaaRm7
set_option linter.all false

namespace Go.AM
open Go Go.Proofs

theorem prows_replicate (n : Nat) : List.replicate n [AV.v (.int .i64 0), AV.v (.int .i64 0)] = prows (List.replicate n (0, 0)) := by simp [prows, I]

theorem s37 (X : AX) (hX : XOK Try.prog X) (hw : X.W wT) : MSound Try.prog 37 (specM (ι := {x : List Mp × Nat × Nat // x.2.1 ≤ x.2.2 ∧ x.2.2 ≤ x.1.length ∧ x.1.length ≤ 1000000}) (fun x => .ow 2 (prows x.1.1)) (fun x => [I x.1.2.1, I x.1.2.2]) (fun x => retOf [.ow 2 (prows (x.1.1.take x.1.2.1 ++ x.1.1.drop x.1.2.2))]) fun _ => .any) := by
  refine msound_spec Try.func37 rfl X fun ⟨⟨l, i, j⟩, hij, hj, hl⟩ w0 bl E => ⟨by show 3 ≤ 33; decide, rfl, ?_⟩
  simp only at hij hj hl
  show AW ⟨Try.prog, X, 33, w0, ⟨bl, E, 1⟩⟩ _ _ _
  have hc : Cx.OK ⟨Try.prog, X, 33, w0, ⟨bl, E, 1⟩⟩ := ⟨hX, mixed⟩
  repeat' (first | (apply aw_seq_k; intro K hK) | (refine aw_run hc (by first | exact aw_nod | (intro _; rw [ordB_w hw]; kernel_rfl) | (intro _; rw [ordB_w0 hw0]; kernel_rfl) | (intro _; kernel_rfl)) ?_; simp (disch := first | omega | assumption | (simp; done) | fail) [if_pos, if_neg, List.zipIdx, Int.ofNat_inj]; try (repeat' (refine guardQ_split (fun h => ?_) (fun h => ?_) <;> simp at h <;> simp (disch := first | omega | assumption | (simp; done) | fail) [if_pos, if_neg, List.zipIdx, Int.ofNat_inj]))) | (refine aw_cond (b := _) (by exact rfl) (fun h => ?_) (fun h => ?_) <;> (try simp at h)) | (refine aw_block ?_) | (refine aw_skip ?_; simp only [thenQ, blockQ, if_true]) | (refine aw_exit ?_; simp [thenQ, blockQ]) | (refine aw_ret ?_; simp only [thenQ, blockQ]) | (refine hK _ ?_; clear hK) | (clear hK; refine hK _ ?_; clear hK) | (clear hK; clear hK; refine hK _ ?_; clear hK) | (clear hK; clear hK; clear hK; refine hK _ ?_; clear hK))
  · refine ⟨by simp, leavesM_any ?_⟩
    simp (disch := first | omega | assumption | (simp; done) | fail) [if_pos, if_neg, leaves_iff, Try.f37]
    subst h
    simp [List.take_of_length_le]
  · refine ⟨by simp, leavesM_any ?_⟩
    simp (disch := first | omega | assumption | (simp; done) | fail) [if_pos, if_neg, leaves_iff, Try.f37, prows_take, prows_drop, prows_append, prows_replicate]
    have e1 : l.take i ++ ((l.drop j).take (l.length - j) ++ l.drop (i + (l.length - j))) = (l.take i ++ l.drop j) ++ l.drop (i + (l.length - j)) := by
      rw [List.take_of_length_le (l := l.drop j) (by simp), List.append_assoc]
    have e2 : (l.take i ++ l.drop j).length = i + (l.length - j) := by simp; omega
    have key : ∀ (A B C : List Mp) n, A.length = n → A = ((A ++ B).take n ++ C).take n := by
      intro A B C n h
      subst h
      simp
    rw [e1]
    exact congrArg prows (key _ _ _ _ e2)

theorem gm_app_left {a b : List Mp} {k : Nat} (h : k < a.length) : gm (a ++ b) k = gm a k := by
  unfold gm; simp [List.getD_eq_getElem?_getD, List.getElem?_append_left h]
theorem gm_app_at {a b : List Mp} {m : Mp} {k : Nat} (h : a.length = k) : gm (a ++ m :: b) k = m := by
  unfold gm; subst h; simp [List.getD_eq_getElem?_getD]
theorem drop_gm {l : List Mp} {j : Nat} (h : j < l.length) : l.drop j = gm l j :: l.drop (j + 1) := by
  rw [List.drop_eq_getElem_cons h, gm_eq h]
theorem prows_set (l : List Mp) (n : Nat) (a b : Int) : (prows l).set n [I a, I b] = prows (l.set n (a, b)) := by simp [prows, List.map_set]
theorem set_mid (F : List Mp) (g v : Mp) (G : List Mp) : (F ++ g :: G).set F.length v = F ++ v :: G := by
  rw [List.set_append_right _ _ (Nat.le_refl _)]; simp
theorem drop_none {l : List Mp} {s : Int} (h : ∀ j, j < l.length → fnP (some s) (gm l j) = false) : dropM l s = l := by
  unfold dropM
  rw [List.filter_eq_self]
  intro m hm
  obtain ⟨j, hj, rfl⟩ := List.getElem_of_mem hm
  have := h j hj
  rw [gm_eq hj] at this
  simpa [fnP] using this

set_option maxHeartbeats 1000000 in
theorem s32 (X : AX) (hX : XOK Try.prog X) (hw : X.W wT) (h38 : X.call 38 = callP F38) (fx : FnX X) : MSound Try.prog 32 (specM (ι := {x : List Mp × Int // x.1.length ≤ 1000000}) (fun x => .ow 2 (prows x.1.1)) (fun x => [fnA (some x.1.2)]) (fun x => retOf [.ow 2 (prows (dropM x.1.1 x.1.2))]) fun _ => .any) := by
  refine msound_spec Try.func32 rfl X fun ⟨⟨l, s⟩, hl⟩ w0 bl E => ⟨by show 2 ≤ 42; decide, rfl, ?_⟩
  simp only at hl
  show AW ⟨Try.prog, X, 42, w0, ⟨bl, E, 1⟩⟩ _ _ _
  have hc : Cx.OK ⟨Try.prog, X, 42, w0, ⟨bl, E, 1⟩⟩ := ⟨hX, mixed⟩
  have hF := F38_at l (some s) hl
  simp only [fnA] at hF ⊢
  rcases fstI_cases (fnP (some s)) l with ⟨h1, h2⟩ | ⟨k, hk, h1, h2, h3⟩
  · rw [h1] at hF
    have hD := drop_none h2
    repeat' (first | (apply aw_seq_k; intro K hK) | (refine aw_run hc (by first | exact aw_nod | (intro _; rw [ordB_w hw]; kernel_rfl) | (intro _; rw [ordB_w0 hw0]; kernel_rfl) | (intro _; kernel_rfl)) ?_; simp [List.zipIdx, h38, hF, tkM, -getM, getM_hit, getM_miss, getM_none]; (repeat (simp (disch := first | omega | assumption | fail) only [if_pos, if_neg, wrap64]; try simp [List.zipIdx, h38, hF, tkM, -getM, getM_hit, getM_miss, getM_none])); try (repeat' (refine guardQ_split (fun h => ?_) (fun h => ?_) <;> simp at h <;> (simp [List.zipIdx, h38, hF, tkM, -getM, getM_hit, getM_miss, getM_none]; (repeat (simp (disch := first | omega | assumption | fail) only [if_pos, if_neg, wrap64]; try simp [List.zipIdx, h38, hF, tkM, -getM, getM_hit, getM_miss, getM_none])))))) | (refine aw_cond (b := _) (by exact rfl) (fun h => ?_) (fun h => ?_) <;> (try simp at h)) | (refine aw_block ?_) | (refine aw_skip ?_; simp only [thenQ, blockQ, if_true]) | (refine aw_exit ?_; simp [thenQ, blockQ]) | (refine aw_ret ?_; simp only [thenQ, blockQ]) | (refine aw_round ?_) | (refine hK _ ?_; clear hK) | (clear hK; refine hK _ ?_; clear hK) | (clear hK; clear hK; refine hK _ ?_; clear hK) | (clear hK; clear hK; clear hK; refine hK _ ?_; clear hK))
    refine ⟨by simp, leavesM_any ?_⟩
    simp (disch := first | omega | assumption | (simp; done) | fail) [if_pos, if_neg, leaves_iff, Try.f32]
    rw [hD]
  · rw [h1] at hF
    repeat' (first | (apply aw_seq_k; intro K hK) | (refine aw_run hc (by first | exact aw_nod | (intro _; rw [ordB_w hw]; kernel_rfl) | (intro _; rw [ordB_w0 hw0]; kernel_rfl) | (intro _; kernel_rfl)) ?_; simp [List.zipIdx, h38, hF, tkM, -getM, getM_hit, getM_miss, getM_none]; (repeat (simp (disch := first | omega | assumption | fail) only [if_pos, if_neg, wrap64]; try simp [List.zipIdx, h38, hF, tkM, -getM, getM_hit, getM_miss, getM_none])); try (repeat' (refine guardQ_split (fun h => ?_) (fun h => ?_) <;> simp at h <;> (simp [List.zipIdx, h38, hF, tkM, -getM, getM_hit, getM_miss, getM_none]; (repeat (simp (disch := first | omega | assumption | fail) only [if_pos, if_neg, wrap64]; try simp [List.zipIdx, h38, hF, tkM, -getM, getM_hit, getM_miss, getM_none])))))) | (refine aw_cond (b := _) (by exact rfl) (fun h => ?_) (fun h => ?_) <;> (try simp at h)) | (refine aw_block ?_) | (refine aw_skip ?_; simp only [thenQ, blockQ, if_true]) | (refine aw_exit ?_; simp [thenQ, blockQ]) | (refine aw_ret ?_; simp only [thenQ, blockQ]) | (refine aw_round ?_) | (refine hK _ ?_; clear hK) | (clear hK; refine hK _ ?_; clear hK) | (clear hK; clear hK; refine hK _ ?_; clear hK) | (clear hK; clear hK; clear hK; refine hK _ ?_; clear hK))
    have hsp : (gm l k).1 = s := by simpa [fnP] using h2
    have htk : dropM (l.take k) s = l.take k := drop_none fun j hj => by
      rw [List.length_take] at hj
      have := h3 j (by omega)
      rw [gm_eq (by omega)] at this
      rw [gm_eq (by rw [List.length_take]; omega), List.getElem_take]
      exact this
    have hD0 : dropM (l.take (k + 1)) s = l.take k := by rw [take_succ_gm hk, dropM_snoc, if_pos hsp, htk]
    have hlk : (l.take k).length = k := by rw [List.length_take]; omega
    have hW0 : l.take k ++ [gm l k] ++ l.drop (k + 1) = l := by rw [← take_succ_gm hk, List.take_append_drop]
    refine aw_loopK (s0 := ?lps1) (m0 := ?lpm1) (ι := {x : Nat × List Mp // x.1 ≤ l.length ∧ (dropM (l.take x.1) s).length + x.2.length = x.1 ∧ 1 ≤ x.2.length}) [0, 1] (fun x => [(6, I x.1.1), (5, I (dropM (l.take x.1.1) s).length)]) (fun x => [(0, .vec 1 2 false (prows (dropM (l.take x.1.1) s ++ x.1.2 ++ l.drop x.1.1)))]) (fun x => l.length - x.1.1) ⟨(k + 1, [gm l k]), by simp only [hD0, hlk]; simp; omega⟩ ?lhs1 ?lhm1 ?_ ?_
    case lhs1 => first | (simp [keepS]; done) | (simp [keepS]; rfl)
    case lhm1 => first | rfl | (simp; done) | (simp; rfl)
    · simp only [hD0, hlk, hW0]
      exact le_of2 (by simp) (by simp [AVle, AV.under, AV.underL] <;> omega) (by simp [AOle, AO.under, AV.underL, AV.under] <;> omega)
    · rintro ⟨⟨j, G⟩, hj, hFG, hG1⟩
      simp only at hj hFG hG1 ⊢
      obtain ⟨F, hFe⟩ : ∃ F, F = dropM (l.take j) s := ⟨_, rfl⟩
      rw [← hFe] at hFG ⊢
      rcases Decidable.em (j < l.length) with hjl | hjl
      · have hjI : (j : Int) < (l.length : Int) := by omega
        have hdr := drop_gm hjl
        have hins := dropM_snoc (l.take j) s (gm l j)
        rw [← take_succ_gm hjl, ← hFe] at hins
        obtain ⟨⟨x, y⟩, hm⟩ : ∃ m, m = gm l j := ⟨_, rfl⟩
        rw [← hm] at hdr hins
        simp only at hins
        obtain ⟨W, hW⟩ : ∃ W, W = F ++ G ++ l.drop j := ⟨_, rfl⟩
        have hWl : W.length = l.length := by rw [hW]; simp; omega
        have hWj : gm W j = (x, y) := by rw [hW, hdr]; exact gm_app_at (by rw [List.length_append]; exact hFG)
        have hFl : F.length < W.length := by omega
        have hFI : (F.length : Int) < (W.length : Int) := by omega
        have hFI2 : (F.length : Int) < (l.length : Int) := by omega
        have hFL2 : F.length < l.length := by omega
        have hg := prows_gi (l := W) (n := j) (by omega)
        have hgE := prows_gE (l := W) (n := j) (by omega)
        rw [hWj] at hg hgE
        simp only at hg hgE
        have hgF := prows_gi hFl
        have hgFE := prows_gE hFl
        have hFb : F.length ≤ 1000000 := by omega
        rw [← hW]
        rcases Decidable.em (x = s) with hv | hv
        · rw [if_pos hv] at hins
          repeat' (first | (apply aw_seq_k; intro K hK) | (refine aw_run hc (by first | exact aw_nod | (intro _; rw [ordB_w hw]; kernel_rfl) | (intro _; rw [ordB_w0 hw0]; kernel_rfl) | (intro _; kernel_rfl)) ?_; simp [List.zipIdx, hjI, hg, hgE, hWl, fx.h33, hv, -getM, getM_hit, getM_miss, getM_none]; (repeat (simp (disch := first | omega | assumption | fail) only [if_pos, if_neg, wrap64]; try simp [List.zipIdx, hjI, hg, hgE, hWl, fx.h33, hv, -getM, getM_hit, getM_miss, getM_none])); try (repeat' (refine guardQ_split (fun h => ?_) (fun h => ?_) <;> simp at h <;> (simp [List.zipIdx, hjI, hg, hgE, hWl, fx.h33, hv, -getM, getM_hit, getM_miss, getM_none]; (repeat (simp (disch := first | omega | assumption | fail) only [if_pos, if_neg, wrap64]; try simp [List.zipIdx, hjI, hg, hgE, hWl, fx.h33, hv, -getM, getM_hit, getM_miss, getM_none])))))) | (refine aw_cond (b := _) (by exact rfl) (fun h => ?_) (fun h => ?_) <;> (try simp at h)) | (refine aw_block ?_) | (refine aw_skip ?_; simp only [thenQ, blockQ, if_true]) | (refine aw_exit ?_; simp [thenQ, blockQ]) | (refine aw_ret ?_; simp only [thenQ, blockQ]) | (refine aw_round ?_) | (refine hK _ ?_; clear hK) | (clear hK; refine hK _ ?_; clear hK) | (clear hK; clear hK; refine hK _ ?_; clear hK) | (clear hK; clear hK; clear hK; refine hK _ ?_; clear hK))
          have hWe : F ++ (G ++ [(x, y)] ++ l.drop (j + 1)) = W := by rw [hW, hdr]; simp
          refine ⟨j + 1, G ++ [(x, y)], ?_, ⟨by omega, by rw [hins]; simp; omega, by simp⟩, by omega⟩
          simp only [hins, hWe]
          refine le_turn (s1 := ?tus2) (m1 := ?tum2) [] [0, 1, 5, 6] [0] ?tua2 ?tub2 ?tuc2 ?tud2 ?tue2 ?tuf2 ?tug2
          case tua2 => first | (simp [keepS]; done) | (simp [keepS]; rfl)
          case tub2 => first | (simp; done) | (simp; rfl)
          case tuc2 => simp
          case tud2 => simp
          case tue2 => simp
          case tuf2 => simp
          case tug2 =>
            simp [swp, vr]
            exact le_of2 (by simp) (by simp [AVle, AV.under, AV.underL] <;> omega) (by simp [AOle, AO.under, AV.underL, AV.under] <;> omega)
        · rw [if_neg hv] at hins
          repeat' (first | (apply aw_seq_k; intro K hK) | (refine aw_run hc (by first | exact aw_nod | (intro _; rw [ordB_w hw]; kernel_rfl) | (intro _; rw [ordB_w0 hw0]; kernel_rfl) | (intro _; kernel_rfl)) ?_; simp [List.zipIdx, hjI, hg, hgE, hWl, fx.h33, hv, hgF, hgFE, hFI, hFI2, hFL2, prows_set, -getM, getM_hit, getM_miss, getM_none]; (repeat (simp (disch := first | omega | assumption | fail) only [if_pos, if_neg, wrap64]; try simp [List.zipIdx, hjI, hg, hgE, hWl, fx.h33, hv, hgF, hgFE, hFI, hFI2, hFL2, prows_set, -getM, getM_hit, getM_miss, getM_none])); try (repeat' (refine guardQ_split (fun h => ?_) (fun h => ?_) <;> simp at h <;> (simp [List.zipIdx, hjI, hg, hgE, hWl, fx.h33, hv, hgF, hgFE, hFI, hFI2, hFL2, prows_set, -getM, getM_hit, getM_miss, getM_none]; (repeat (simp (disch := first | omega | assumption | fail) only [if_pos, if_neg, wrap64]; try simp [List.zipIdx, hjI, hg, hgE, hWl, fx.h33, hv, hgF, hgFE, hFI, hFI2, hFL2, prows_set, -getM, getM_hit, getM_miss, getM_none])))))) | (refine aw_cond (b := _) (by exact rfl) (fun h => ?_) (fun h => ?_) <;> (try simp at h)) | (refine aw_block ?_) | (refine aw_skip ?_; simp only [thenQ, blockQ, if_true]) | (refine aw_exit ?_; simp [thenQ, blockQ]) | (refine aw_ret ?_; simp only [thenQ, blockQ]) | (refine aw_round ?_) | (refine hK _ ?_; clear hK) | (clear hK; refine hK _ ?_; clear hK) | (clear hK; clear hK; refine hK _ ?_; clear hK) | (clear hK; clear hK; clear hK; refine hK _ ?_; clear hK))
          obtain ⟨g, G', rfl⟩ : ∃ g G', G = g :: G' := by
            cases G with
            | nil => simp at hG1
            | cons g G' => exact ⟨g, G', rfl⟩
          have hWs : (F ++ [(x, y)]) ++ (G' ++ [(x, y)] ++ l.drop (j + 1)) = W.set F.length (x, y) := by
            have e := set_mid F g (x, y) (G' ++ l.drop j)
            have e2 : F ++ g :: (G' ++ l.drop j) = W := by rw [hW]; simp
            rw [e2] at e
            rw [e, hdr]; simp
          simp only [List.length_cons] at hFG
          refine ⟨j + 1, G' ++ [(x, y)], ?_, ⟨by omega, by rw [hins]; simp; omega, by simp⟩, by omega⟩
          simp only [hins, hWs]
          refine le_turn (s1 := ?tus3) (m1 := ?tum3) [] [0, 1, 5, 6] [0] ?tua3 ?tub3 ?tuc3 ?tud3 ?tue3 ?tuf3 ?tug3
          case tua3 => first | (simp [keepS]; done) | (simp [keepS]; rfl)
          case tub3 => first | (simp; done) | (simp; rfl)
          case tuc3 => simp
          case tud3 => simp
          case tue3 => simp
          case tuf3 => simp
          case tug3 =>
            simp [swp, vr]
            exact le_of2 (by simp) (by simp [AVle, AV.under, AV.underL] <;> omega) (by simp [AOle, AO.under, AV.underL, AV.under] <;> omega)
      · obtain rfl : j = l.length := by omega
        rw [List.take_length] at hFe
        have hnil : l.drop l.length = [] := List.drop_eq_nil_of_le (Nat.le_refl _)
        rw [hnil]
        repeat' (first | (apply aw_seq_k; intro K hK) | (refine aw_run hc (by first | exact aw_nod | (intro _; rw [ordB_w hw]; kernel_rfl) | (intro _; rw [ordB_w0 hw0]; kernel_rfl) | (intro _; kernel_rfl)) ?_; simp [List.zipIdx, tkM, hFG, -getM, getM_hit, getM_miss, getM_none]; (repeat (simp (disch := first | omega | assumption | fail) only [if_pos, if_neg, wrap64]; try simp [List.zipIdx, tkM, hFG, -getM, getM_hit, getM_miss, getM_none])); try (repeat' (refine guardQ_split (fun h => ?_) (fun h => ?_) <;> simp at h <;> (simp [List.zipIdx, tkM, hFG, -getM, getM_hit, getM_miss, getM_none]; (repeat (simp (disch := first | omega | assumption | fail) only [if_pos, if_neg, wrap64]; try simp [List.zipIdx, tkM, hFG, -getM, getM_hit, getM_miss, getM_none])))))) | (refine aw_cond (b := _) (by exact rfl) (fun h => ?_) (fun h => ?_) <;> (try simp at h)) | (refine aw_block ?_) | (refine aw_skip ?_; simp only [thenQ, blockQ, if_true]) | (refine aw_exit ?_; simp [thenQ, blockQ]) | (refine aw_ret ?_; simp only [thenQ, blockQ]) | (refine aw_round ?_) | (refine hK _ ?_; clear hK) | (clear hK; refine hK _ ?_; clear hK) | (clear hK; clear hK; refine hK _ ?_; clear hK) | (clear hK; clear hK; clear hK; refine hK _ ?_; clear hK))
        refine ⟨by simp, leavesM_any ?_⟩
        simp (disch := first | omega | assumption | (simp; done) | fail) [if_pos, if_neg, leaves_iff, Try.f32]
        rw [← hFe, prows_take]
        simp
end Go.AM
