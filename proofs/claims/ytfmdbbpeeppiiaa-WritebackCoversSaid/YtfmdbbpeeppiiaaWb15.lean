/- Writeback: Runs of the program. -/
import Derived.Test.YtfmdbbpeeppiiaaWb14
set_option linter.all false

namespace Go.AM
open Go Go.Proofs

theorem gm_app_left {a b : List Mp} {k : Nat} (h : k < a.length) : gm (a ++ b) k = gm a k := by
  unfold gm; simp [List.getD_eq_getElem?_getD, List.getElem?_append_left h]
theorem callG44 (b mv : Nat) (K : List Mp) (m : Int) (M : Nat → AO) (nid : Nat) (h1 : 1 ≤ mv) (hM : M b = .vec mv 2 false (prows K)) :
    callG F44 [.sl b mv 2 0 K.length, I m] M nid = some (.fn 53 [.bp nid 0, .bp (nid + 1) 0], [(b, .vec mv 2 false (prows K)), (nid, .box [.sl b mv 2 0 K.length]), (nid + 1, .box [I m])]) := by
  have hF := F44_at K m
  have hv : 1 + (mv - 1) = mv := by omega
  unfold callG
  simp [hM, hF, hv]
  exact ⟨by unfold nmN; simp, by unfold nmN; simp⟩
theorem tkP (A : List Mp) : List.take A.length (prows A) = prows A := List.take_of_length_le (by simp)
theorem colK_of {l : List Tp} {m : Int} (h : chkD l = 0) : colK (sortG ltP (l.map plc), m) := by
  obtain ⟨hv, hn⟩ := chk_zero.1 h
  refine ⟨?_, fun j hj => ?_⟩
  · rw [sortG_len, List.length_map]; exact chk_len h
  · have hj' : j < (sortG ltP (l.map plc)).length := hj
    have hm : gm (sortG ltP (l.map plc)) j ∈ sortG ltP (l.map plc) := by rw [gm_eq hj']; exact List.getElem_mem hj'
    rw [(sortG_perm _).mem_iff] at hm
    obtain ⟨q, hq, e⟩ := List.mem_map.1 hm
    obtain ⟨k, hk, rfl⟩ := List.getElem_of_mem hq
    have hp := (hv k hk).1
    rw [gd_eq hk] at hp
    simp only
    rw [← e]
    unfold pgN at hp
    simp only [plc]
    omega
noncomputable def F21 : List AV → Option AV := specF (ι := {x : List Tp × Int // x.1.length ≤ 9223372036854775807}) (fun x => [.rd 3 (drows x.1.1), I x.1.2]) fun x => retOf [.ow 3 (drows (runR x.1.1 x.1.2).1), I (runR x.1.1 x.1.2).2]

set_option maxHeartbeats 1000000 in
theorem s21 (X : AX) (L : WbX X) (h34 : ∀ a b c M n, X.call 34 [.agg [I a, I b, I c]] M n = some (.agg [I a, I b], [])) (h39 : X.call 39 = sortP) (h43 : X.call 43 = callP F43) (h44 : X.call 44 = callG F44) :
    PSound Try.prog 21 F21 := by
  have hX := L.ok
  have hw := L.w
  unfold F21
  refine psound_spec hX mixed Try.func21 rfl fun ⟨⟨l, m⟩, hl⟩ w0 G => ⟨by show 2 ≤ 35; decide, rfl, ?_⟩
  show AW ⟨Try.prog, X, 35, w0, .pure G⟩ _ _ _
  have hc : Cx.OK ⟨Try.prog, X, 35, w0, .pure G⟩ := ⟨hX, mixed⟩
  simp only at hl ⊢
  have h14' := L.h14 l hl
  rcases Decidable.em (chkD l = 0) with h0 | h0
  · have hlen := chk_len h0
    rw [h0] at h14'
    rcases Decidable.em (m < 1) with h1 | h1
    · rw [runR_m h0 h1]
      repeat' (first | (apply aw_seq_k; intro K hK) | (refine aw_run hc (by first | exact aw_nod | (intro _; rw [ordB_w hw]; kernel_rfl) | (intro _; rw [ordB_w0 hw0]; kernel_rfl) | (intro _; kernel_rfl)) ?_; simp [List.zipIdx, h14', h1, -getM, getM_hit, getM_miss, getM_none]; (repeat (simp (disch := first | omega | assumption | fail) only [if_pos, if_neg, wrap64]; try simp [List.zipIdx, h14', h1, -getM, getM_hit, getM_miss, getM_none])); try (repeat' (refine guardQ_split (fun h => ?_) (fun h => ?_) <;> simp at h <;> (simp [List.zipIdx, h14', h1, -getM, getM_hit, getM_miss, getM_none]; (repeat (simp (disch := first | omega | assumption | fail) only [if_pos, if_neg, wrap64]; try simp [List.zipIdx, h14', h1, -getM, getM_hit, getM_miss, getM_none])))))) | (refine aw_cond (b := _) (by exact rfl) (fun h => ?_) (fun h => ?_) <;> (try simp at h)) | (refine aw_block ?_) | (refine aw_skip ?_; simp only [thenQ, blockQ, if_true]) | (refine aw_exit ?_; simp [thenQ, blockQ]) | (refine aw_ret ?_; simp only [thenQ, blockQ]) | (refine aw_round ?_) | (refine hK _ ?_; clear hK) | (clear hK; refine hK _ ?_; clear hK) | (clear hK; clear hK; refine hK _ ?_; clear hK) | (clear hK; clear hK; clear hK; refine hK _ ?_; clear hK))
      refine ⟨by simp, ?_⟩
      simp [leaves_iff, Try.f21, drows_nil]
      try (first | omega | (refine decide_eq_decide.2 ?_; omega) | (refine decide_eq_false ?_; omega) | (refine decide_eq_true ?_; omega))
    · rw [runR_z h0 h1]
      have h1' : 1 ≤ m := by omega
      have hrs := runL_sort (m := m) h0 h1'
      have hck := colK_of (m := m) h0
      repeat' (first | (apply aw_seq_k; intro K hK) | (refine aw_run hc (by first | exact aw_nod | (intro _; rw [ordB_w hw]; kernel_rfl) | (intro _; rw [ordB_w0 hw0]; kernel_rfl) | (intro _; kernel_rfl)) ?_; simp [List.zipIdx, h14', h1, -getM, getM_hit, getM_miss, getM_none]; (repeat (simp (disch := first | omega | assumption | fail) only [if_pos, if_neg, wrap64]; try simp [List.zipIdx, h14', h1, -getM, getM_hit, getM_miss, getM_none])); try (repeat' (refine guardQ_split (fun h => ?_) (fun h => ?_) <;> simp at h <;> (simp [List.zipIdx, h14', h1, -getM, getM_hit, getM_miss, getM_none]; (repeat (simp (disch := first | omega | assumption | fail) only [if_pos, if_neg, wrap64]; try simp [List.zipIdx, h14', h1, -getM, getM_hit, getM_miss, getM_none])))))) | (refine aw_cond (b := _) (by exact rfl) (fun h => ?_) (fun h => ?_) <;> (try simp at h)) | (refine aw_block ?_) | (refine aw_skip ?_; simp only [thenQ, blockQ, if_true]) | (refine aw_exit ?_; simp [thenQ, blockQ]) | (refine aw_ret ?_; simp only [thenQ, blockQ]) | (refine aw_round ?_) | (refine hK _ ?_; clear hK) | (clear hK; refine hK _ ?_; clear hK) | (clear hK; clear hK; refine hK _ ?_; clear hK) | (clear hK; clear hK; clear hK; refine hK _ ?_; clear hK))
      refine aw_weaken (le_nilslot (t := 7) (sz := 2) (by simp)) ?_
      refine aw_loopK (s0 := ?lps1) (m0 := ?lpm1) (ι := {i : Nat // i ≤ l.length}) [1, 17, 18] (fun i => [(19, I i.1), (7, .sl 208 1 2 0 ((l.map plc).take i.1).length)]) (fun i => [(208, .vec 1 2 false (prows ((l.map plc).take i.1)))]) (fun i => l.length - i.1) ⟨0, by omega⟩ ?lhs1 ?lhm1 ?_ ?_
      case lhs1 => first | (simp [keepS]; done) | (simp [keepS]; rfl)
      case lhm1 => first | rfl | (simp; done) | (simp; rfl)
      · simp only [List.take_zero, prows_nil, List.length_nil]
        exact le_of2 (by simp) (by simp [AVle, AV.under, AV.underL] <;> omega) (by simp [AOle, AO.under, AV.underL, AV.under] <;> omega)
      · rintro ⟨i, hi⟩
        simp only
        rcases Decidable.em (i < l.length) with hil | hil
        · have hilI : (i : Int) < (l.length : Int) := by omega
          have hg := drows_gi hil
          have hgE := drows_gE hil
          have hsn : (l.map plc).take (i + 1) = (l.map plc).take i ++ [plc (gd l i)] := by rw [← List.map_take, ← List.map_take, take_succ_gd hil]; simp
          have hOi : ((l.map plc).take i).length = i := by simp; omega
          have hOl : ((l.map plc).take i).length ≤ 64 := by simp; omega
          obtain ⟨O, hO⟩ : ∃ O, O = (l.map plc).take i := ⟨_, rfl⟩
          rw [← hO] at hsn hOl hOi ⊢
          obtain ⟨⟨x, y, z⟩, hm⟩ : ∃ m, m = gd l i := ⟨_, rfl⟩
          rw [← hm] at hg hgE hsn
          simp only [plc] at hg hgE hsn
          repeat' (first | (apply aw_seq_k; intro K hK) | (refine aw_run hc (by first | exact aw_nod | (intro _; rw [ordB_w hw]; kernel_rfl) | (intro _; rw [ordB_w0 hw0]; kernel_rfl) | (intro _; kernel_rfl)) ?_; simp [List.zipIdx, hilI, hg, hgE, h34, hOl, pap, tkP, -getM, getM_hit, getM_miss, getM_none]; (repeat (simp (disch := first | omega | assumption | fail) only [if_pos, if_neg, wrap64]; try simp [List.zipIdx, hilI, hg, hgE, h34, hOl, pap, tkP, -getM, getM_hit, getM_miss, getM_none])); try (repeat' (refine guardQ_split (fun h => ?_) (fun h => ?_) <;> simp at h <;> (simp [List.zipIdx, hilI, hg, hgE, h34, hOl, pap, tkP, -getM, getM_hit, getM_miss, getM_none]; (repeat (simp (disch := first | omega | assumption | fail) only [if_pos, if_neg, wrap64]; try simp [List.zipIdx, hilI, hg, hgE, h34, hOl, pap, tkP, -getM, getM_hit, getM_miss, getM_none])))))) | (refine aw_cond (b := _) (by exact rfl) (fun h => ?_) (fun h => ?_) <;> (try simp at h)) | (refine aw_block ?_) | (refine aw_skip ?_; simp only [thenQ, blockQ, if_true]) | (refine aw_exit ?_; simp [thenQ, blockQ]) | (refine aw_ret ?_; simp only [thenQ, blockQ]) | (refine aw_round ?_) | (refine hK _ ?_; clear hK) | (clear hK; refine hK _ ?_; clear hK) | (clear hK; clear hK; refine hK _ ?_; clear hK) | (clear hK; clear hK; clear hK; refine hK _ ?_; clear hK))
          refine ⟨i + 1, ?_, by omega, by omega⟩
          simp only [hsn, show min (i + 1) l.length = O.length + 1 by omega]
          refine le_turn (s1 := ?tus2) (m1 := ?tum2) [] [1, 17, 18, 19, 7] [208] ?tua2 ?tub2 ?tuc2 ?tud2 ?tue2 ?tuf2 ?tug2
          case tua2 => first | (simp [keepS]; done) | (simp [keepS]; rfl)
          case tub2 => first | (simp; done) | (simp; rfl)
          case tuc2 => simp
          case tud2 => simp
          case tue2 => simp
          case tuf2 => simp
          case tug2 =>
            simp [swp, vr]
            exact le_of2 (by simp) (by simp [AVle, AV.under, AV.underL] <;> omega) (by simp [AOle, AO.under, AV.underL, AV.under] <;> omega)
        · obtain rfl : i = l.length := by omega
          rw [show l.length = (l.map plc).length by simp, List.take_length, List.length_map]
          obtain ⟨K, hK⟩ : ∃ K, K = sortG ltP (l.map plc) := ⟨_, rfl⟩
          have hKs := hK.symm
          have hKl : K.length = l.length := by rw [hK, sortG_len, List.length_map]
          have hul := unP_rows (l.map plc)
          have hl62 : l.length < 4611686018427387904 := by omega
          have hF : ∀ (M : Nat → AO) (nid : Nat), M 208 = .vec 1 2 false (prows K) → X.call 44 [.sl 208 1 2 0 l.length, I m] M nid = some (.fn 53 [.bp nid 0, .bp (nid + 1) 0], [(208, .vec 1 2 false (prows K)), (nid, .box [.sl 208 1 2 0 l.length]), (nid + 1, .box [I m])]) := fun M nid h => by
            rw [h44, ← hKl]
            exact callG44 208 1 K m M nid (Nat.le_refl _) h
          have hC := F43_at K m (by rw [hK]; exact hck)
          rw [← hK] at hrs
          rw [hrs] at hC
          have htk : List.take l.length (prows K) = prows K := by rw [← hKl]; exact tkP K
          repeat' (first | (apply aw_seq_k; intro K hK) | (refine aw_run hc (by first | exact aw_nod | (intro _; rw [ordB_w hw]; kernel_rfl) | (intro _; rw [ordB_w0 hw0]; kernel_rfl) | (intro _; kernel_rfl)) ?_; simp [List.zipIdx, htk, h39, sortP, hul, hKs, hl62, List.length_map, hF, h43, hC, tkP, -getM, getM_hit, getM_miss, getM_none]; (repeat (simp (disch := first | omega | assumption | fail) only [if_pos, if_neg, wrap64]; try simp [List.zipIdx, htk, h39, sortP, hul, hKs, hl62, List.length_map, hF, h43, hC, tkP, -getM, getM_hit, getM_miss, getM_none])); try (repeat' (refine guardQ_split (fun h => ?_) (fun h => ?_) <;> simp at h <;> (simp [List.zipIdx, htk, h39, sortP, hul, hKs, hl62, List.length_map, hF, h43, hC, tkP, -getM, getM_hit, getM_miss, getM_none]; (repeat (simp (disch := first | omega | assumption | fail) only [if_pos, if_neg, wrap64]; try simp [List.zipIdx, htk, h39, sortP, hul, hKs, hl62, List.length_map, hF, h43, hC, tkP, -getM, getM_hit, getM_miss, getM_none])))))) | (refine aw_cond (b := _) (by exact rfl) (fun h => ?_) (fun h => ?_) <;> (try simp at h)) | (refine aw_block ?_) | (refine aw_skip ?_; simp only [thenQ, blockQ, if_true]) | (refine aw_exit ?_; simp [thenQ, blockQ]) | (refine aw_ret ?_; simp only [thenQ, blockQ]) | (refine aw_round ?_) | (refine hK _ ?_; clear hK) | (clear hK; refine hK _ ?_; clear hK) | (clear hK; clear hK; refine hK _ ?_; clear hK) | (clear hK; clear hK; clear hK; refine hK _ ?_; clear hK))
          refine ⟨by simp, ?_⟩
          simp [leaves_iff, Try.f21]
          try (first | omega | (refine decide_eq_decide.2 ?_; omega) | (refine decide_eq_false ?_; omega) | (refine decide_eq_true ?_; omega))
  · rw [runR_n h0]
    obtain ⟨c, hcc⟩ : ∃ c, c = chkD l := ⟨_, rfl⟩
    rw [← hcc] at h14' h0 ⊢
    repeat' (first | (apply aw_seq_k; intro K hK) | (refine aw_run hc (by first | exact aw_nod | (intro _; rw [ordB_w hw]; kernel_rfl) | (intro _; rw [ordB_w0 hw0]; kernel_rfl) | (intro _; kernel_rfl)) ?_; simp [List.zipIdx, h14', h0, -getM, getM_hit, getM_miss, getM_none]; (repeat (simp (disch := first | omega | assumption | fail) only [if_pos, if_neg, wrap64]; try simp [List.zipIdx, h14', h0, -getM, getM_hit, getM_miss, getM_none])); try (repeat' (refine guardQ_split (fun h => ?_) (fun h => ?_) <;> simp at h <;> (simp [List.zipIdx, h14', h0, -getM, getM_hit, getM_miss, getM_none]; (repeat (simp (disch := first | omega | assumption | fail) only [if_pos, if_neg, wrap64]; try simp [List.zipIdx, h14', h0, -getM, getM_hit, getM_miss, getM_none])))))) | (refine aw_cond (b := _) (by exact rfl) (fun h => ?_) (fun h => ?_) <;> (try simp at h)) | (refine aw_block ?_) | (refine aw_skip ?_; simp only [thenQ, blockQ, if_true]) | (refine aw_exit ?_; simp [thenQ, blockQ]) | (refine aw_ret ?_; simp only [thenQ, blockQ]) | (refine aw_round ?_) | (refine hK _ ?_; clear hK) | (clear hK; refine hK _ ?_; clear hK) | (clear hK; clear hK; refine hK _ ?_; clear hK) | (clear hK; clear hK; clear hK; refine hK _ ?_; clear hK))
    refine ⟨by simp, ?_⟩
    simp [leaves_iff, Try.f21, drows_nil]
    try (first | omega | (refine decide_eq_decide.2 ?_; omega) | (refine decide_eq_false ?_; omega) | (refine decide_eq_true ?_; omega))
end Go.AM
