/- Insertion sort with a function that compares. -/
import Derived.Test.YtdhhdnbdceoenaaZl1
import Derived.Test.YtdhhdnbdceoenaaAmS2
set_option linter.all false

namespace Go.AM
open Go Go.Proofs

theorem irows_set (l : List Int) (n : Nat) (x : Int) : (irows l).set n [I x] = irows (l.set n x) := by simp [irows, List.map_set]
theorem take_irows' (key : Int → Int) (l : List Int) : List.take l.length (irows (sortK key l)) = irows (sortK key l) := by rw [irows_take, List.take_of_length_le]; rw [sortK_len]; exact Nat.le_refl _
theorem cmp_lt {a b : Int} : cmpI a b < 0 ↔ a < b := by unfold cmpI; split <;> (try split) <;> omega

set_option maxRecDepth 20000 in
theorem s46_core (X : AX) (hX : XOK Try.prog X) (hw : X.W wT) (g : FuncId) (caps : List AV) (hcu : ∀ n, AV.underL n caps) (key : Int → Int) (l : List Int) (hl : l.length ≤ 12)
    (hcmp : ∀ a b M n, a ∈ l → b ∈ l → X.call g (I a :: I b :: caps) M n = some (I (cmpI (key a) (key b)), [])) (w0 : World) (bl : List Nat) (E : Env) :
    AW ⟨Try.prog, X, 53, w0, ⟨bl, E, (openArg 0 (.ow 1 (irows l))).2.2⟩⟩ (Try.f46.body.getD .skip) ⟨enterS ((openArg 0 (.ow 1 (irows l))).1 :: [I 0, I (l.length : Int), .fn g caps]), (openArg 0 (.ow 1 (irows l))).2.1, (openArg 0 (.ow 1 (irows l))).2.2⟩ (fun e st => (e = .normal ∨ e = .ret) ∧ LeavesM (Types Try.prog) Try.f46.results.toList st (openArg 0 (.ow 1 (irows l))).1 [] (.ow 1 (irows (sortK key l)))) := by
  have hc : Cx.OK ⟨Try.prog, X, 53, w0, ⟨bl, E, (openArg 0 (.ow 1 (irows l))).2.2⟩⟩ := ⟨hX, mixed⟩
  simp only [Try.f46, Option.getD_some]
  simp [openArg]
  repeat' (first | (apply aw_seq_k; intro K hK) | (refine aw_run hc (by first | exact aw_nod | (intro _; rw [ordB_w hw]; kernel_rfl) | (intro _; kernel_rfl)) ?_; simp [List.zipIdx, -getM, getM_hit, getM_miss, getM_none]; (repeat (simp (disch := first | omega | assumption | fail) only [if_pos, if_neg, wrap64]; try simp [List.zipIdx, -getM, getM_hit, getM_miss, getM_none])); try (repeat' (refine guardQ_split (fun h => ?_) (fun h => ?_) <;> simp at h <;> (simp [List.zipIdx, -getM, getM_hit, getM_miss, getM_none]; (repeat (simp (disch := first | omega | assumption | fail) only [if_pos, if_neg, wrap64]; try simp [List.zipIdx, -getM, getM_hit, getM_miss, getM_none])))))) | (refine aw_cond (b := _) (by exact rfl) (fun h => ?_) (fun h => ?_) <;> (try simp at h)) | (refine aw_block ?_) | (refine aw_skip ?_; simp only [thenQ, blockQ, if_true]) | (refine aw_exit ?_; simp [thenQ, blockQ]) | (refine aw_ret ?_; simp only [thenQ, blockQ]) | (refine aw_round ?_) | (refine hK _ ?_; clear hK) | (clear hK; refine hK _ ?_; clear hK) | (clear hK; clear hK; refine hK _ ?_; clear hK) | (clear hK; clear hK; clear hK; refine hK _ ?_; clear hK))
  refine aw_loopK (s0 := ?lps1) (m0 := ?lpm1) (ι := {i : Nat // 1 ≤ i ∧ (i ≤ l.length ∨ i = 1)}) [0, 1, 2, 3] (fun i => [(8, I i.1)]) (fun i => [(0, .vec 1 1 false (irows (rnd key l i.1)))]) (fun i => l.length + 1 - i.1) ⟨1, by omega, by omega⟩ ?lhs1 ?lhm1 ?_ ?_
  case lhs1 => first | (simp [keepS]; done) | (simp [keepS]; rfl)
  case lhm1 => first | rfl | (simp; done) | (simp; rfl)
  · simp only [rnd_one]
    exact le_of2 (by simp) (by simp [AVle, AV.under, AV.underL, hcu] <;> omega) (by simp [AOle, AO.under, AV.underL, AV.under] <;> omega)
  · rintro ⟨i, hi1, hi⟩
    simp only
    rcases Decidable.em (i < l.length) with hil | hil
    · have hilI : (i : Int) < (l.length : Int) := by omega
      rw [rnd_dat hil]
      obtain ⟨S, hS⟩ : ∃ S, S = sortK key (l.take i) := ⟨_, rfl⟩
      obtain ⟨x, hx⟩ : ∃ x, x = gi l i := ⟨_, rfl⟩
      obtain ⟨R, hR⟩ : ∃ R, R = l.drop (i + 1) := ⟨_, rfl⟩
      have hSl : S.length = i := by rw [hS, sortK_len]; simp; omega
      have hRl : R.length + (i + 1) = l.length := by rw [hR]; simp; omega
      have hxm : x ∈ l := by rw [hx]; exact gi_mem hil
      have hSm : ∀ m, m < i → gi S m ∈ l := fun m hm => by rw [hS]; exact dat_mem hil hm
      have hnx := fun j hj hd ht => rnd_next (key := key) (j := j) hil hj hd ht
      rw [← hS, ← hx, ← hR] at hnx ⊢
      repeat' (first | (apply aw_seq_k; intro K hK) | (refine aw_run hc (by first | exact aw_nod | (intro _; rw [ordB_w hw]; kernel_rfl) | (intro _; kernel_rfl)) ?_; simp [List.zipIdx, hilI, -getM, getM_hit, getM_miss, getM_none]; (repeat (simp (disch := first | omega | assumption | fail) only [if_pos, if_neg, wrap64]; try simp [List.zipIdx, hilI, -getM, getM_hit, getM_miss, getM_none])); try (repeat' (refine guardQ_split (fun h => ?_) (fun h => ?_) <;> simp at h <;> (simp [List.zipIdx, hilI, -getM, getM_hit, getM_miss, getM_none]; (repeat (simp (disch := first | omega | assumption | fail) only [if_pos, if_neg, wrap64]; try simp [List.zipIdx, hilI, -getM, getM_hit, getM_miss, getM_none])))))) | (refine aw_cond (b := _) (by exact rfl) (fun h => ?_) (fun h => ?_) <;> (try simp at h)) | (refine aw_block ?_) | (refine aw_skip ?_; simp only [thenQ, blockQ, if_true]) | (refine aw_exit ?_; simp [thenQ, blockQ]) | (refine aw_ret ?_; simp only [thenQ, blockQ]) | (refine aw_round ?_) | (refine hK _ ?_; clear hK) | (clear hK; refine hK _ ?_; clear hK) | (clear hK; clear hK; refine hK _ ?_; clear hK) | (clear hK; clear hK; clear hK; refine hK _ ?_; clear hK))
      refine aw_loopK (s0 := ?lps2) (m0 := ?lpm2) (ι := {j : Nat // j ≤ i ∧ ∀ y ∈ S.drop j, key x < key y}) [0, 1, 2, 3, 8] (fun j => [(9, I j.1)]) (fun j => [(0, .vec 1 1 false (irows (dat S x R j.1)))]) (fun j => j.1) ⟨i, by omega, by rw [← hSl, List.drop_length]; simp⟩ ?lhs2 ?lhm2 ?_ ?_
      case lhs2 => first | (simp [keepS]; done) | (simp [keepS]; rfl)
      case lhm2 => first | rfl | (simp; done) | (simp; rfl)
      · have hdi : dat S x R i = dat S x R i := rfl
        exact le_of2 (by simp) (by simp [AVle, AV.under, AV.underL, hcu] <;> omega) (by simp [AOle, AO.under, AV.underL, AV.under] <;> omega)
      · rintro ⟨j, hj, hd⟩
        simp only
        rcases Decidable.em (j = 0) with hj0 | hj0
        · subst hj0
          have hfin := hnx 0 (by omega) hd (.inl rfl)
          repeat' (first | (apply aw_seq_k; intro K hK) | (refine aw_run hc (by first | exact aw_nod | (intro _; rw [ordB_w hw]; kernel_rfl) | (intro _; kernel_rfl)) ?_; simp [List.zipIdx, -getM, getM_hit, getM_miss, getM_none]; (repeat (simp (disch := first | omega | assumption | fail) only [if_pos, if_neg, wrap64]; try simp [List.zipIdx, -getM, getM_hit, getM_miss, getM_none])); try (repeat' (refine guardQ_split (fun h => ?_) (fun h => ?_) <;> simp at h <;> (simp [List.zipIdx, -getM, getM_hit, getM_miss, getM_none]; (repeat (simp (disch := first | omega | assumption | fail) only [if_pos, if_neg, wrap64]; try simp [List.zipIdx, -getM, getM_hit, getM_miss, getM_none])))))) | (refine aw_cond (b := _) (by exact rfl) (fun h => ?_) (fun h => ?_) <;> (try simp at h)) | (refine aw_block ?_) | (refine aw_skip ?_; simp only [thenQ, blockQ, if_true]) | (refine aw_exit ?_; simp [thenQ, blockQ]) | (refine aw_ret ?_; simp only [thenQ, blockQ]) | (refine aw_round ?_) | (refine hK _ ?_; clear hK) | (clear hK; refine hK _ ?_; clear hK) | (clear hK; clear hK; refine hK _ ?_; clear hK) | (clear hK; clear hK; clear hK; refine hK _ ?_; clear hK))
          refine ⟨i + 1, ?_, ⟨by omega, by omega⟩, by omega⟩
          rw [hfin]
          exact le_of2 (by simp) (by simp [AVle, AV.under, AV.underL, hcu] <;> omega) (by simp [AOle, AO.under, AV.underL, AV.under] <;> omega)
        · obtain ⟨m, rfl⟩ : ∃ m, j = m + 1 := ⟨j - 1, by omega⟩
          have hmS : m < S.length := by omega
          have hjI : (0 : Int) < ((m + 1 : Nat) : Int) := by omega
          have hto : (((m + 1 : Nat) : Int) - 1).toNat = m := by omega
          have hlen : (irows (dat S x R (m + 1))).length = l.length := by rw [irows_length, dat_len (by omega)]; omega
          have hlt1 : m + 1 < l.length := by omega
          have hlt0 : m < l.length := by omega
          have g1 : (irows (dat S x R (m + 1)))[m + 1]? = some [I x] := by unfold irows; rw [List.getElem?_map, dat_get (by omega)]; rfl
          have g0 : (irows (dat S x R (m + 1)))[m]? = some [I (gi S m)] := by unfold irows; rw [List.getElem?_map, dat_get1 hmS]; rfl
          have gs : (((irows (dat S x R (m + 1))).set (m + 1) [I (gi S m)]).set m [I x]) = irows (dat S x R m) := by rw [irows_set, irows_set, dat_set hmS]
          have hcm := fun M n => hcmp x (gi S m) M n hxm (hSm m (by omega))
          rcases Decidable.em (key x < key (gi S m)) with hk | hk
          · have hkc : cmpI (key x) (key (gi S m)) < 0 := cmp_lt.2 hk
            repeat' (first | (apply aw_seq_k; intro K hK) | (refine aw_run hc (by first | exact aw_nod | (intro _; rw [ordB_w hw]; kernel_rfl) | (intro _; kernel_rfl)) ?_; simp [List.zipIdx, hcm, g1, g0, gs, hkc, -getM, getM_hit, getM_miss, getM_none]; (repeat (simp (disch := first | omega | assumption | fail) only [if_pos, if_neg, wrap64]; try simp [List.zipIdx, hcm, g1, g0, gs, hkc, -getM, getM_hit, getM_miss, getM_none])); try (repeat' (refine guardQ_split (fun h => ?_) (fun h => ?_) <;> simp at h <;> (simp [List.zipIdx, hcm, g1, g0, gs, hkc, -getM, getM_hit, getM_miss, getM_none]; (repeat (simp (disch := first | omega | assumption | fail) only [if_pos, if_neg, wrap64]; try simp [List.zipIdx, hcm, g1, g0, gs, hkc, -getM, getM_hit, getM_miss, getM_none])))))) | (refine aw_cond (b := _) (by exact rfl) (fun h => ?_) (fun h => ?_) <;> (try simp at h)) | (refine aw_block ?_) | (refine aw_skip ?_; simp only [thenQ, blockQ, if_true]) | (refine aw_exit ?_; simp [thenQ, blockQ]) | (refine aw_ret ?_; simp only [thenQ, blockQ]) | (refine aw_round ?_) | (refine hK _ ?_; clear hK) | (clear hK; refine hK _ ?_; clear hK) | (clear hK; clear hK; refine hK _ ?_; clear hK) | (clear hK; clear hK; clear hK; refine hK _ ?_; clear hK))
            refine ⟨m, ?_, ⟨by omega, ?_⟩, by omega⟩
            · exact le_of2 (by simp) (by simp [AVle, AV.under, AV.underL, hcu] <;> omega) (by simp [AOle, AO.under, AV.underL, AV.under] <;> omega)
            · intro y hy
              rw [List.drop_eq_getElem_cons hmS, ← gi_eq hmS] at hy
              rcases List.mem_cons.1 hy with rfl | hy
              · exact hk
              · exact hd y hy
          · have hkc : ¬ cmpI (key x) (key (gi S m)) < 0 := fun h => hk (cmp_lt.1 h)
            have hfin := hnx (m + 1) (by omega) hd (.inr (by simpa using hk))
            repeat' (first | (apply aw_seq_k; intro K hK) | (refine aw_run hc (by first | exact aw_nod | (intro _; rw [ordB_w hw]; kernel_rfl) | (intro _; kernel_rfl)) ?_; simp [List.zipIdx, hcm, g1, g0, gs, hkc, -getM, getM_hit, getM_miss, getM_none]; (repeat (simp (disch := first | omega | assumption | fail) only [if_pos, if_neg, wrap64]; try simp [List.zipIdx, hcm, g1, g0, gs, hkc, -getM, getM_hit, getM_miss, getM_none])); try (repeat' (refine guardQ_split (fun h => ?_) (fun h => ?_) <;> simp at h <;> (simp [List.zipIdx, hcm, g1, g0, gs, hkc, -getM, getM_hit, getM_miss, getM_none]; (repeat (simp (disch := first | omega | assumption | fail) only [if_pos, if_neg, wrap64]; try simp [List.zipIdx, hcm, g1, g0, gs, hkc, -getM, getM_hit, getM_miss, getM_none])))))) | (refine aw_cond (b := _) (by exact rfl) (fun h => ?_) (fun h => ?_) <;> (try simp at h)) | (refine aw_block ?_) | (refine aw_skip ?_; simp only [thenQ, blockQ, if_true]) | (refine aw_exit ?_; simp [thenQ, blockQ]) | (refine aw_ret ?_; simp only [thenQ, blockQ]) | (refine aw_round ?_) | (refine hK _ ?_; clear hK) | (clear hK; refine hK _ ?_; clear hK) | (clear hK; clear hK; refine hK _ ?_; clear hK) | (clear hK; clear hK; clear hK; refine hK _ ?_; clear hK))
            refine ⟨i + 1, ?_, ⟨by omega, by omega⟩, by omega⟩
            rw [hfin]
            exact le_of2 (by simp) (by simp [AVle, AV.under, AV.underL, hcu] <;> omega) (by simp [AOle, AO.under, AV.underL, AV.under] <;> omega)
    · have hilI : ¬ (i : Int) < (l.length : Int) := by omega
      repeat' (first | (apply aw_seq_k; intro K hK) | (refine aw_run hc (by first | exact aw_nod | (intro _; rw [ordB_w hw]; kernel_rfl) | (intro _; kernel_rfl)) ?_; simp [List.zipIdx, hilI, -getM, getM_hit, getM_miss, getM_none]; (repeat (simp (disch := first | omega | assumption | fail) only [if_pos, if_neg, wrap64]; try simp [List.zipIdx, hilI, -getM, getM_hit, getM_miss, getM_none])); try (repeat' (refine guardQ_split (fun h => ?_) (fun h => ?_) <;> simp at h <;> (simp [List.zipIdx, hilI, -getM, getM_hit, getM_miss, getM_none]; (repeat (simp (disch := first | omega | assumption | fail) only [if_pos, if_neg, wrap64]; try simp [List.zipIdx, hilI, -getM, getM_hit, getM_miss, getM_none])))))) | (refine aw_cond (b := _) (by exact rfl) (fun h => ?_) (fun h => ?_) <;> (try simp at h)) | (refine aw_block ?_) | (refine aw_skip ?_; simp only [thenQ, blockQ, if_true]) | (refine aw_exit ?_; simp [thenQ, blockQ]) | (refine aw_ret ?_; simp only [thenQ, blockQ]) | (refine aw_round ?_) | (refine hK _ ?_; clear hK) | (clear hK; refine hK _ ?_; clear hK) | (clear hK; clear hK; refine hK _ ?_; clear hK) | (clear hK; clear hK; clear hK; refine hK _ ?_; clear hK))
      rw [rnd_end (by omega)]
      refine leavesM_out ?_
      simp [leaveArg, sortK_len, take_irows']
end Go.AM
