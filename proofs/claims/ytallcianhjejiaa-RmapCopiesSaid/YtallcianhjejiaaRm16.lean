/- Rmap: the law Set. -/
import Derived.Test.YtallcianhjejiaaRm15
set_option linter.all false

namespace Go.AM
open Go Go.Proofs

theorem orows_tk (l : List Ops) (n : Nat) : (orows l).take n = orows (l.take n) := by simp [orows, List.map_take]
theorem go_take {l : List Ops} {i j : Nat} (h : j < i) : go (l.take i) j = go l j := by
  unfold go
  simp [List.getD_eq_getElem?_getD, List.getElem?_take, h]
theorem inL_next {os : List Ops} {j : Nat} (h : j < os.length) (m : Mp) : inL (os.take (j + 1)) m = if (go os j).2 = m then !(go os j).1 else inL (os.take j) m := by
  rw [take_succ_go h, inL_snoc]; rfl

set_option maxHeartbeats 4000000 in
theorem s7 (X : AX) (hX : XOK Try.prog X) (hw : X.W wT) (he : X.eqs 24 = true) (h8 : ∀ M n, X.call 8 [] M n = some (B true, [])) (h10 : X.call 10 = callP F9) (h11 : X.call 11 = callP F12) (h13 : X.call 13 = callD F13r) (h20 : X.call 20 = callD F20r) :
    PSound Try.prog 7 (specF (ι := List Ops) (fun x => [.rd 3 (orows x)]) fun _ => retOf [B true]) := by
  refine psound_spec hX mixed Try.func7 rfl fun os w0 G => ⟨by show 1 ≤ 219; decide, rfl, ?_⟩
  show AW ⟨Try.prog, X, 219, w0, .pure G⟩ _ _ _
  have hc : Cx.OK ⟨Try.prog, X, 219, w0, .pure G⟩ := ⟨hX, mixed⟩
  rcases Decidable.em (40 < (os.length : Int)) with h | h
  · repeat' (first | (apply aw_seq_k; intro K hK) | (refine aw_run hc (by first | exact aw_nod | (intro _; rw [ordB_w hw]; kernel_rfl) | (intro _; rw [ordB_w0 hw0]; kernel_rfl) | (intro _; kernel_rfl)) ?_; simp [List.zipIdx, h8, h, -getM, getM_hit, getM_miss, getM_none]; (repeat (simp (disch := first | omega | assumption | fail) only [if_pos, if_neg, wrap64]; try simp [List.zipIdx, h8, h, -getM, getM_hit, getM_miss, getM_none])); try (repeat' (refine guardQ_split (fun h => ?_) (fun h => ?_) <;> simp at h <;> (simp [List.zipIdx, h8, h, -getM, getM_hit, getM_miss, getM_none]; (repeat (simp (disch := first | omega | assumption | fail) only [if_pos, if_neg, wrap64]; try simp [List.zipIdx, h8, h, -getM, getM_hit, getM_miss, getM_none])))))) | (refine aw_cond (b := _) (by exact rfl) (fun h => ?_) (fun h => ?_) <;> (try simp at h)) | (refine aw_block ?_) | (refine aw_skip ?_; simp only [thenQ, blockQ, if_true]) | (refine aw_exit ?_; simp [thenQ, blockQ]) | (refine aw_ret ?_; simp only [thenQ, blockQ]) | (refine aw_round ?_) | (refine hK _ ?_; clear hK) | (clear hK; refine hK _ ?_; clear hK) | (clear hK; clear hK; refine hK _ ?_; clear hK) | (clear hK; clear hK; clear hK; refine hK _ ?_; clear hK))
    refine ⟨by simp, ?_⟩
    simp [leaves_iff, Try.f7]
    try (first | omega | (refine decide_eq_decide.2 ?_; omega) | (refine decide_eq_false ?_; omega) | (refine decide_eq_true ?_; omega))
  · have hl : os.length ≤ 40 := by omega
    repeat' (first | (apply aw_seq_k; intro K hK) | (refine aw_run hc (by first | exact aw_nod | (intro _; rw [ordB_w hw]; kernel_rfl) | (intro _; rw [ordB_w0 hw0]; kernel_rfl) | (intro _; kernel_rfl)) ?_; simp [List.zipIdx, h8, h, -getM, getM_hit, getM_miss, getM_none]; (repeat (simp (disch := first | omega | assumption | fail) only [if_pos, if_neg, wrap64]; try simp [List.zipIdx, h8, h, -getM, getM_hit, getM_miss, getM_none])); try (repeat' (refine guardQ_split (fun h => ?_) (fun h => ?_) <;> simp at h <;> (simp [List.zipIdx, h8, h, -getM, getM_hit, getM_miss, getM_none]; (repeat (simp (disch := first | omega | assumption | fail) only [if_pos, if_neg, wrap64]; try simp [List.zipIdx, h8, h, -getM, getM_hit, getM_miss, getM_none])))))) | (refine aw_cond (b := _) (by exact rfl) (fun h => ?_) (fun h => ?_) <;> (try simp at h)) | (refine aw_block ?_) | (refine aw_skip ?_; simp only [thenQ, blockQ, if_true]) | (refine aw_exit ?_; simp [thenQ, blockQ]) | (refine aw_ret ?_; simp only [thenQ, blockQ]) | (refine aw_round ?_) | (refine hK _ ?_; clear hK) | (clear hK; refine hK _ ?_; clear hK) | (clear hK; clear hK; refine hK _ ?_; clear hK) | (clear hK; clear hK; clear hK; refine hK _ ?_; clear hK))
    refine aw_weaken (le_nilslot (t := 4) (sz := 2) (by simp)) ?_
    refine aw_loopK (s0 := ?lps1) (m0 := ?lpm1) (ι := {i : Nat // i ≤ os.length}) [0, 32, 33] (fun i => [(34, I i.1), (3, .rd 2 (prows (stps [] (os.take i.1)))), (4, .sl 208 1 2 0 (allA os i.1).length)]) (fun i => [(208, .vec 1 2 false (prows (allA os i.1)))]) (fun i => os.length - i.1) ⟨0, by omega⟩ ?lhs1 ?lhm1 ?_ ?_
    case lhs1 => first | (simp [keepS]; done) | (simp [keepS]; rfl)
    case lhm1 => first | rfl | (simp; done) | (simp; rfl)
    · simp only [List.take_zero, stps, List.foldl_nil, allA, prows_nil, List.length_nil]
      exact le_of2 (by simp) (by simp [AVle, AV.under, AV.underL] <;> omega) (by simp [AOle, AO.under, AV.underL, AV.under] <;> omega)
    · rintro ⟨i, hi⟩
      simp only
      have hsr := set_run os i
      have hAl := allA_len os i
      have hLl := stps_len [] os i
      obtain ⟨L, hL⟩ : ∃ L, L = stps [] (os.take i) := ⟨_, rfl⟩
      obtain ⟨A, hA⟩ : ∃ A, A = allA os i := ⟨_, rfl⟩
      rw [← hL] at hsr hLl ⊢
      rw [← hA] at hAl ⊢
      rcases Decidable.em (i < os.length) with hil | hil
      · have hilI : (i : Int) < (os.length : Int) := by omega
        have hmin : min i os.length = i := by omega
        have hg := orows_gi hil
        have hgE := orows_gE hil
        have hst : stps [] (os.take (i + 1)) = stp L (go os i) := by rw [take_succ_go hil, stps_snoc, ← hL]
        have hall : allA os (i + 1) = allS (os.take i) A (go os i) := by rw [hA]; rfl
        have hop := set_opR hsr (go os i)
        obtain ⟨⟨r, a, b⟩, hm⟩ : ∃ m, m = go os i := ⟨_, rfl⟩
        rw [← hm] at hg hgE hst hall hop
        simp only at hg hgE hop
        repeat' (first | (apply aw_seq_k; intro K hK) | (refine aw_run hc (by first | exact aw_nod | (intro _; rw [ordB_w hw]; kernel_rfl) | (intro _; rw [ordB_w0 hw0]; kernel_rfl) | (intro _; kernel_rfl)) ?_; simp [List.zipIdx, hilI, hg, hgE, orows_tk, hmin, -getM, getM_hit, getM_miss, getM_none]; (repeat (simp (disch := first | omega | assumption | fail) only [if_pos, if_neg, wrap64]; try simp [List.zipIdx, hilI, hg, hgE, orows_tk, hmin, -getM, getM_hit, getM_miss, getM_none])); try (repeat' (refine guardQ_split (fun h => ?_) (fun h => ?_) <;> simp at h <;> (simp [List.zipIdx, hilI, hg, hgE, orows_tk, hmin, -getM, getM_hit, getM_miss, getM_none]; (repeat (simp (disch := first | omega | assumption | fail) only [if_pos, if_neg, wrap64]; try simp [List.zipIdx, hilI, hg, hgE, orows_tk, hmin, -getM, getM_hit, getM_miss, getM_none])))))) | (refine aw_cond (b := _) (by exact rfl) (fun h => ?_) (fun h => ?_) <;> (try simp at h)) | (refine aw_block ?_) | (refine aw_skip ?_; simp only [thenQ, blockQ, if_true]) | (refine aw_exit ?_; simp [thenQ, blockQ]) | (refine aw_ret ?_; simp only [thenQ, blockQ]) | (refine aw_round ?_) | (refine hK _ ?_; clear hK) | (clear hK; refine hK _ ?_; clear hK) | (clear hK; clear hK; refine hK _ ?_; clear hK) | (clear hK; clear hK; clear hK; refine hK _ ?_; clear hK))
        refine aw_loopK (s0 := ?lps2) (m0 := ?lpm2) (ι := {j : Nat // j ≤ i}) [0, 3, 4, 6, 7, 32, 33, 34, 43, 44] (fun j => [(45, I j.1), (8, B (inL (os.take j.1) (a, b)))]) (fun _ => []) (fun j => i - j.1) ⟨0, by omega⟩ ?lhs2 ?lhm2 ?_ ?_
        case lhs2 => first | (simp [keepS]; done) | (simp [keepS]; rfl)
        case lhm2 => first | rfl | (simp; done) | (simp; rfl)
        · simp only [List.take_zero, inL, List.foldl_nil]
          exact le_of2 (by simp) (by simp [AVle, AV.under, AV.underL] <;> omega) (by simp [AOle, AO.under, AV.underL, AV.under] <;> omega)
        · rintro ⟨j, hj⟩
          simp only
          rcases Decidable.em (j < i) with hjl | hjl
          · have hjI : (j : Int) < (i : Int) := by omega
            have hjo : j < os.length := by omega
            have hgj := orows_gi (l := os.take i) (n := j) (by rw [List.length_take]; omega)
            have hgjE := orows_gE (l := os.take i) (n := j) (by rw [List.length_take]; omega)
            rw [go_take hjl] at hgj hgjE
            have hnx := inL_next hjo (a, b)
            obtain ⟨⟨r', a', b'⟩, hm'⟩ : ∃ m, m = go os j := ⟨_, rfl⟩
            rw [← hm'] at hgj hgjE hnx
            simp only at hgj hgjE hnx
            obtain ⟨T, hT⟩ : ∃ T, T = os.take i := ⟨_, rfl⟩
            have hTl : T.length = i := by rw [hT, List.length_take]; omega
            rw [← hT] at hgj hgjE ⊢
            rcases Decidable.em (a' = a ∧ b' = b) with hv | hv
            · rw [if_pos (by rw [hv.1, hv.2])] at hnx
              obtain ⟨rfl, rfl⟩ := hv
              repeat' (first | (apply aw_seq_k; intro K hK) | (refine aw_run hc (by first | exact aw_nod | (intro _; rw [ordB_w hw]; kernel_rfl) | (intro _; rw [ordB_w0 hw0]; kernel_rfl) | (intro _; kernel_rfl)) ?_; simp [List.zipIdx, hjI, hgj, hgjE, hTl, hjl, he, eqL, -getM, getM_hit, getM_miss, getM_none]; (repeat (simp (disch := first | omega | assumption | fail) only [if_pos, if_neg, wrap64]; try simp [List.zipIdx, hjI, hgj, hgjE, hTl, hjl, he, eqL, -getM, getM_hit, getM_miss, getM_none])); try (repeat' (refine guardQ_split (fun h => ?_) (fun h => ?_) <;> simp at h <;> (simp [List.zipIdx, hjI, hgj, hgjE, hTl, hjl, he, eqL, -getM, getM_hit, getM_miss, getM_none]; (repeat (simp (disch := first | omega | assumption | fail) only [if_pos, if_neg, wrap64]; try simp [List.zipIdx, hjI, hgj, hgjE, hTl, hjl, he, eqL, -getM, getM_hit, getM_miss, getM_none])))))) | (refine aw_cond (b := _) (by exact rfl) (fun h => ?_) (fun h => ?_) <;> (try simp at h)) | (refine aw_block ?_) | (refine aw_skip ?_; simp only [thenQ, blockQ, if_true]) | (refine aw_exit ?_; simp [thenQ, blockQ]) | (refine aw_ret ?_; simp only [thenQ, blockQ]) | (refine aw_round ?_) | (refine hK _ ?_; clear hK) | (clear hK; refine hK _ ?_; clear hK) | (clear hK; clear hK; refine hK _ ?_; clear hK) | (clear hK; clear hK; clear hK; refine hK _ ?_; clear hK))
              refine ⟨j + 1, ?_, by omega, by omega⟩
              simp only [hnx]
              exact le_of2 (by simp) (by simp [AVle, AV.under, AV.underL] <;> omega) (by simp [AOle, AO.under, AV.underL, AV.under] <;> omega)
            · have hv' : (decide (a' = a) && decide (b' = b)) = false := by simpa using hv
              rw [if_neg (by simpa using hv)] at hnx
              repeat' (first | (apply aw_seq_k; intro K hK) | (refine aw_run hc (by first | exact aw_nod | (intro _; rw [ordB_w hw]; kernel_rfl) | (intro _; rw [ordB_w0 hw0]; kernel_rfl) | (intro _; kernel_rfl)) ?_; simp [List.zipIdx, hjI, hgj, hgjE, hTl, hjl, he, eqL, hv', -getM, getM_hit, getM_miss, getM_none]; (repeat (simp (disch := first | omega | assumption | fail) only [if_pos, if_neg, wrap64]; try simp [List.zipIdx, hjI, hgj, hgjE, hTl, hjl, he, eqL, hv', -getM, getM_hit, getM_miss, getM_none])); try (repeat' (refine guardQ_split (fun h => ?_) (fun h => ?_) <;> simp at h <;> (simp [List.zipIdx, hjI, hgj, hgjE, hTl, hjl, he, eqL, hv', -getM, getM_hit, getM_miss, getM_none]; (repeat (simp (disch := first | omega | assumption | fail) only [if_pos, if_neg, wrap64]; try simp [List.zipIdx, hjI, hgj, hgjE, hTl, hjl, he, eqL, hv', -getM, getM_hit, getM_miss, getM_none])))))) | (refine aw_cond (b := _) (by exact rfl) (fun h => ?_) (fun h => ?_) <;> (try simp at h)) | (refine aw_block ?_) | (refine aw_skip ?_; simp only [thenQ, blockQ, if_true]) | (refine aw_exit ?_; simp [thenQ, blockQ]) | (refine aw_ret ?_; simp only [thenQ, blockQ]) | (refine aw_round ?_) | (refine hK _ ?_; clear hK) | (clear hK; refine hK _ ?_; clear hK) | (clear hK; clear hK; refine hK _ ?_; clear hK) | (clear hK; clear hK; clear hK; refine hK _ ?_; clear hK))
              refine ⟨j + 1, ?_, by omega, by omega⟩
              simp only [hnx]
              exact le_of2 (by simp) (by simp [AVle, AV.under, AV.underL] <;> omega) (by simp [AOle, AO.under, AV.underL, AV.under] <;> omega)
          · obtain rfl : i = j := by omega
            obtain ⟨q, hq⟩ : ∃ q, q = inL (os.take i) (a, b) := ⟨_, rfl⟩
            rw [← hq] at hop ⊢
            have hAr := F13r_at L a b (by simp at hLl; omega)
            have hRr := F20r_at L a b (by simp at hLl; omega)
            have hAr' : ∀ M n, X.call 13 [.rd 2 (prows L), .agg [I a, I b]] M n = some (.tup [.rd 2 (prows (addR L (a, b)).1), I (addR L (a, b)).2], []) := fun M n => by rw [h13]; exact callD_ok hAr rfl (by simp)
            have hRr' : ∀ M n, X.call 20 [.rd 2 (prows L), .agg [I a, I b]] M n = some (.tup [.rd 2 (prows (remR L (a, b)).1), I (remR L (a, b)).2], []) := fun M n => by rw [h20]; exact callD_ok hRr rfl (by simp)
            unfold stp at hst
            unfold allS at hall
            simp only [← hq] at hall
            unfold opR at hop hst
            obtain ⟨⟨g, e⟩, hge⟩ : ∃ g, g = addR L (a, b) := ⟨_, rfl⟩
            obtain ⟨⟨k, d⟩, hkd⟩ : ∃ g, g = remR L (a, b) := ⟨_, rfl⟩
            simp only [← hge, ← hkd] at hop hst hAr' hRr'
            have hVs : (valM (a, b) ∧ 0 ≤ a ∧ a < 8 ∧ 0 ≤ b ∧ b < 512) ∨ (¬ valM (a, b) ∧ ¬ 0 ≤ a) ∨ (¬ valM (a, b) ∧ 0 ≤ a ∧ ¬ a < 8) ∨ (¬ valM (a, b) ∧ 0 ≤ a ∧ a < 8 ∧ ¬ 0 ≤ b) ∨ (¬ valM (a, b) ∧ 0 ≤ a ∧ a < 8 ∧ 0 ≤ b ∧ ¬ b < 512) := by
              unfold valM
              simp only
              omega
            rcases hVs with ⟨hV, v1, v2, v3, v4⟩ | ⟨hV, v1⟩ | ⟨hV, v1, v2⟩ | ⟨hV, v1, v2, v3⟩ | ⟨hV, v1, v2, v3, v4⟩
            · cases r with
              | true =>
                simp only [if_true] at hop hst
                rw [if_neg (by simp)] at hall
                cases q with
                | true =>
                  have hz : d = 0 := hop.2 ⟨hV, rfl⟩
                  subst hz
                  rw [if_pos rfl] at hst
                  repeat' (first | (apply aw_seq_k; intro K hK) | (refine aw_run hc (by first | exact aw_nod | (intro _; rw [ordB_w hw]; kernel_rfl) | (intro _; rw [ordB_w0 hw0]; kernel_rfl) | (intro _; kernel_rfl)) ?_; simp [List.zipIdx, v1, v2, v3, v4, hAr', hRr', pap, tkM, -getM, getM_hit, getM_miss, getM_none]; (repeat (simp (disch := first | omega | assumption | fail) only [if_pos, if_neg, wrap64]; try simp [List.zipIdx, v1, v2, v3, v4, hAr', hRr', pap, tkM, -getM, getM_hit, getM_miss, getM_none])); try (repeat' (refine guardQ_split (fun h => ?_) (fun h => ?_) <;> simp at h <;> (simp [List.zipIdx, v1, v2, v3, v4, hAr', hRr', pap, tkM, -getM, getM_hit, getM_miss, getM_none]; (repeat (simp (disch := first | omega | assumption | fail) only [if_pos, if_neg, wrap64]; try simp [List.zipIdx, v1, v2, v3, v4, hAr', hRr', pap, tkM, -getM, getM_hit, getM_miss, getM_none])))))) | (refine aw_cond (b := _) (by exact rfl) (fun h => ?_) (fun h => ?_) <;> (try simp at h)) | (refine aw_block ?_) | (refine aw_skip ?_; simp only [thenQ, blockQ, if_true]) | (refine aw_exit ?_; simp [thenQ, blockQ]) | (refine aw_ret ?_; simp only [thenQ, blockQ]) | (refine aw_round ?_) | (refine hK _ ?_; clear hK) | (clear hK; refine hK _ ?_; clear hK) | (clear hK; clear hK; refine hK _ ?_; clear hK) | (clear hK; clear hK; clear hK; refine hK _ ?_; clear hK))
                  refine ⟨i + 1, ?_, by omega, by omega⟩
                  simp only [hst, hall]
                  refine le_turn (s1 := ?tus3) (m1 := ?tum3) [] [0, 32, 33, 34, 3, 4] [208] ?tua3 ?tub3 ?tuc3 ?tud3 ?tue3 ?tuf3 ?tug3
                  case tua3 => first | (simp [keepS]; done) | (simp [keepS]; rfl)
                  case tub3 => first | (simp; done) | (simp; rfl)
                  case tuc3 => simp
                  case tud3 => simp
                  case tue3 => simp
                  case tuf3 => simp
                  case tug3 =>
                    simp [swp, vr]
                    exact le_of2 (by simp) (by simp [AVle, AV.under, AV.underL] <;> omega) (by simp [AOle, AO.under, AV.underL, AV.under] <;> omega)
                | false =>
                  have hz : ¬ d = 0 := fun h => by have := (hop.1 h).2; simp at this
                  rw [if_neg hz] at hst
                  repeat' (first | (apply aw_seq_k; intro K hK) | (refine aw_run hc (by first | exact aw_nod | (intro _; rw [ordB_w hw]; kernel_rfl) | (intro _; rw [ordB_w0 hw0]; kernel_rfl) | (intro _; kernel_rfl)) ?_; simp [List.zipIdx, v1, v2, v3, v4, hz, hAr', hRr', pap, tkM, -getM, getM_hit, getM_miss, getM_none]; (repeat (simp (disch := first | omega | assumption | fail) only [if_pos, if_neg, wrap64]; try simp [List.zipIdx, v1, v2, v3, v4, hz, hAr', hRr', pap, tkM, -getM, getM_hit, getM_miss, getM_none])); try (repeat' (refine guardQ_split (fun h => ?_) (fun h => ?_) <;> simp at h <;> (simp [List.zipIdx, v1, v2, v3, v4, hz, hAr', hRr', pap, tkM, -getM, getM_hit, getM_miss, getM_none]; (repeat (simp (disch := first | omega | assumption | fail) only [if_pos, if_neg, wrap64]; try simp [List.zipIdx, v1, v2, v3, v4, hz, hAr', hRr', pap, tkM, -getM, getM_hit, getM_miss, getM_none])))))) | (refine aw_cond (b := _) (by exact rfl) (fun h => ?_) (fun h => ?_) <;> (try simp at h)) | (refine aw_block ?_) | (refine aw_skip ?_; simp only [thenQ, blockQ, if_true]) | (refine aw_exit ?_; simp [thenQ, blockQ]) | (refine aw_ret ?_; simp only [thenQ, blockQ]) | (refine aw_round ?_) | (refine hK _ ?_; clear hK) | (clear hK; refine hK _ ?_; clear hK) | (clear hK; clear hK; refine hK _ ?_; clear hK) | (clear hK; clear hK; clear hK; refine hK _ ?_; clear hK))
                  refine ⟨i + 1, ?_, by omega, by omega⟩
                  simp only [hst, hall]
                  refine le_turn (s1 := ?tus4) (m1 := ?tum4) [] [0, 32, 33, 34, 3, 4] [208] ?tua4 ?tub4 ?tuc4 ?tud4 ?tue4 ?tuf4 ?tug4
                  case tua4 => first | (simp [keepS]; done) | (simp [keepS]; rfl)
                  case tub4 => first | (simp; done) | (simp; rfl)
                  case tuc4 => simp
                  case tud4 => simp
                  case tue4 => simp
                  case tuf4 => simp
                  case tug4 =>
                    simp [swp, vr]
                    exact le_of2 (by simp) (by simp [AVle, AV.under, AV.underL] <;> omega) (by simp [AOle, AO.under, AV.underL, AV.under] <;> omega)
              | false =>
                simp only [Bool.false_eq_true, if_false] at hop hst
                cases q with
                | true =>
                  have hz : ¬ e = 0 := fun h => by have := (hop.1 h).2; simp at this
                  rw [if_neg hz] at hst
                  rw [if_neg (by simp)] at hall
                  repeat' (first | (apply aw_seq_k; intro K hK) | (refine aw_run hc (by first | exact aw_nod | (intro _; rw [ordB_w hw]; kernel_rfl) | (intro _; rw [ordB_w0 hw0]; kernel_rfl) | (intro _; kernel_rfl)) ?_; simp [List.zipIdx, v1, v2, v3, v4, hz, hAr', hRr', pap, tkM, -getM, getM_hit, getM_miss, getM_none]; (repeat (simp (disch := first | omega | assumption | fail) only [if_pos, if_neg, wrap64]; try simp [List.zipIdx, v1, v2, v3, v4, hz, hAr', hRr', pap, tkM, -getM, getM_hit, getM_miss, getM_none])); try (repeat' (refine guardQ_split (fun h => ?_) (fun h => ?_) <;> simp at h <;> (simp [List.zipIdx, v1, v2, v3, v4, hz, hAr', hRr', pap, tkM, -getM, getM_hit, getM_miss, getM_none]; (repeat (simp (disch := first | omega | assumption | fail) only [if_pos, if_neg, wrap64]; try simp [List.zipIdx, v1, v2, v3, v4, hz, hAr', hRr', pap, tkM, -getM, getM_hit, getM_miss, getM_none])))))) | (refine aw_cond (b := _) (by exact rfl) (fun h => ?_) (fun h => ?_) <;> (try simp at h)) | (refine aw_block ?_) | (refine aw_skip ?_; simp only [thenQ, blockQ, if_true]) | (refine aw_exit ?_; simp [thenQ, blockQ]) | (refine aw_ret ?_; simp only [thenQ, blockQ]) | (refine aw_round ?_) | (refine hK _ ?_; clear hK) | (clear hK; refine hK _ ?_; clear hK) | (clear hK; clear hK; refine hK _ ?_; clear hK) | (clear hK; clear hK; clear hK; refine hK _ ?_; clear hK))
                  refine ⟨i + 1, ?_, by omega, by omega⟩
                  simp only [hst, hall]
                  refine le_turn (s1 := ?tus5) (m1 := ?tum5) [] [0, 32, 33, 34, 3, 4] [208] ?tua5 ?tub5 ?tuc5 ?tud5 ?tue5 ?tuf5 ?tug5
                  case tua5 => first | (simp [keepS]; done) | (simp [keepS]; rfl)
                  case tub5 => first | (simp; done) | (simp; rfl)
                  case tuc5 => simp
                  case tud5 => simp
                  case tue5 => simp
                  case tuf5 => simp
                  case tug5 =>
                    simp [swp, vr]
                    exact le_of2 (by simp) (by simp [AVle, AV.under, AV.underL] <;> omega) (by simp [AOle, AO.under, AV.underL, AV.under] <;> omega)
                | false =>
                  have hz : e = 0 := hop.2 ⟨hV, rfl⟩
                  subst hz
                  rw [if_pos rfl] at hst
                  rw [if_pos ⟨rfl, hV, rfl⟩] at hall
                  repeat' (first | (apply aw_seq_k; intro K hK) | (refine aw_run hc (by first | exact aw_nod | (intro _; rw [ordB_w hw]; kernel_rfl) | (intro _; rw [ordB_w0 hw0]; kernel_rfl) | (intro _; kernel_rfl)) ?_; simp [List.zipIdx, v1, v2, v3, v4, hAr', hRr', pap, tkM, -getM, getM_hit, getM_miss, getM_none]; (repeat (simp (disch := first | omega | assumption | fail) only [if_pos, if_neg, wrap64]; try simp [List.zipIdx, v1, v2, v3, v4, hAr', hRr', pap, tkM, -getM, getM_hit, getM_miss, getM_none])); try (repeat' (refine guardQ_split (fun h => ?_) (fun h => ?_) <;> simp at h <;> (simp [List.zipIdx, v1, v2, v3, v4, hAr', hRr', pap, tkM, -getM, getM_hit, getM_miss, getM_none]; (repeat (simp (disch := first | omega | assumption | fail) only [if_pos, if_neg, wrap64]; try simp [List.zipIdx, v1, v2, v3, v4, hAr', hRr', pap, tkM, -getM, getM_hit, getM_miss, getM_none])))))) | (refine aw_cond (b := _) (by exact rfl) (fun h => ?_) (fun h => ?_) <;> (try simp at h)) | (refine aw_block ?_) | (refine aw_skip ?_; simp only [thenQ, blockQ, if_true]) | (refine aw_exit ?_; simp [thenQ, blockQ]) | (refine aw_ret ?_; simp only [thenQ, blockQ]) | (refine aw_round ?_) | (refine hK _ ?_; clear hK) | (clear hK; refine hK _ ?_; clear hK) | (clear hK; clear hK; refine hK _ ?_; clear hK) | (clear hK; clear hK; clear hK; refine hK _ ?_; clear hK))
                  refine ⟨i + 1, ?_, by omega, by omega⟩
                  simp only [hst, hall]
                  refine le_turn (s1 := ?tus6) (m1 := ?tum6) [] [0, 32, 33, 34, 3, 4] [208] ?tua6 ?tub6 ?tuc6 ?tud6 ?tue6 ?tuf6 ?tug6
                  case tua6 => first | (simp [keepS]; done) | (simp [keepS]; rfl)
                  case tub6 => first | (simp; done) | (simp; rfl)
                  case tuc6 => simp
                  case tud6 => simp
                  case tue6 => simp
                  case tuf6 => simp
                  case tug6 =>
                    simp [swp, vr]
                    exact le_of2 (by simp) (by simp [AVle, AV.under, AV.underL] <;> omega) (by simp [AOle, AO.under, AV.underL, AV.under] <;> omega)
            · rw [if_neg (fun h => hV h.2.1)] at hall
              cases r with
              | true =>
                simp only [if_true] at hop hst
                have hz : ¬ d = 0 := fun h => hV (hop.1 h).1
                rw [if_neg hz] at hst
                repeat' (first | (apply aw_seq_k; intro K hK) | (refine aw_run hc (by first | exact aw_nod | (intro _; rw [ordB_w hw]; kernel_rfl) | (intro _; rw [ordB_w0 hw0]; kernel_rfl) | (intro _; kernel_rfl)) ?_; simp [List.zipIdx, v1, hz, hAr', hRr', pap, tkM, -getM, getM_hit, getM_miss, getM_none]; (repeat (simp (disch := first | omega | assumption | fail) only [if_pos, if_neg, wrap64]; try simp [List.zipIdx, v1, hz, hAr', hRr', pap, tkM, -getM, getM_hit, getM_miss, getM_none])); try (repeat' (refine guardQ_split (fun h => ?_) (fun h => ?_) <;> simp at h <;> (simp [List.zipIdx, v1, hz, hAr', hRr', pap, tkM, -getM, getM_hit, getM_miss, getM_none]; (repeat (simp (disch := first | omega | assumption | fail) only [if_pos, if_neg, wrap64]; try simp [List.zipIdx, v1, hz, hAr', hRr', pap, tkM, -getM, getM_hit, getM_miss, getM_none])))))) | (refine aw_cond (b := _) (by exact rfl) (fun h => ?_) (fun h => ?_) <;> (try simp at h)) | (refine aw_block ?_) | (refine aw_skip ?_; simp only [thenQ, blockQ, if_true]) | (refine aw_exit ?_; simp [thenQ, blockQ]) | (refine aw_ret ?_; simp only [thenQ, blockQ]) | (refine aw_round ?_) | (refine hK _ ?_; clear hK) | (clear hK; refine hK _ ?_; clear hK) | (clear hK; clear hK; refine hK _ ?_; clear hK) | (clear hK; clear hK; clear hK; refine hK _ ?_; clear hK))
                refine ⟨i + 1, ?_, by omega, by omega⟩
                simp only [hst, hall]
                refine le_turn (s1 := ?tus7) (m1 := ?tum7) [] [0, 32, 33, 34, 3, 4] [208] ?tua7 ?tub7 ?tuc7 ?tud7 ?tue7 ?tuf7 ?tug7
                case tua7 => first | (simp [keepS]; done) | (simp [keepS]; rfl)
                case tub7 => first | (simp; done) | (simp; rfl)
                case tuc7 => simp
                case tud7 => simp
                case tue7 => simp
                case tuf7 => simp
                case tug7 =>
                  simp [swp, vr]
                  exact le_of2 (by simp) (by simp [AVle, AV.under, AV.underL] <;> omega) (by simp [AOle, AO.under, AV.underL, AV.under] <;> omega)
              | false =>
                simp only [Bool.false_eq_true, if_false] at hop hst
                have hz : ¬ e = 0 := fun h => hV (hop.1 h).1
                rw [if_neg hz] at hst
                repeat' (first | (apply aw_seq_k; intro K hK) | (refine aw_run hc (by first | exact aw_nod | (intro _; rw [ordB_w hw]; kernel_rfl) | (intro _; rw [ordB_w0 hw0]; kernel_rfl) | (intro _; kernel_rfl)) ?_; simp [List.zipIdx, v1, hz, hAr', hRr', pap, tkM, -getM, getM_hit, getM_miss, getM_none]; (repeat (simp (disch := first | omega | assumption | fail) only [if_pos, if_neg, wrap64]; try simp [List.zipIdx, v1, hz, hAr', hRr', pap, tkM, -getM, getM_hit, getM_miss, getM_none])); try (repeat' (refine guardQ_split (fun h => ?_) (fun h => ?_) <;> simp at h <;> (simp [List.zipIdx, v1, hz, hAr', hRr', pap, tkM, -getM, getM_hit, getM_miss, getM_none]; (repeat (simp (disch := first | omega | assumption | fail) only [if_pos, if_neg, wrap64]; try simp [List.zipIdx, v1, hz, hAr', hRr', pap, tkM, -getM, getM_hit, getM_miss, getM_none])))))) | (refine aw_cond (b := _) (by exact rfl) (fun h => ?_) (fun h => ?_) <;> (try simp at h)) | (refine aw_block ?_) | (refine aw_skip ?_; simp only [thenQ, blockQ, if_true]) | (refine aw_exit ?_; simp [thenQ, blockQ]) | (refine aw_ret ?_; simp only [thenQ, blockQ]) | (refine aw_round ?_) | (refine hK _ ?_; clear hK) | (clear hK; refine hK _ ?_; clear hK) | (clear hK; clear hK; refine hK _ ?_; clear hK) | (clear hK; clear hK; clear hK; refine hK _ ?_; clear hK))
                refine ⟨i + 1, ?_, by omega, by omega⟩
                simp only [hst, hall]
                refine le_turn (s1 := ?tus8) (m1 := ?tum8) [] [0, 32, 33, 34, 3, 4] [208] ?tua8 ?tub8 ?tuc8 ?tud8 ?tue8 ?tuf8 ?tug8
                case tua8 => first | (simp [keepS]; done) | (simp [keepS]; rfl)
                case tub8 => first | (simp; done) | (simp; rfl)
                case tuc8 => simp
                case tud8 => simp
                case tue8 => simp
                case tuf8 => simp
                case tug8 =>
                  simp [swp, vr]
                  exact le_of2 (by simp) (by simp [AVle, AV.under, AV.underL] <;> omega) (by simp [AOle, AO.under, AV.underL, AV.under] <;> omega)
            · rw [if_neg (fun h => hV h.2.1)] at hall
              cases r with
              | true =>
                simp only [if_true] at hop hst
                have hz : ¬ d = 0 := fun h => hV (hop.1 h).1
                rw [if_neg hz] at hst
                repeat' (first | (apply aw_seq_k; intro K hK) | (refine aw_run hc (by first | exact aw_nod | (intro _; rw [ordB_w hw]; kernel_rfl) | (intro _; rw [ordB_w0 hw0]; kernel_rfl) | (intro _; kernel_rfl)) ?_; simp [List.zipIdx, v1, v2, hz, hAr', hRr', pap, tkM, -getM, getM_hit, getM_miss, getM_none]; (repeat (simp (disch := first | omega | assumption | fail) only [if_pos, if_neg, wrap64]; try simp [List.zipIdx, v1, v2, hz, hAr', hRr', pap, tkM, -getM, getM_hit, getM_miss, getM_none])); try (repeat' (refine guardQ_split (fun h => ?_) (fun h => ?_) <;> simp at h <;> (simp [List.zipIdx, v1, v2, hz, hAr', hRr', pap, tkM, -getM, getM_hit, getM_miss, getM_none]; (repeat (simp (disch := first | omega | assumption | fail) only [if_pos, if_neg, wrap64]; try simp [List.zipIdx, v1, v2, hz, hAr', hRr', pap, tkM, -getM, getM_hit, getM_miss, getM_none])))))) | (refine aw_cond (b := _) (by exact rfl) (fun h => ?_) (fun h => ?_) <;> (try simp at h)) | (refine aw_block ?_) | (refine aw_skip ?_; simp only [thenQ, blockQ, if_true]) | (refine aw_exit ?_; simp [thenQ, blockQ]) | (refine aw_ret ?_; simp only [thenQ, blockQ]) | (refine aw_round ?_) | (refine hK _ ?_; clear hK) | (clear hK; refine hK _ ?_; clear hK) | (clear hK; clear hK; refine hK _ ?_; clear hK) | (clear hK; clear hK; clear hK; refine hK _ ?_; clear hK))
                refine ⟨i + 1, ?_, by omega, by omega⟩
                simp only [hst, hall]
                refine le_turn (s1 := ?tus9) (m1 := ?tum9) [] [0, 32, 33, 34, 3, 4] [208] ?tua9 ?tub9 ?tuc9 ?tud9 ?tue9 ?tuf9 ?tug9
                case tua9 => first | (simp [keepS]; done) | (simp [keepS]; rfl)
                case tub9 => first | (simp; done) | (simp; rfl)
                case tuc9 => simp
                case tud9 => simp
                case tue9 => simp
                case tuf9 => simp
                case tug9 =>
                  simp [swp, vr]
                  exact le_of2 (by simp) (by simp [AVle, AV.under, AV.underL] <;> omega) (by simp [AOle, AO.under, AV.underL, AV.under] <;> omega)
              | false =>
                simp only [Bool.false_eq_true, if_false] at hop hst
                have hz : ¬ e = 0 := fun h => hV (hop.1 h).1
                rw [if_neg hz] at hst
                repeat' (first | (apply aw_seq_k; intro K hK) | (refine aw_run hc (by first | exact aw_nod | (intro _; rw [ordB_w hw]; kernel_rfl) | (intro _; rw [ordB_w0 hw0]; kernel_rfl) | (intro _; kernel_rfl)) ?_; simp [List.zipIdx, v1, v2, hz, hAr', hRr', pap, tkM, -getM, getM_hit, getM_miss, getM_none]; (repeat (simp (disch := first | omega | assumption | fail) only [if_pos, if_neg, wrap64]; try simp [List.zipIdx, v1, v2, hz, hAr', hRr', pap, tkM, -getM, getM_hit, getM_miss, getM_none])); try (repeat' (refine guardQ_split (fun h => ?_) (fun h => ?_) <;> simp at h <;> (simp [List.zipIdx, v1, v2, hz, hAr', hRr', pap, tkM, -getM, getM_hit, getM_miss, getM_none]; (repeat (simp (disch := first | omega | assumption | fail) only [if_pos, if_neg, wrap64]; try simp [List.zipIdx, v1, v2, hz, hAr', hRr', pap, tkM, -getM, getM_hit, getM_miss, getM_none])))))) | (refine aw_cond (b := _) (by exact rfl) (fun h => ?_) (fun h => ?_) <;> (try simp at h)) | (refine aw_block ?_) | (refine aw_skip ?_; simp only [thenQ, blockQ, if_true]) | (refine aw_exit ?_; simp [thenQ, blockQ]) | (refine aw_ret ?_; simp only [thenQ, blockQ]) | (refine aw_round ?_) | (refine hK _ ?_; clear hK) | (clear hK; refine hK _ ?_; clear hK) | (clear hK; clear hK; refine hK _ ?_; clear hK) | (clear hK; clear hK; clear hK; refine hK _ ?_; clear hK))
                refine ⟨i + 1, ?_, by omega, by omega⟩
                simp only [hst, hall]
                refine le_turn (s1 := ?tus10) (m1 := ?tum10) [] [0, 32, 33, 34, 3, 4] [208] ?tua10 ?tub10 ?tuc10 ?tud10 ?tue10 ?tuf10 ?tug10
                case tua10 => first | (simp [keepS]; done) | (simp [keepS]; rfl)
                case tub10 => first | (simp; done) | (simp; rfl)
                case tuc10 => simp
                case tud10 => simp
                case tue10 => simp
                case tuf10 => simp
                case tug10 =>
                  simp [swp, vr]
                  exact le_of2 (by simp) (by simp [AVle, AV.under, AV.underL] <;> omega) (by simp [AOle, AO.under, AV.underL, AV.under] <;> omega)
            · rw [if_neg (fun h => hV h.2.1)] at hall
              cases r with
              | true =>
                simp only [if_true] at hop hst
                have hz : ¬ d = 0 := fun h => hV (hop.1 h).1
                rw [if_neg hz] at hst
                repeat' (first | (apply aw_seq_k; intro K hK) | (refine aw_run hc (by first | exact aw_nod | (intro _; rw [ordB_w hw]; kernel_rfl) | (intro _; rw [ordB_w0 hw0]; kernel_rfl) | (intro _; kernel_rfl)) ?_; simp [List.zipIdx, v1, v2, v3, hz, hAr', hRr', pap, tkM, -getM, getM_hit, getM_miss, getM_none]; (repeat (simp (disch := first | omega | assumption | fail) only [if_pos, if_neg, wrap64]; try simp [List.zipIdx, v1, v2, v3, hz, hAr', hRr', pap, tkM, -getM, getM_hit, getM_miss, getM_none])); try (repeat' (refine guardQ_split (fun h => ?_) (fun h => ?_) <;> simp at h <;> (simp [List.zipIdx, v1, v2, v3, hz, hAr', hRr', pap, tkM, -getM, getM_hit, getM_miss, getM_none]; (repeat (simp (disch := first | omega | assumption | fail) only [if_pos, if_neg, wrap64]; try simp [List.zipIdx, v1, v2, v3, hz, hAr', hRr', pap, tkM, -getM, getM_hit, getM_miss, getM_none])))))) | (refine aw_cond (b := _) (by exact rfl) (fun h => ?_) (fun h => ?_) <;> (try simp at h)) | (refine aw_block ?_) | (refine aw_skip ?_; simp only [thenQ, blockQ, if_true]) | (refine aw_exit ?_; simp [thenQ, blockQ]) | (refine aw_ret ?_; simp only [thenQ, blockQ]) | (refine aw_round ?_) | (refine hK _ ?_; clear hK) | (clear hK; refine hK _ ?_; clear hK) | (clear hK; clear hK; refine hK _ ?_; clear hK) | (clear hK; clear hK; clear hK; refine hK _ ?_; clear hK))
                refine ⟨i + 1, ?_, by omega, by omega⟩
                simp only [hst, hall]
                refine le_turn (s1 := ?tus11) (m1 := ?tum11) [] [0, 32, 33, 34, 3, 4] [208] ?tua11 ?tub11 ?tuc11 ?tud11 ?tue11 ?tuf11 ?tug11
                case tua11 => first | (simp [keepS]; done) | (simp [keepS]; rfl)
                case tub11 => first | (simp; done) | (simp; rfl)
                case tuc11 => simp
                case tud11 => simp
                case tue11 => simp
                case tuf11 => simp
                case tug11 =>
                  simp [swp, vr]
                  exact le_of2 (by simp) (by simp [AVle, AV.under, AV.underL] <;> omega) (by simp [AOle, AO.under, AV.underL, AV.under] <;> omega)
              | false =>
                simp only [Bool.false_eq_true, if_false] at hop hst
                have hz : ¬ e = 0 := fun h => hV (hop.1 h).1
                rw [if_neg hz] at hst
                repeat' (first | (apply aw_seq_k; intro K hK) | (refine aw_run hc (by first | exact aw_nod | (intro _; rw [ordB_w hw]; kernel_rfl) | (intro _; rw [ordB_w0 hw0]; kernel_rfl) | (intro _; kernel_rfl)) ?_; simp [List.zipIdx, v1, v2, v3, hz, hAr', hRr', pap, tkM, -getM, getM_hit, getM_miss, getM_none]; (repeat (simp (disch := first | omega | assumption | fail) only [if_pos, if_neg, wrap64]; try simp [List.zipIdx, v1, v2, v3, hz, hAr', hRr', pap, tkM, -getM, getM_hit, getM_miss, getM_none])); try (repeat' (refine guardQ_split (fun h => ?_) (fun h => ?_) <;> simp at h <;> (simp [List.zipIdx, v1, v2, v3, hz, hAr', hRr', pap, tkM, -getM, getM_hit, getM_miss, getM_none]; (repeat (simp (disch := first | omega | assumption | fail) only [if_pos, if_neg, wrap64]; try simp [List.zipIdx, v1, v2, v3, hz, hAr', hRr', pap, tkM, -getM, getM_hit, getM_miss, getM_none])))))) | (refine aw_cond (b := _) (by exact rfl) (fun h => ?_) (fun h => ?_) <;> (try simp at h)) | (refine aw_block ?_) | (refine aw_skip ?_; simp only [thenQ, blockQ, if_true]) | (refine aw_exit ?_; simp [thenQ, blockQ]) | (refine aw_ret ?_; simp only [thenQ, blockQ]) | (refine aw_round ?_) | (refine hK _ ?_; clear hK) | (clear hK; refine hK _ ?_; clear hK) | (clear hK; clear hK; refine hK _ ?_; clear hK) | (clear hK; clear hK; clear hK; refine hK _ ?_; clear hK))
                refine ⟨i + 1, ?_, by omega, by omega⟩
                simp only [hst, hall]
                refine le_turn (s1 := ?tus12) (m1 := ?tum12) [] [0, 32, 33, 34, 3, 4] [208] ?tua12 ?tub12 ?tuc12 ?tud12 ?tue12 ?tuf12 ?tug12
                case tua12 => first | (simp [keepS]; done) | (simp [keepS]; rfl)
                case tub12 => first | (simp; done) | (simp; rfl)
                case tuc12 => simp
                case tud12 => simp
                case tue12 => simp
                case tuf12 => simp
                case tug12 =>
                  simp [swp, vr]
                  exact le_of2 (by simp) (by simp [AVle, AV.under, AV.underL] <;> omega) (by simp [AOle, AO.under, AV.underL, AV.under] <;> omega)
            · rw [if_neg (fun h => hV h.2.1)] at hall
              cases r with
              | true =>
                simp only [if_true] at hop hst
                have hz : ¬ d = 0 := fun h => hV (hop.1 h).1
                rw [if_neg hz] at hst
                repeat' (first | (apply aw_seq_k; intro K hK) | (refine aw_run hc (by first | exact aw_nod | (intro _; rw [ordB_w hw]; kernel_rfl) | (intro _; rw [ordB_w0 hw0]; kernel_rfl) | (intro _; kernel_rfl)) ?_; simp [List.zipIdx, v1, v2, v3, v4, hz, hAr', hRr', pap, tkM, -getM, getM_hit, getM_miss, getM_none]; (repeat (simp (disch := first | omega | assumption | fail) only [if_pos, if_neg, wrap64]; try simp [List.zipIdx, v1, v2, v3, v4, hz, hAr', hRr', pap, tkM, -getM, getM_hit, getM_miss, getM_none])); try (repeat' (refine guardQ_split (fun h => ?_) (fun h => ?_) <;> simp at h <;> (simp [List.zipIdx, v1, v2, v3, v4, hz, hAr', hRr', pap, tkM, -getM, getM_hit, getM_miss, getM_none]; (repeat (simp (disch := first | omega | assumption | fail) only [if_pos, if_neg, wrap64]; try simp [List.zipIdx, v1, v2, v3, v4, hz, hAr', hRr', pap, tkM, -getM, getM_hit, getM_miss, getM_none])))))) | (refine aw_cond (b := _) (by exact rfl) (fun h => ?_) (fun h => ?_) <;> (try simp at h)) | (refine aw_block ?_) | (refine aw_skip ?_; simp only [thenQ, blockQ, if_true]) | (refine aw_exit ?_; simp [thenQ, blockQ]) | (refine aw_ret ?_; simp only [thenQ, blockQ]) | (refine aw_round ?_) | (refine hK _ ?_; clear hK) | (clear hK; refine hK _ ?_; clear hK) | (clear hK; clear hK; refine hK _ ?_; clear hK) | (clear hK; clear hK; clear hK; refine hK _ ?_; clear hK))
                refine ⟨i + 1, ?_, by omega, by omega⟩
                simp only [hst, hall]
                refine le_turn (s1 := ?tus13) (m1 := ?tum13) [] [0, 32, 33, 34, 3, 4] [208] ?tua13 ?tub13 ?tuc13 ?tud13 ?tue13 ?tuf13 ?tug13
                case tua13 => first | (simp [keepS]; done) | (simp [keepS]; rfl)
                case tub13 => first | (simp; done) | (simp; rfl)
                case tuc13 => simp
                case tud13 => simp
                case tue13 => simp
                case tuf13 => simp
                case tug13 =>
                  simp [swp, vr]
                  exact le_of2 (by simp) (by simp [AVle, AV.under, AV.underL] <;> omega) (by simp [AOle, AO.under, AV.underL, AV.under] <;> omega)
              | false =>
                simp only [Bool.false_eq_true, if_false] at hop hst
                have hz : ¬ e = 0 := fun h => hV (hop.1 h).1
                rw [if_neg hz] at hst
                repeat' (first | (apply aw_seq_k; intro K hK) | (refine aw_run hc (by first | exact aw_nod | (intro _; rw [ordB_w hw]; kernel_rfl) | (intro _; rw [ordB_w0 hw0]; kernel_rfl) | (intro _; kernel_rfl)) ?_; simp [List.zipIdx, v1, v2, v3, v4, hz, hAr', hRr', pap, tkM, -getM, getM_hit, getM_miss, getM_none]; (repeat (simp (disch := first | omega | assumption | fail) only [if_pos, if_neg, wrap64]; try simp [List.zipIdx, v1, v2, v3, v4, hz, hAr', hRr', pap, tkM, -getM, getM_hit, getM_miss, getM_none])); try (repeat' (refine guardQ_split (fun h => ?_) (fun h => ?_) <;> simp at h <;> (simp [List.zipIdx, v1, v2, v3, v4, hz, hAr', hRr', pap, tkM, -getM, getM_hit, getM_miss, getM_none]; (repeat (simp (disch := first | omega | assumption | fail) only [if_pos, if_neg, wrap64]; try simp [List.zipIdx, v1, v2, v3, v4, hz, hAr', hRr', pap, tkM, -getM, getM_hit, getM_miss, getM_none])))))) | (refine aw_cond (b := _) (by exact rfl) (fun h => ?_) (fun h => ?_) <;> (try simp at h)) | (refine aw_block ?_) | (refine aw_skip ?_; simp only [thenQ, blockQ, if_true]) | (refine aw_exit ?_; simp [thenQ, blockQ]) | (refine aw_ret ?_; simp only [thenQ, blockQ]) | (refine aw_round ?_) | (refine hK _ ?_; clear hK) | (clear hK; refine hK _ ?_; clear hK) | (clear hK; clear hK; refine hK _ ?_; clear hK) | (clear hK; clear hK; clear hK; refine hK _ ?_; clear hK))
                refine ⟨i + 1, ?_, by omega, by omega⟩
                simp only [hst, hall]
                refine le_turn (s1 := ?tus14) (m1 := ?tum14) [] [0, 32, 33, 34, 3, 4] [208] ?tua14 ?tub14 ?tuc14 ?tud14 ?tue14 ?tuf14 ?tug14
                case tua14 => first | (simp [keepS]; done) | (simp [keepS]; rfl)
                case tub14 => first | (simp; done) | (simp; rfl)
                case tuc14 => simp
                case tud14 => simp
                case tue14 => simp
                case tuf14 => simp
                case tug14 =>
                  simp [swp, vr]
                  exact le_of2 (by simp) (by simp [AVle, AV.under, AV.underL] <;> omega) (by simp [AOle, AO.under, AV.underL, AV.under] <;> omega)
      · obtain rfl : i = os.length := by omega
        rw [List.take_length] at hsr
        have hcnt := set_count os
        rw [← hA] at hcnt
        have hLs : stps [] os = L := by rw [hL, List.take_length]
        rw [hLs] at hcnt
        have hLb : L.length ≤ 40 := by simp at hLl; omega
        have hC9 := F9_at L (by omega)
        rw [hsr.ok] at hC9
        have hord := (chk_zero.1 hsr.ok).2
        repeat' (first | (apply aw_seq_k; intro K hK) | (refine aw_run hc (by first | exact aw_nod | (intro _; rw [ordB_w hw]; kernel_rfl) | (intro _; rw [ordB_w0 hw0]; kernel_rfl) | (intro _; kernel_rfl)) ?_; simp [List.zipIdx, h10, hC9, -getM, getM_hit, getM_miss, getM_none]; (repeat (simp (disch := first | omega | assumption | fail) only [if_pos, if_neg, wrap64]; try simp [List.zipIdx, h10, hC9, -getM, getM_hit, getM_miss, getM_none])); try (repeat' (refine guardQ_split (fun h => ?_) (fun h => ?_) <;> simp at h <;> (simp [List.zipIdx, h10, hC9, -getM, getM_hit, getM_miss, getM_none]; (repeat (simp (disch := first | omega | assumption | fail) only [if_pos, if_neg, wrap64]; try simp [List.zipIdx, h10, hC9, -getM, getM_hit, getM_miss, getM_none])))))) | (refine aw_cond (b := _) (by exact rfl) (fun h => ?_) (fun h => ?_) <;> (try simp at h)) | (refine aw_block ?_) | (refine aw_skip ?_; simp only [thenQ, blockQ, if_true]) | (refine aw_exit ?_; simp [thenQ, blockQ]) | (refine aw_ret ?_; simp only [thenQ, blockQ]) | (refine aw_round ?_) | (refine hK _ ?_; clear hK) | (clear hK; refine hK _ ?_; clear hK) | (clear hK; clear hK; refine hK _ ?_; clear hK) | (clear hK; clear hK; clear hK; refine hK _ ?_; clear hK))
        refine aw_loopK (s0 := ?lps15) (m0 := ?lpm15) (ι := {k : Nat // k ≤ L.length}) [0, 3, 4] (fun k => [(14, I ((k.1 + 1 : Nat) : Int))]) (fun _ => []) (fun k => L.length - k.1) ⟨0, by omega⟩ ?lhs15 ?lhm15 ?_ ?_
        case lhs15 => first | (simp [keepS]; done) | (simp [keepS]; rfl)
        case lhm15 => first | rfl | (simp; done) | (simp; rfl)
        · exact le_of2 (by simp) (by simp [AVle, AV.under, AV.underL] <;> omega) (by simp [AOle, AO.under, AV.underL, AV.under] <;> omega)
        · rintro ⟨k, hk⟩
          simp only
          rcases Decidable.em (k + 1 < L.length) with hkl | hkl
          · have hklI : (k : Int) + 1 < (L.length : Int) := by omega
            have hk1 : k < L.length := by omega
            have hk1I : (k : Int) < (L.length : Int) := by omega
            have hg := prows_gi hkl
            have hgE := prows_gE hkl
            have hg1 := prows_gi hk1
            have hg1E := prows_gE hk1
            have hlt := hord k hkl
            obtain ⟨⟨x, y⟩, hm⟩ : ∃ m, m = gm L (k + 1) := ⟨_, rfl⟩
            obtain ⟨⟨u, v⟩, hm1⟩ : ∃ m, m = gm L k := ⟨_, rfl⟩
            rw [← hm] at hg hgE hlt
            rw [← hm1] at hg1 hg1E hlt
            simp only at hg hgE hg1 hg1E
            unfold ltM at hlt
            simp only at hlt
            have e1 : ((k : Int) + 1).toNat = k + 1 := by omega
            have c1 : ¬ x < u := by omega
            rcases Decidable.em (x = u) with c2 | c2
            · have c3 : ¬ y ≤ v := by omega
              subst c2
              repeat' (first | (apply aw_seq_k; intro K hK) | (refine aw_run hc (by first | exact aw_nod | (intro _; rw [ordB_w hw]; kernel_rfl) | (intro _; rw [ordB_w0 hw0]; kernel_rfl) | (intro _; kernel_rfl)) ?_; simp [List.zipIdx, hklI, hk1I, hg, hgE, hg1, hg1E, e1, c1, c3, -getM, getM_hit, getM_miss, getM_none]; (repeat (simp (disch := first | omega | assumption | fail) only [if_pos, if_neg, wrap64]; try simp [List.zipIdx, hklI, hk1I, hg, hgE, hg1, hg1E, e1, c1, c3, -getM, getM_hit, getM_miss, getM_none])); try (repeat' (refine guardQ_split (fun h => ?_) (fun h => ?_) <;> simp at h <;> (simp [List.zipIdx, hklI, hk1I, hg, hgE, hg1, hg1E, e1, c1, c3, -getM, getM_hit, getM_miss, getM_none]; (repeat (simp (disch := first | omega | assumption | fail) only [if_pos, if_neg, wrap64]; try simp [List.zipIdx, hklI, hk1I, hg, hgE, hg1, hg1E, e1, c1, c3, -getM, getM_hit, getM_miss, getM_none])))))) | (refine aw_cond (b := _) (by exact rfl) (fun h => ?_) (fun h => ?_) <;> (try simp at h)) | (refine aw_block ?_) | (refine aw_skip ?_; simp only [thenQ, blockQ, if_true]) | (refine aw_exit ?_; simp [thenQ, blockQ]) | (refine aw_ret ?_; simp only [thenQ, blockQ]) | (refine aw_round ?_) | (refine hK _ ?_; clear hK) | (clear hK; refine hK _ ?_; clear hK) | (clear hK; clear hK; refine hK _ ?_; clear hK) | (clear hK; clear hK; clear hK; refine hK _ ?_; clear hK))
              refine ⟨k + 1, ?_, by omega, by omega⟩
              exact le_of2 (by simp) (by simp [AVle, AV.under, AV.underL] <;> omega) (by simp [AOle, AO.under, AV.underL, AV.under] <;> omega)
            · repeat' (first | (apply aw_seq_k; intro K hK) | (refine aw_run hc (by first | exact aw_nod | (intro _; rw [ordB_w hw]; kernel_rfl) | (intro _; rw [ordB_w0 hw0]; kernel_rfl) | (intro _; kernel_rfl)) ?_; simp [List.zipIdx, hklI, hk1I, hg, hgE, hg1, hg1E, e1, c1, c2, -getM, getM_hit, getM_miss, getM_none]; (repeat (simp (disch := first | omega | assumption | fail) only [if_pos, if_neg, wrap64]; try simp [List.zipIdx, hklI, hk1I, hg, hgE, hg1, hg1E, e1, c1, c2, -getM, getM_hit, getM_miss, getM_none])); try (repeat' (refine guardQ_split (fun h => ?_) (fun h => ?_) <;> simp at h <;> (simp [List.zipIdx, hklI, hk1I, hg, hgE, hg1, hg1E, e1, c1, c2, -getM, getM_hit, getM_miss, getM_none]; (repeat (simp (disch := first | omega | assumption | fail) only [if_pos, if_neg, wrap64]; try simp [List.zipIdx, hklI, hk1I, hg, hgE, hg1, hg1E, e1, c1, c2, -getM, getM_hit, getM_miss, getM_none])))))) | (refine aw_cond (b := _) (by exact rfl) (fun h => ?_) (fun h => ?_) <;> (try simp at h)) | (refine aw_block ?_) | (refine aw_skip ?_; simp only [thenQ, blockQ, if_true]) | (refine aw_exit ?_; simp [thenQ, blockQ]) | (refine aw_ret ?_; simp only [thenQ, blockQ]) | (refine aw_round ?_) | (refine hK _ ?_; clear hK) | (clear hK; refine hK _ ?_; clear hK) | (clear hK; clear hK; refine hK _ ?_; clear hK) | (clear hK; clear hK; clear hK; refine hK _ ?_; clear hK))
              refine ⟨k + 1, ?_, by omega, by omega⟩
              exact le_of2 (by simp) (by simp [AVle, AV.under, AV.underL] <;> omega) (by simp [AOle, AO.under, AV.underL, AV.under] <;> omega)
          · have hklI : ¬ (k : Int) + 1 < (L.length : Int) := by omega
            repeat' (first | (apply aw_seq_k; intro K hK) | (refine aw_run hc (by first | exact aw_nod | (intro _; rw [ordB_w hw]; kernel_rfl) | (intro _; rw [ordB_w0 hw0]; kernel_rfl) | (intro _; kernel_rfl)) ?_; simp [List.zipIdx, hklI, -getM, getM_hit, getM_miss, getM_none]; (repeat (simp (disch := first | omega | assumption | fail) only [if_pos, if_neg, wrap64]; try simp [List.zipIdx, hklI, -getM, getM_hit, getM_miss, getM_none])); try (repeat' (refine guardQ_split (fun h => ?_) (fun h => ?_) <;> simp at h <;> (simp [List.zipIdx, hklI, -getM, getM_hit, getM_miss, getM_none]; (repeat (simp (disch := first | omega | assumption | fail) only [if_pos, if_neg, wrap64]; try simp [List.zipIdx, hklI, -getM, getM_hit, getM_miss, getM_none])))))) | (refine aw_cond (b := _) (by exact rfl) (fun h => ?_) (fun h => ?_) <;> (try simp at h)) | (refine aw_block ?_) | (refine aw_skip ?_; simp only [thenQ, blockQ, if_true]) | (refine aw_exit ?_; simp [thenQ, blockQ]) | (refine aw_ret ?_; simp only [thenQ, blockQ]) | (refine aw_round ?_) | (refine hK _ ?_; clear hK) | (clear hK; refine hK _ ?_; clear hK) | (clear hK; clear hK; refine hK _ ?_; clear hK) | (clear hK; clear hK; clear hK; refine hK _ ?_; clear hK))
            refine aw_loopK (s0 := ?lps16) (m0 := ?lpm16) (ι := {i : Nat // i ≤ A.length}) [0, 3, 4, 166, 167] (fun i => [(168, I i.1), (15, I (lastN A (inL os) i.1))]) (fun _ => []) (fun i => A.length - i.1) ⟨0, by omega⟩ ?lhs16 ?lhm16 ?_ ?_
            case lhs16 => first | (simp [keepS]; done) | (simp [keepS]; rfl)
            case lhm16 => first | rfl | (simp; done) | (simp; rfl)
            · simp only [lastN]
              exact le_of2 (by simp) (by simp [AVle, AV.under, AV.underL] <;> omega) (by simp [AOle, AO.under, AV.underL, AV.under] <;> omega)
            · rintro ⟨i, hi⟩
              simp only
              have hNb := lastN_le A (inL os) i
              rcases Decidable.em (i < A.length) with hil | hil
              · have hilI : (i : Int) < (A.length : Int) := by omega
                have hi1I : (i : Int) + 1 ≤ (A.length : Int) := by omega
                have e1 : ((i : Int) + 1).toNat = i + 1 := by omega
                have hg := prows_gi hil
                have hgE := prows_gE hil
                have hval := allA_val os os.length (gm A i) (by rw [← hA]; exact gm_mem hil)
                have hls : lastN A (inL os) (i + 1) = lastN A (inL os) i + if gm A i ∉ A.drop (i + 1) ∧ inL os (gm A i) = true then 1 else 0 := rfl
                obtain ⟨N, hN⟩ : ∃ N, N = lastN A (inL os) i := ⟨_, rfl⟩
                rw [← hN] at hls hNb ⊢
                obtain ⟨⟨x, y⟩, hm⟩ : ∃ m, m = gm A i := ⟨_, rfl⟩
                rw [← hm] at hg hgE hls hval
                simp only at hg hgE
                repeat' (first | (apply aw_seq_k; intro K hK) | (refine aw_run hc (by first | exact aw_nod | (intro _; rw [ordB_w hw]; kernel_rfl) | (intro _; rw [ordB_w0 hw0]; kernel_rfl) | (intro _; kernel_rfl)) ?_; simp [List.zipIdx, hilI, hg, hgE, hi1I, e1, -getM, getM_hit, getM_miss, getM_none]; (repeat (simp (disch := first | omega | assumption | fail) only [if_pos, if_neg, wrap64]; try simp [List.zipIdx, hilI, hg, hgE, hi1I, e1, -getM, getM_hit, getM_miss, getM_none])); try (repeat' (refine guardQ_split (fun h => ?_) (fun h => ?_) <;> simp at h <;> (simp [List.zipIdx, hilI, hg, hgE, hi1I, e1, -getM, getM_hit, getM_miss, getM_none]; (repeat (simp (disch := first | omega | assumption | fail) only [if_pos, if_neg, wrap64]; try simp [List.zipIdx, hilI, hg, hgE, hi1I, e1, -getM, getM_hit, getM_miss, getM_none])))))) | (refine aw_cond (b := _) (by exact rfl) (fun h => ?_) (fun h => ?_) <;> (try simp at h)) | (refine aw_block ?_) | (refine aw_skip ?_; simp only [thenQ, blockQ, if_true]) | (refine aw_exit ?_; simp [thenQ, blockQ]) | (refine aw_ret ?_; simp only [thenQ, blockQ]) | (refine aw_round ?_) | (refine hK _ ?_; clear hK) | (clear hK; refine hK _ ?_; clear hK) | (clear hK; clear hK; refine hK _ ?_; clear hK) | (clear hK; clear hK; clear hK; refine hK _ ?_; clear hK))
                obtain ⟨w, hw2⟩ : ∃ w, w = A.length - (i + 1) := ⟨_, rfl⟩
                rw [← hw2]
                obtain ⟨D, hD⟩ : ∃ D, D = A.drop (i + 1) := ⟨_, rfl⟩
                have hDl : D.length = w := by rw [hD, List.length_drop, hw2]
                rw [← hD] at hls
                refine aw_loopK (s0 := ?lps17) (m0 := ?lpm17) (ι := {j : Nat // j ≤ w}) [0, 3, 4, 15, 17, 166, 167, 168, 176, 177] (fun j => [(178, I j.1), (18, B (!decide ((x, y) ∈ D.take j.1)))]) (fun _ => []) (fun j => w - j.1) ⟨0, by omega⟩ ?lhs17 ?lhm17 ?_ ?_
                case lhs17 => first | (simp [keepS]; done) | (simp [keepS]; rfl)
                case lhm17 => first | rfl | (simp; done) | (simp; rfl)
                · simp only [List.take_zero, List.not_mem_nil, decide_false, Bool.not_false]
                  exact le_of2 (by simp) (by simp [AVle, AV.under, AV.underL] <;> omega) (by simp [AOle, AO.under, AV.underL, AV.under] <;> omega)
                · rintro ⟨j, hj⟩
                  simp only
                  obtain ⟨p, hp⟩ : ∃ p, p = !decide ((x, y) ∈ D.take j) := ⟨_, rfl⟩
                  rw [← hp]
                  rcases Decidable.em (j < w) with hjw | hjw
                  · have hjI : (j : Int) < (w : Int) := by omega
                    have hja : i + 1 + j < A.length := by omega
                    have hgj := prows_gi hja
                    have hgjE := prows_gE hja
                    have hgm : gm D j = gm A (i + 1 + j) := by
                      rw [gm_eq (by omega), gm_eq hja]
                      simp only [hD, List.getElem_drop]
                    have hts := take_succ_gm (l := D) (n := j) (by omega)
                    rw [hgm] at hts
                    obtain ⟨⟨u, v⟩, hm1⟩ : ∃ m, m = gm A (i + 1 + j) := ⟨_, rfl⟩
                    rw [← hm1] at hgj hgjE hts
                    simp only at hgj hgjE
                    have hnew : (!decide ((x, y) ∈ D.take (j + 1))) = (p && !decide ((x, y) = (u, v))) := by
                      rw [hts, hp]
                      by_cases h1 : (x, y) ∈ D.take j <;> by_cases h2 : (x, y) = (u, v) <;> simp [h1, h2]
                    cases p with
                    | false =>
                      simp only [Bool.false_and] at hnew
                      repeat' (first | (apply aw_seq_k; intro K hK) | (refine aw_run hc (by first | exact aw_nod | (intro _; rw [ordB_w hw]; kernel_rfl) | (intro _; rw [ordB_w0 hw0]; kernel_rfl) | (intro _; kernel_rfl)) ?_; simp [List.zipIdx, hjI, hjw, hgj, hgjE, -getM, getM_hit, getM_miss, getM_none]; (repeat (simp (disch := first | omega | assumption | fail) only [if_pos, if_neg, wrap64]; try simp [List.zipIdx, hjI, hjw, hgj, hgjE, -getM, getM_hit, getM_miss, getM_none])); try (repeat' (refine guardQ_split (fun h => ?_) (fun h => ?_) <;> simp at h <;> (simp [List.zipIdx, hjI, hjw, hgj, hgjE, -getM, getM_hit, getM_miss, getM_none]; (repeat (simp (disch := first | omega | assumption | fail) only [if_pos, if_neg, wrap64]; try simp [List.zipIdx, hjI, hjw, hgj, hgjE, -getM, getM_hit, getM_miss, getM_none])))))) | (refine aw_cond (b := _) (by exact rfl) (fun h => ?_) (fun h => ?_) <;> (try simp at h)) | (refine aw_block ?_) | (refine aw_skip ?_; simp only [thenQ, blockQ, if_true]) | (refine aw_exit ?_; simp [thenQ, blockQ]) | (refine aw_ret ?_; simp only [thenQ, blockQ]) | (refine aw_round ?_) | (refine hK _ ?_; clear hK) | (clear hK; refine hK _ ?_; clear hK) | (clear hK; clear hK; refine hK _ ?_; clear hK) | (clear hK; clear hK; clear hK; refine hK _ ?_; clear hK))
                      first | refine ⟨j + 1, ⟨by omega, ?_⟩, by omega⟩ | refine ⟨j + 1, ?_, by omega, by omega⟩
                      simp only [hnew]
                      exact le_of2 (by simp) (by simp [AVle, AV.under, AV.underL] <;> omega) (by simp [AOle, AO.under, AV.underL, AV.under] <;> omega)
                    | true =>
                      simp only [Bool.true_and] at hnew
                      rcases Decidable.em (u = x ∧ v = y) with hv | hv
                      · have hnew2 : (!decide ((x, y) ∈ D.take (j + 1))) = false := by rw [hnew]; simp [hv.1, hv.2]
                        obtain ⟨rfl, rfl⟩ := hv
                        repeat' (first | (apply aw_seq_k; intro K hK) | (refine aw_run hc (by first | exact aw_nod | (intro _; rw [ordB_w hw]; kernel_rfl) | (intro _; rw [ordB_w0 hw0]; kernel_rfl) | (intro _; kernel_rfl)) ?_; simp [List.zipIdx, hjI, hjw, hgj, hgjE, he, eqL, -getM, getM_hit, getM_miss, getM_none]; (repeat (simp (disch := first | omega | assumption | fail) only [if_pos, if_neg, wrap64]; try simp [List.zipIdx, hjI, hjw, hgj, hgjE, he, eqL, -getM, getM_hit, getM_miss, getM_none])); try (repeat' (refine guardQ_split (fun h => ?_) (fun h => ?_) <;> simp at h <;> (simp [List.zipIdx, hjI, hjw, hgj, hgjE, he, eqL, -getM, getM_hit, getM_miss, getM_none]; (repeat (simp (disch := first | omega | assumption | fail) only [if_pos, if_neg, wrap64]; try simp [List.zipIdx, hjI, hjw, hgj, hgjE, he, eqL, -getM, getM_hit, getM_miss, getM_none])))))) | (refine aw_cond (b := _) (by exact rfl) (fun h => ?_) (fun h => ?_) <;> (try simp at h)) | (refine aw_block ?_) | (refine aw_skip ?_; simp only [thenQ, blockQ, if_true]) | (refine aw_exit ?_; simp [thenQ, blockQ]) | (refine aw_ret ?_; simp only [thenQ, blockQ]) | (refine aw_round ?_) | (refine hK _ ?_; clear hK) | (clear hK; refine hK _ ?_; clear hK) | (clear hK; clear hK; refine hK _ ?_; clear hK) | (clear hK; clear hK; clear hK; refine hK _ ?_; clear hK))
                        first | refine ⟨j + 1, ⟨by omega, ?_⟩, by omega⟩ | refine ⟨j + 1, ?_, by omega, by omega⟩
                        simp only [hnew2]
                        exact le_of2 (by simp) (by simp [AVle, AV.under, AV.underL] <;> omega) (by simp [AOle, AO.under, AV.underL, AV.under] <;> omega)
                      · have hv' : (decide (u = x) && decide (v = y)) = false := by simpa using hv
                        have hnew2 : (!decide ((x, y) ∈ D.take (j + 1))) = true := by
                          rw [hnew]
                          simp only [Prod.mk.injEq, Bool.not_eq_true', decide_eq_false_iff_not]
                          exact fun h => hv ⟨h.1.symm, h.2.symm⟩
                        repeat' (first | (apply aw_seq_k; intro K hK) | (refine aw_run hc (by first | exact aw_nod | (intro _; rw [ordB_w hw]; kernel_rfl) | (intro _; rw [ordB_w0 hw0]; kernel_rfl) | (intro _; kernel_rfl)) ?_; simp [List.zipIdx, hjI, hjw, hgj, hgjE, he, eqL, hv', -getM, getM_hit, getM_miss, getM_none]; (repeat (simp (disch := first | omega | assumption | fail) only [if_pos, if_neg, wrap64]; try simp [List.zipIdx, hjI, hjw, hgj, hgjE, he, eqL, hv', -getM, getM_hit, getM_miss, getM_none])); try (repeat' (refine guardQ_split (fun h => ?_) (fun h => ?_) <;> simp at h <;> (simp [List.zipIdx, hjI, hjw, hgj, hgjE, he, eqL, hv', -getM, getM_hit, getM_miss, getM_none]; (repeat (simp (disch := first | omega | assumption | fail) only [if_pos, if_neg, wrap64]; try simp [List.zipIdx, hjI, hjw, hgj, hgjE, he, eqL, hv', -getM, getM_hit, getM_miss, getM_none])))))) | (refine aw_cond (b := _) (by exact rfl) (fun h => ?_) (fun h => ?_) <;> (try simp at h)) | (refine aw_block ?_) | (refine aw_skip ?_; simp only [thenQ, blockQ, if_true]) | (refine aw_exit ?_; simp [thenQ, blockQ]) | (refine aw_ret ?_; simp only [thenQ, blockQ]) | (refine aw_round ?_) | (refine hK _ ?_; clear hK) | (clear hK; refine hK _ ?_; clear hK) | (clear hK; clear hK; refine hK _ ?_; clear hK) | (clear hK; clear hK; clear hK; refine hK _ ?_; clear hK))
                        first | refine ⟨j + 1, ⟨by omega, ?_⟩, by omega⟩ | refine ⟨j + 1, ?_, by omega, by omega⟩
                        simp only [hnew2]
                        exact le_of2 (by simp) (by simp [AVle, AV.under, AV.underL] <;> omega) (by simp [AOle, AO.under, AV.underL, AV.under] <;> omega)
                  · obtain rfl : w = j := by omega
                    rw [← hDl, List.take_length] at hp
                    repeat' (first | (apply aw_seq_k; intro K hK) | (refine aw_run hc (by first | exact aw_nod | (intro _; rw [ordB_w hw]; kernel_rfl) | (intro _; rw [ordB_w0 hw0]; kernel_rfl) | (intro _; kernel_rfl)) ?_; simp [List.zipIdx, -getM, getM_hit, getM_miss, getM_none]; (repeat (simp (disch := first | omega | assumption | fail) only [if_pos, if_neg, wrap64]; try simp [List.zipIdx, -getM, getM_hit, getM_miss, getM_none])); try (repeat' (refine guardQ_split (fun h => ?_) (fun h => ?_) <;> simp at h <;> (simp [List.zipIdx, -getM, getM_hit, getM_miss, getM_none]; (repeat (simp (disch := first | omega | assumption | fail) only [if_pos, if_neg, wrap64]; try simp [List.zipIdx, -getM, getM_hit, getM_miss, getM_none])))))) | (refine aw_cond (b := _) (by exact rfl) (fun h => ?_) (fun h => ?_) <;> (try simp at h)) | (refine aw_block ?_) | (refine aw_skip ?_; simp only [thenQ, blockQ, if_true]) | (refine aw_exit ?_; simp [thenQ, blockQ]) | (refine aw_ret ?_; simp only [thenQ, blockQ]) | (refine aw_round ?_) | (refine hK _ ?_; clear hK) | (clear hK; refine hK _ ?_; clear hK) | (clear hK; clear hK; refine hK _ ?_; clear hK) | (clear hK; clear hK; clear hK; refine hK _ ?_; clear hK))
                    refine aw_loopK (s0 := ?lps18) (m0 := ?lpm18) (ι := {n : Nat // n ≤ os.length}) [0, 3, 4, 15, 17, 18, 166, 167, 168, 189, 190] (fun n => [(191, I n.1), (21, B (inL (os.take n.1) (x, y)))]) (fun _ => []) (fun n => os.length - n.1) ⟨0, by omega⟩ ?lhs18 ?lhm18 ?_ ?_
                    case lhs18 => first | (simp [keepS]; done) | (simp [keepS]; rfl)
                    case lhm18 => first | rfl | (simp; done) | (simp; rfl)
                    · simp only [List.take_zero, inL, List.foldl_nil]
                      exact le_of2 (by simp) (by simp [AVle, AV.under, AV.underL] <;> omega) (by simp [AOle, AO.under, AV.underL, AV.under] <;> omega)
                    · rintro ⟨n, hn⟩
                      simp only
                      rcases Decidable.em (n < os.length) with hnl | hnl
                      · have hnI : (n : Int) < (os.length : Int) := by omega
                        have hgn := orows_gi hnl
                        have hgnE := orows_gE hnl
                        have hnx := inL_next hnl (x, y)
                        obtain ⟨⟨r', a', b'⟩, hm'⟩ : ∃ m, m = go os n := ⟨_, rfl⟩
                        rw [← hm'] at hgn hgnE hnx
                        simp only at hgn hgnE hnx
                        rcases Decidable.em (a' = x ∧ b' = y) with hv | hv
                        · rw [if_pos (by rw [hv.1, hv.2])] at hnx
                          obtain ⟨rfl, rfl⟩ := hv
                          repeat' (first | (apply aw_seq_k; intro K hK) | (refine aw_run hc (by first | exact aw_nod | (intro _; rw [ordB_w hw]; kernel_rfl) | (intro _; rw [ordB_w0 hw0]; kernel_rfl) | (intro _; kernel_rfl)) ?_; simp [List.zipIdx, hnI, hgn, hgnE, he, eqL, -getM, getM_hit, getM_miss, getM_none]; (repeat (simp (disch := first | omega | assumption | fail) only [if_pos, if_neg, wrap64]; try simp [List.zipIdx, hnI, hgn, hgnE, he, eqL, -getM, getM_hit, getM_miss, getM_none])); try (repeat' (refine guardQ_split (fun h => ?_) (fun h => ?_) <;> simp at h <;> (simp [List.zipIdx, hnI, hgn, hgnE, he, eqL, -getM, getM_hit, getM_miss, getM_none]; (repeat (simp (disch := first | omega | assumption | fail) only [if_pos, if_neg, wrap64]; try simp [List.zipIdx, hnI, hgn, hgnE, he, eqL, -getM, getM_hit, getM_miss, getM_none])))))) | (refine aw_cond (b := _) (by exact rfl) (fun h => ?_) (fun h => ?_) <;> (try simp at h)) | (refine aw_block ?_) | (refine aw_skip ?_; simp only [thenQ, blockQ, if_true]) | (refine aw_exit ?_; simp [thenQ, blockQ]) | (refine aw_ret ?_; simp only [thenQ, blockQ]) | (refine aw_round ?_) | (refine hK _ ?_; clear hK) | (clear hK; refine hK _ ?_; clear hK) | (clear hK; clear hK; refine hK _ ?_; clear hK) | (clear hK; clear hK; clear hK; refine hK _ ?_; clear hK))
                          refine ⟨n + 1, ?_, by omega, by omega⟩
                          simp only [hnx]
                          exact le_of2 (by simp) (by simp [AVle, AV.under, AV.underL] <;> omega) (by simp [AOle, AO.under, AV.underL, AV.under] <;> omega)
                        · have hv' : (decide (a' = x) && decide (b' = y)) = false := by simpa using hv
                          rw [if_neg (by simpa using hv)] at hnx
                          repeat' (first | (apply aw_seq_k; intro K hK) | (refine aw_run hc (by first | exact aw_nod | (intro _; rw [ordB_w hw]; kernel_rfl) | (intro _; rw [ordB_w0 hw0]; kernel_rfl) | (intro _; kernel_rfl)) ?_; simp [List.zipIdx, hnI, hgn, hgnE, he, eqL, hv', -getM, getM_hit, getM_miss, getM_none]; (repeat (simp (disch := first | omega | assumption | fail) only [if_pos, if_neg, wrap64]; try simp [List.zipIdx, hnI, hgn, hgnE, he, eqL, hv', -getM, getM_hit, getM_miss, getM_none])); try (repeat' (refine guardQ_split (fun h => ?_) (fun h => ?_) <;> simp at h <;> (simp [List.zipIdx, hnI, hgn, hgnE, he, eqL, hv', -getM, getM_hit, getM_miss, getM_none]; (repeat (simp (disch := first | omega | assumption | fail) only [if_pos, if_neg, wrap64]; try simp [List.zipIdx, hnI, hgn, hgnE, he, eqL, hv', -getM, getM_hit, getM_miss, getM_none])))))) | (refine aw_cond (b := _) (by exact rfl) (fun h => ?_) (fun h => ?_) <;> (try simp at h)) | (refine aw_block ?_) | (refine aw_skip ?_; simp only [thenQ, blockQ, if_true]) | (refine aw_exit ?_; simp [thenQ, blockQ]) | (refine aw_ret ?_; simp only [thenQ, blockQ]) | (refine aw_round ?_) | (refine hK _ ?_; clear hK) | (clear hK; refine hK _ ?_; clear hK) | (clear hK; clear hK; refine hK _ ?_; clear hK) | (clear hK; clear hK; clear hK; refine hK _ ?_; clear hK))
                          refine ⟨n + 1, ?_, by omega, by omega⟩
                          simp only [hnx]
                          exact le_of2 (by simp) (by simp [AVle, AV.under, AV.underL] <;> omega) (by simp [AOle, AO.under, AV.underL, AV.under] <;> omega)
                      · obtain rfl : n = os.length := by omega
                        have hH := F12_at L x y (by omega)
                        have hmL := hsr.mem (x, y)
                        rw [List.take_length]
                        obtain ⟨q, hq⟩ : ∃ q, q = inL os (x, y) := ⟨_, rfl⟩
                        rw [← hq] at hmL hls ⊢
                        have hdec : decide (chk L = 0 ∧ (x, y) ∈ L) = q := by
                          cases q with
                          | true => exact decide_eq_true ⟨hsr.ok, hmL.2 ⟨hval, rfl⟩⟩
                          | false => exact decide_eq_false fun h => by have := (hmL.1 h.2).2; simp at this
                        rw [hdec] at hH
                        have hN40 : N ≤ 40 := by omega
                        have hls2 : lastN A (inL os) (i + 1) = N + if p = true ∧ q = true then 1 else 0 := by
                          rw [hls, hp]; simp
                        cases p with
                        | false =>
                          simp only [Bool.false_eq_true, false_and, if_false, Nat.add_zero] at hls2
                          cases q with
                          | false =>
                            repeat' (first | (apply aw_seq_k; intro K hK) | (refine aw_run hc (by first | exact aw_nod | (intro _; rw [ordB_w hw]; kernel_rfl) | (intro _; rw [ordB_w0 hw0]; kernel_rfl) | (intro _; kernel_rfl)) ?_; simp [List.zipIdx, h11, hH, -getM, getM_hit, getM_miss, getM_none]; (repeat (simp (disch := first | omega | assumption | fail) only [if_pos, if_neg, wrap64]; try simp [List.zipIdx, h11, hH, -getM, getM_hit, getM_miss, getM_none])); try (repeat' (refine guardQ_split (fun h => ?_) (fun h => ?_) <;> simp at h <;> (simp [List.zipIdx, h11, hH, -getM, getM_hit, getM_miss, getM_none]; (repeat (simp (disch := first | omega | assumption | fail) only [if_pos, if_neg, wrap64]; try simp [List.zipIdx, h11, hH, -getM, getM_hit, getM_miss, getM_none])))))) | (refine aw_cond (b := _) (by exact rfl) (fun h => ?_) (fun h => ?_) <;> (try simp at h)) | (refine aw_block ?_) | (refine aw_skip ?_; simp only [thenQ, blockQ, if_true]) | (refine aw_exit ?_; simp [thenQ, blockQ]) | (refine aw_ret ?_; simp only [thenQ, blockQ]) | (refine aw_round ?_) | (refine hK _ ?_; clear hK) | (clear hK; refine hK _ ?_; clear hK) | (clear hK; clear hK; refine hK _ ?_; clear hK) | (clear hK; clear hK; clear hK; refine hK _ ?_; clear hK))
                            refine ⟨i + 1, ?_, by omega, by omega⟩
                            simp only [hls2]
                            exact le_of2 (by simp) (by simp [AVle, AV.under, AV.underL] <;> omega) (by simp [AOle, AO.under, AV.underL, AV.under] <;> omega)
                          | true =>
                            repeat' (first | (apply aw_seq_k; intro K hK) | (refine aw_run hc (by first | exact aw_nod | (intro _; rw [ordB_w hw]; kernel_rfl) | (intro _; rw [ordB_w0 hw0]; kernel_rfl) | (intro _; kernel_rfl)) ?_; simp [List.zipIdx, h11, hH, -getM, getM_hit, getM_miss, getM_none]; (repeat (simp (disch := first | omega | assumption | fail) only [if_pos, if_neg, wrap64]; try simp [List.zipIdx, h11, hH, -getM, getM_hit, getM_miss, getM_none])); try (repeat' (refine guardQ_split (fun h => ?_) (fun h => ?_) <;> simp at h <;> (simp [List.zipIdx, h11, hH, -getM, getM_hit, getM_miss, getM_none]; (repeat (simp (disch := first | omega | assumption | fail) only [if_pos, if_neg, wrap64]; try simp [List.zipIdx, h11, hH, -getM, getM_hit, getM_miss, getM_none])))))) | (refine aw_cond (b := _) (by exact rfl) (fun h => ?_) (fun h => ?_) <;> (try simp at h)) | (refine aw_block ?_) | (refine aw_skip ?_; simp only [thenQ, blockQ, if_true]) | (refine aw_exit ?_; simp [thenQ, blockQ]) | (refine aw_ret ?_; simp only [thenQ, blockQ]) | (refine aw_round ?_) | (refine hK _ ?_; clear hK) | (clear hK; refine hK _ ?_; clear hK) | (clear hK; clear hK; refine hK _ ?_; clear hK) | (clear hK; clear hK; clear hK; refine hK _ ?_; clear hK))
                            refine ⟨i + 1, ?_, by omega, by omega⟩
                            simp only [hls2]
                            exact le_of2 (by simp) (by simp [AVle, AV.under, AV.underL] <;> omega) (by simp [AOle, AO.under, AV.underL, AV.under] <;> omega)
                        | true =>
                          cases q with
                          | false =>
                            simp only [Bool.false_eq_true, and_false, if_false, Nat.add_zero] at hls2
                            repeat' (first | (apply aw_seq_k; intro K hK) | (refine aw_run hc (by first | exact aw_nod | (intro _; rw [ordB_w hw]; kernel_rfl) | (intro _; rw [ordB_w0 hw0]; kernel_rfl) | (intro _; kernel_rfl)) ?_; simp [List.zipIdx, h11, hH, -getM, getM_hit, getM_miss, getM_none]; (repeat (simp (disch := first | omega | assumption | fail) only [if_pos, if_neg, wrap64]; try simp [List.zipIdx, h11, hH, -getM, getM_hit, getM_miss, getM_none])); try (repeat' (refine guardQ_split (fun h => ?_) (fun h => ?_) <;> simp at h <;> (simp [List.zipIdx, h11, hH, -getM, getM_hit, getM_miss, getM_none]; (repeat (simp (disch := first | omega | assumption | fail) only [if_pos, if_neg, wrap64]; try simp [List.zipIdx, h11, hH, -getM, getM_hit, getM_miss, getM_none])))))) | (refine aw_cond (b := _) (by exact rfl) (fun h => ?_) (fun h => ?_) <;> (try simp at h)) | (refine aw_block ?_) | (refine aw_skip ?_; simp only [thenQ, blockQ, if_true]) | (refine aw_exit ?_; simp [thenQ, blockQ]) | (refine aw_ret ?_; simp only [thenQ, blockQ]) | (refine aw_round ?_) | (refine hK _ ?_; clear hK) | (clear hK; refine hK _ ?_; clear hK) | (clear hK; clear hK; refine hK _ ?_; clear hK) | (clear hK; clear hK; clear hK; refine hK _ ?_; clear hK))
                            refine ⟨i + 1, ?_, by omega, by omega⟩
                            simp only [hls2]
                            exact le_of2 (by simp) (by simp [AVle, AV.under, AV.underL] <;> omega) (by simp [AOle, AO.under, AV.underL, AV.under] <;> omega)
                          | true =>
                            simp only [and_self, if_true] at hls2
                            repeat' (first | (apply aw_seq_k; intro K hK) | (refine aw_run hc (by first | exact aw_nod | (intro _; rw [ordB_w hw]; kernel_rfl) | (intro _; rw [ordB_w0 hw0]; kernel_rfl) | (intro _; kernel_rfl)) ?_; simp [List.zipIdx, h11, hH, -getM, getM_hit, getM_miss, getM_none]; (repeat (simp (disch := first | omega | assumption | fail) only [if_pos, if_neg, wrap64]; try simp [List.zipIdx, h11, hH, -getM, getM_hit, getM_miss, getM_none])); try (repeat' (refine guardQ_split (fun h => ?_) (fun h => ?_) <;> simp at h <;> (simp [List.zipIdx, h11, hH, -getM, getM_hit, getM_miss, getM_none]; (repeat (simp (disch := first | omega | assumption | fail) only [if_pos, if_neg, wrap64]; try simp [List.zipIdx, h11, hH, -getM, getM_hit, getM_miss, getM_none])))))) | (refine aw_cond (b := _) (by exact rfl) (fun h => ?_) (fun h => ?_) <;> (try simp at h)) | (refine aw_block ?_) | (refine aw_skip ?_; simp only [thenQ, blockQ, if_true]) | (refine aw_exit ?_; simp [thenQ, blockQ]) | (refine aw_ret ?_; simp only [thenQ, blockQ]) | (refine aw_round ?_) | (refine hK _ ?_; clear hK) | (clear hK; refine hK _ ?_; clear hK) | (clear hK; clear hK; refine hK _ ?_; clear hK) | (clear hK; clear hK; clear hK; refine hK _ ?_; clear hK))
                            refine ⟨i + 1, ?_, by omega, by omega⟩
                            simp only [hls2]
                            exact le_of2 (by simp) (by simp [AVle, AV.under, AV.underL] <;> omega) (by simp [AOle, AO.under, AV.underL, AV.under] <;> omega)
              · obtain rfl : i = A.length := by omega
                rw [hcnt]
                repeat' (first | (apply aw_seq_k; intro K hK) | (refine aw_run hc (by first | exact aw_nod | (intro _; rw [ordB_w hw]; kernel_rfl) | (intro _; rw [ordB_w0 hw0]; kernel_rfl) | (intro _; kernel_rfl)) ?_; simp [List.zipIdx, -getM, getM_hit, getM_miss, getM_none]; (repeat (simp (disch := first | omega | assumption | fail) only [if_pos, if_neg, wrap64]; try simp [List.zipIdx, -getM, getM_hit, getM_miss, getM_none])); try (repeat' (refine guardQ_split (fun h => ?_) (fun h => ?_) <;> simp at h <;> (simp [List.zipIdx, -getM, getM_hit, getM_miss, getM_none]; (repeat (simp (disch := first | omega | assumption | fail) only [if_pos, if_neg, wrap64]; try simp [List.zipIdx, -getM, getM_hit, getM_miss, getM_none])))))) | (refine aw_cond (b := _) (by exact rfl) (fun h => ?_) (fun h => ?_) <;> (try simp at h)) | (refine aw_block ?_) | (refine aw_skip ?_; simp only [thenQ, blockQ, if_true]) | (refine aw_exit ?_; simp [thenQ, blockQ]) | (refine aw_ret ?_; simp only [thenQ, blockQ]) | (refine aw_round ?_) | (refine hK _ ?_; clear hK) | (clear hK; refine hK _ ?_; clear hK) | (clear hK; clear hK; refine hK _ ?_; clear hK) | (clear hK; clear hK; clear hK; refine hK _ ?_; clear hK))
                refine ⟨by simp, ?_⟩
                simp [leaves_iff, Try.f7]
                try (first | omega | (refine decide_eq_decide.2 ?_; omega) | (refine decide_eq_false ?_; omega) | (refine decide_eq_true ?_; omega))
end Go.AM
