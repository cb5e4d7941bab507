/- Workingset: the reference's cache with two lists. -/
import Derived.Test.YtpkbbmimfoakcaaWs8
set_option linter.all false

namespace Go.AM
open Go Go.Proofs

set_option maxHeartbeats 2000000 in
theorem s20 (X : AX) (hX : XOK Try.prog X) (hw : X.W wT) (h27 : ∀ l s M n, X.call 27 [.rd 1 (irows l), I s] M n = some (I (errS l.length s), [])) (h28 : X.call 28 = callP F28) (h29 : X.call 29 = callP F29)
    (h15 : ∀ a b M n, X.call 15 [I a, I b] M n = some (B (decide (0 ≤ a ∧ a ≤ b)), [])) (h36 : X.call 36 = callP F36) (h37 : X.call 37 = callM false one1 F37) (h38 : X.call 38 = callM false one1 F38) :
    PSound Try.prog 20 (specF (ι := List Int × Int × Int) (fun x => [.rd 1 (irows x.1), I x.2.1, I x.2.2]) fun x => retOf [.ow 1 (irows (lisR x.1 x.2.1 x.2.2).1), I (lisR x.1 x.2.1 x.2.2).2]) := by
  refine psound_spec hX mixed Try.func20 rfl fun ⟨l, size, b⟩ w0 G => ⟨by show 3 ≤ 97; decide, rfl, ?_⟩
  show AW ⟨Try.prog, X, 97, w0, .pure G⟩ _ _ _
  have hc : Cx.OK ⟨Try.prog, X, 97, w0, .pure G⟩ := ⟨hX, mixed⟩
  simp only
  unfold lisR
  rcases Decidable.em (errS l.length size = 0) with h | h
  · obtain ⟨hl, hs1, hs2⟩ := errS_zero.1 h
    rcases Decidable.em (b < 0) with hb1 | hb1
    · have hE : lisE l.length size b = 2 := by unfold lisE; rw [if_pos h, if_pos (.inl hb1)]
      rw [hE, if_neg (by decide)]
      repeat' (first | (apply aw_seq_k; intro K hK) | (refine aw_run hc (by first | exact aw_nod | (intro _; rw [ordB_w hw]; kernel_rfl) | (intro _; rw [ordB_w0 hw0]; kernel_rfl) | (intro _; kernel_rfl)) ?_; simp [List.zipIdx, h27, h, hb1, -getM, getM_hit, getM_miss, getM_none]; (repeat (simp (disch := first | omega | assumption | fail) only [if_pos, if_neg, wrap64]; try simp [List.zipIdx, h27, h, hb1, -getM, getM_hit, getM_miss, getM_none])); try (repeat' (refine guardQ_split (fun h => ?_) (fun h => ?_) <;> simp at h <;> (simp [List.zipIdx, h27, h, hb1, -getM, getM_hit, getM_miss, getM_none]; (repeat (simp (disch := first | omega | assumption | fail) only [if_pos, if_neg, wrap64]; try simp [List.zipIdx, h27, h, hb1, -getM, getM_hit, getM_miss, getM_none])))))) | (refine aw_cond (b := _) (by exact rfl) (fun h => ?_) (fun h => ?_) <;> (try simp at h)) | (refine aw_block ?_) | (refine aw_skip ?_; simp only [thenQ, blockQ, if_true]) | (refine aw_exit ?_; simp [thenQ, blockQ]) | (refine aw_ret ?_; simp only [thenQ, blockQ]) | (refine aw_round ?_) | (refine hK _ ?_; clear hK) | (clear hK; refine hK _ ?_; clear hK) | (clear hK; clear hK; refine hK _ ?_; clear hK) | (clear hK; clear hK; clear hK; refine hK _ ?_; clear hK))
      refine ⟨by simp, ?_⟩
      simp [leaves_iff, Try.f20]
      try (first | omega | (refine decide_eq_decide.2 ?_; omega) | (refine decide_eq_false ?_; omega) | (refine decide_eq_true ?_; omega))
    · rcases Decidable.em (size < b) with hb2 | hb2
      · have hE : lisE l.length size b = 2 := by unfold lisE; rw [if_pos h, if_pos (.inr hb2)]
        rw [hE, if_neg (by decide)]
        repeat' (first | (apply aw_seq_k; intro K hK) | (refine aw_run hc (by first | exact aw_nod | (intro _; rw [ordB_w hw]; kernel_rfl) | (intro _; rw [ordB_w0 hw0]; kernel_rfl) | (intro _; kernel_rfl)) ?_; simp [List.zipIdx, h27, h, hb1, hb2, -getM, getM_hit, getM_miss, getM_none]; (repeat (simp (disch := first | omega | assumption | fail) only [if_pos, if_neg, wrap64]; try simp [List.zipIdx, h27, h, hb1, hb2, -getM, getM_hit, getM_miss, getM_none])); try (repeat' (refine guardQ_split (fun h => ?_) (fun h => ?_) <;> simp at h <;> (simp [List.zipIdx, h27, h, hb1, hb2, -getM, getM_hit, getM_miss, getM_none]; (repeat (simp (disch := first | omega | assumption | fail) only [if_pos, if_neg, wrap64]; try simp [List.zipIdx, h27, h, hb1, hb2, -getM, getM_hit, getM_miss, getM_none])))))) | (refine aw_cond (b := _) (by exact rfl) (fun h => ?_) (fun h => ?_) <;> (try simp at h)) | (refine aw_block ?_) | (refine aw_skip ?_; simp only [thenQ, blockQ, if_true]) | (refine aw_exit ?_; simp [thenQ, blockQ]) | (refine aw_ret ?_; simp only [thenQ, blockQ]) | (refine aw_round ?_) | (refine hK _ ?_; clear hK) | (clear hK; refine hK _ ?_; clear hK) | (clear hK; clear hK; refine hK _ ?_; clear hK) | (clear hK; clear hK; clear hK; refine hK _ ?_; clear hK))
        refine ⟨by simp, ?_⟩
        simp [leaves_iff, Try.f20]
        try (first | omega | (refine decide_eq_decide.2 ?_; omega) | (refine decide_eq_false ?_; omega) | (refine decide_eq_true ?_; omega))
      · have hE : lisE l.length size b = 0 := by unfold lisE; rw [if_pos h, if_neg (by omega)]
        rw [hE, if_pos rfl]
        simp only
        have hinv := lrun_inv (b := b) hs1 l
        repeat' (first | (apply aw_seq_k; intro K hK) | (refine aw_run hc (by first | exact aw_nod | (intro _; rw [ordB_w hw]; kernel_rfl) | (intro _; rw [ordB_w0 hw0]; kernel_rfl) | (intro _; kernel_rfl)) ?_; simp [List.zipIdx, h27, h, hb1, hb2, -getM, getM_hit, getM_miss, getM_none]; (repeat (simp (disch := first | omega | assumption | fail) only [if_pos, if_neg, wrap64]; try simp [List.zipIdx, h27, h, hb1, hb2, -getM, getM_hit, getM_miss, getM_none])); try (repeat' (refine guardQ_split (fun h => ?_) (fun h => ?_) <;> simp at h <;> (simp [List.zipIdx, h27, h, hb1, hb2, -getM, getM_hit, getM_miss, getM_none]; (repeat (simp (disch := first | omega | assumption | fail) only [if_pos, if_neg, wrap64]; try simp [List.zipIdx, h27, h, hb1, hb2, -getM, getM_hit, getM_miss, getM_none])))))) | (refine aw_cond (b := _) (by exact rfl) (fun h => ?_) (fun h => ?_) <;> (try simp at h)) | (refine aw_block ?_) | (refine aw_skip ?_; simp only [thenQ, blockQ, if_true]) | (refine aw_exit ?_; simp [thenQ, blockQ]) | (refine aw_ret ?_; simp only [thenQ, blockQ]) | (refine aw_round ?_) | (refine hK _ ?_; clear hK) | (clear hK; refine hK _ ?_; clear hK) | (clear hK; clear hK; refine hK _ ?_; clear hK) | (clear hK; clear hK; clear hK; refine hK _ ?_; clear hK))
        refine aw_weaken (le_nilslot (t := 10) (sz := 1) (by simp)) ?_
        refine aw_weaken (le_nilcell (b := 272) (i := 0) (sz := 1) rfl rfl) ?_
        refine aw_weaken (le_nilcell (b := 272) (i := 1) (sz := 1) rfl rfl) ?_
        refine aw_weaken (le_nilcell (b := 272) (i := 2) (sz := 1) rfl rfl) ?_
        simp only [List.set_cons_zero, List.set_cons_succ, Nat.reduceAdd]
        refine aw_loopK (s0 := ?lps1) (m0 := ?lpm1) (ι := {i : Nat // i ≤ l.length}) [0, 1, 9] (fun i => [(11, I i.1), (10, .sl 336 1 1 0 (lrun size b l i.1).out.length)]) (fun i => [(272, .box [.sl 337 1 1 0 (lrun size b l i.1).ina.length, .sl 338 1 1 0 (lrun size b l i.1).act.length, .sl 339 1 1 0 (lrun size b l i.1).gone.length, I b]), (336, .vec 1 1 false (irows (lrun size b l i.1).out)), (337, .vec 1 1 false (irows (lrun size b l i.1).ina)), (338, .vec 1 1 false (irows (lrun size b l i.1).act)), (339, .vec 1 1 false (irows (lrun size b l i.1).gone))]) (fun i => l.length - i.1) ⟨0, by omega⟩ ?lhs1 ?lhm1 ?_ ?_
        case lhs1 => first | (simp [keepS]; done) | (simp [keepS]; rfl)
        case lhm1 => first | rfl | (simp; done) | (simp; rfl)
        · simp only [lrun, List.length_nil]
          exact le_of2 (by simp) (by simp [AVle, AV.under, AV.underL] <;> omega) (by simp [AOle, AO.under, AV.underL, AV.under] <;> omega)
        · rintro ⟨i, hi⟩
          simp only
          obtain ⟨s, hs⟩ : ∃ s, s = lrun size b l i := ⟨_, rfl⟩
          have hsi := hinv i
          rw [← hs] at hsi ⊢
          have hsucc : lrun size b l (i + 1) = lstep size b s (gi l i) := by rw [hs]; rfl
          rcases Decidable.em (i < l.length) with hil | hil
          · have hilI : (i : Int) < (l.length : Int) := by omega
            have hg := irows_gi hil
            obtain ⟨p, hp⟩ : ∃ p, p = gi l i := ⟨_, rfl⟩
            rw [← hp] at hg hsucc
            have hgE : ∀ h, (irows l)[i]'h = [I p] := fun h => by rw [List.getElem?_eq_getElem h] at hg; exact Option.some.inj hg
            obtain ⟨ina, act, gone, out⟩ := s
            obtain ⟨i1, i2, i3, i4, i5⟩ := hsi
            simp only at i1 i2 i3 i4 i5 ⊢
            have hF8 := F28_at act p (by unfold bigN; omega)
            have hF8' := F28_at ina p (by unfold bigN; omega)
            have hF9 := F29_at gone p (by unfold bigN; omega)
            have hlo : out.length ≤ 1073741823 := by omega
            have hli : ina.length ≤ 1073741823 := by omega
            have hap : ∀ (A : List Int) (x : Int), irows A ++ [[I x]] = irows (A ++ [x]) := fun A x => by rw [irows_one, irows_append]
            unfold lstep at hsucc
            simp only at hsucc
            have hix := idxI_pos (l := act) (x := p)
            have hix' := idxI_pos (l := ina) (x := p)
            rcases Decidable.em (p ∈ act) with hpa | hpa
            · rw [if_pos hpa] at hsucc
              have hi0 := hix.2 hpa
              repeat' (first | (apply aw_seq_k; intro K hK) | (refine aw_run hc (by first | exact aw_nod | (intro _; rw [ordB_w hw]; kernel_rfl) | (intro _; rw [ordB_w0 hw0]; kernel_rfl) | (intro _; kernel_rfl)) ?_; simp [List.zipIdx, hilI, hg, hgE, tkI, hap, hlo, h28, hF8, hi0, -getM, getM_hit, getM_miss, getM_none]; (repeat (simp (disch := first | omega | assumption | fail) only [if_pos, if_neg, wrap64]; try simp [List.zipIdx, hilI, hg, hgE, tkI, hap, hlo, h28, hF8, hi0, -getM, getM_hit, getM_miss, getM_none])); try (repeat' (refine guardQ_split (fun h => ?_) (fun h => ?_) <;> simp at h <;> (simp [List.zipIdx, hilI, hg, hgE, tkI, hap, hlo, h28, hF8, hi0, -getM, getM_hit, getM_miss, getM_none]; (repeat (simp (disch := first | omega | assumption | fail) only [if_pos, if_neg, wrap64]; try simp [List.zipIdx, hilI, hg, hgE, tkI, hap, hlo, h28, hF8, hi0, -getM, getM_hit, getM_miss, getM_none])))))) | (refine aw_cond (b := _) (by exact rfl) (fun h => ?_) (fun h => ?_) <;> (try simp at h)) | (refine aw_block ?_) | (refine aw_skip ?_; simp only [thenQ, blockQ, if_true]) | (refine aw_exit ?_; simp [thenQ, blockQ]) | (refine aw_ret ?_; simp only [thenQ, blockQ]) | (refine aw_round ?_) | (refine hK _ ?_; clear hK) | (clear hK; refine hK _ ?_; clear hK) | (clear hK; clear hK; refine hK _ ?_; clear hK) | (clear hK; clear hK; clear hK; refine hK _ ?_; clear hK))
              refine ⟨i + 1, ?_, by omega, by omega⟩
              simp only [hsucc]
              refine le_turn (s1 := ?tus2) (m1 := ?tum2) [] [0, 1, 9, 10, 11] [272, 336, 337, 338, 339] ?tua2 ?tub2 ?tuc2 ?tud2 ?tue2 ?tuf2 ?tug2
              case tua2 => first | (simp [keepS]; done) | (simp [keepS]; rfl)
              case tub2 => first | (simp; done) | (simp; rfl)
              case tuc2 => simp
              case tud2 => simp
              case tue2 => simp
              case tuf2 => simp
              case tug2 =>
                simp [swp, vr]
                exact le_of2 (by simp) (by simp [AVle, AV.under, AV.underL] <;> omega) (by simp [AOle, AO.under, AV.underL, AV.under] <;> omega)
            · rw [if_neg hpa] at hsucc
              have hi0 : ¬ 0 ≤ idxI act p := fun h => hpa (hix.1 h)
              rcases Decidable.em (p ∈ ina) with hpi | hpi
              · rw [if_pos hpi] at hsucc
                have hi1 := hix'.2 hpi
                have hwl := wo_len ina p
                have hF6 := F36_at ina p (by omega)
                have hF7 := F37_at (wo ina p) act gone b p ⟨hpa, by omega, by omega⟩
                repeat' (first | (apply aw_seq_k; intro K hK) | (refine aw_run hc (by first | exact aw_nod | (intro _; rw [ordB_w hw]; kernel_rfl) | (intro _; rw [ordB_w0 hw0]; kernel_rfl) | (intro _; kernel_rfl)) ?_; simp [List.zipIdx, hilI, hg, hgE, tkI, hap, hlo, h28, hF8, hF8', hi0, hi1, h36, hF6, h37, hF7, one1, -getM, getM_hit, getM_miss, getM_none]; (repeat (simp (disch := first | omega | assumption | fail) only [if_pos, if_neg, wrap64]; try simp [List.zipIdx, hilI, hg, hgE, tkI, hap, hlo, h28, hF8, hF8', hi0, hi1, h36, hF6, h37, hF7, one1, -getM, getM_hit, getM_miss, getM_none])); try (repeat' (refine guardQ_split (fun h => ?_) (fun h => ?_) <;> simp at h <;> (simp [List.zipIdx, hilI, hg, hgE, tkI, hap, hlo, h28, hF8, hF8', hi0, hi1, h36, hF6, h37, hF7, one1, -getM, getM_hit, getM_miss, getM_none]; (repeat (simp (disch := first | omega | assumption | fail) only [if_pos, if_neg, wrap64]; try simp [List.zipIdx, hilI, hg, hgE, tkI, hap, hlo, h28, hF8, hF8', hi0, hi1, h36, hF6, h37, hF7, one1, -getM, getM_hit, getM_miss, getM_none])))))) | (refine aw_cond (b := _) (by exact rfl) (fun h => ?_) (fun h => ?_) <;> (try simp at h)) | (refine aw_block ?_) | (refine aw_skip ?_; simp only [thenQ, blockQ, if_true]) | (refine aw_exit ?_; simp [thenQ, blockQ]) | (refine aw_ret ?_; simp only [thenQ, blockQ]) | (refine aw_round ?_) | (refine hK _ ?_; clear hK) | (clear hK; refine hK _ ?_; clear hK) | (clear hK; clear hK; refine hK _ ?_; clear hK) | (clear hK; clear hK; clear hK; refine hK _ ?_; clear hK))
                refine ⟨i + 1, ?_, by omega, by omega⟩
                simp only [hsucc]
                refine le_turn (s1 := ?tus3) (m1 := ?tum3) [(836, 337), (837, 338), (838, 339)] [0, 1, 9, 10, 11] [272, 336, 836, 837, 838] ?tua3 ?tub3 ?tuc3 ?tud3 ?tue3 ?tuf3 ?tug3
                case tua3 => first | (simp [keepS]; done) | (simp [keepS]; rfl)
                case tub3 => first | (simp; done) | (simp; rfl)
                case tuc3 => simp
                case tud3 => simp
                case tue3 => simp
                case tuf3 => simp
                case tug3 =>
                  simp [swp, vr]
                  exact le_of2 (by simp) (by simp [AVle, AV.under, AV.underL] <;> omega) (by simp [AOle, AO.under, AV.underL, AV.under] <;> omega)
              · rw [if_neg hpi] at hsucc
                have hi1 : ¬ 0 ≤ idxI ina p := fun h => hpi (hix'.1 h)
                unfold putL' evL at hsucc
                simp only at hsucc
                obtain ⟨d, hd⟩ : ∃ d, d = distL gone p := ⟨_, rfl⟩
                rw [← hd] at hF9 hsucc
                rcases Decidable.em ((ina.length : Int) + act.length = size) with hf | hf
                · rw [if_pos hf] at hsucc
                  simp only at hsucc
                  have hF3 := F38_at ina act gone b ⟨by omega, by omega⟩
                  have hle : ina.tail.length ≤ ina.length := by simp
                  have hle2 : (if ina = [] then act.tail else act).length ≤ act.length := by split <;> simp
                  have hsub : ∀ y, y ∈ (if ina = [] then act.tail else act) → y ∈ act := fun y hy => by
                    split at hy
                    · exact List.mem_of_mem_tail hy
                    · exact hy
                  have hpa' : p ∉ (if ina = [] then act.tail else act) := fun hh => hpa (hsub p hh)
                  obtain ⟨ia, hia⟩ : ∃ ia, ia = ina.tail := ⟨_, rfl⟩
                  obtain ⟨ac, hac⟩ : ∃ ac, ac = (if ina = [] then act.tail else act) := ⟨_, rfl⟩
                  obtain ⟨go, hgo⟩ : ∃ go, go = gone ++ [gi (ina ++ act) 0] := ⟨_, rfl⟩
                  rw [← hia, ← hac, ← hgo] at hsucc hF3
                  rw [← hia] at hle
                  rw [← hac] at hle2 hpa'
                  have hli2 : ia.length ≤ 1073741823 := by omega
                  rcases Decidable.em (0 ≤ d) with hd0 | hd0
                  · rcases Decidable.em (d ≤ (ac.length : Int)) with hd1 | hd1
                    · rw [if_pos ⟨hd0, hd1⟩] at hsucc
                      have hF7 := F37_at ia ac go b p ⟨hpa', by omega, by omega⟩
                      repeat' (first | (apply aw_seq_k; intro K hK) | (refine aw_run hc (by first | exact aw_nod | (intro _; rw [ordB_w hw]; kernel_rfl) | (intro _; rw [ordB_w0 hw0]; kernel_rfl) | (intro _; kernel_rfl)) ?_; simp [List.zipIdx, hilI, hg, hgE, tkI, hap, hlo, h28, hF8, hF8', hi0, hi1, h29, hF9, hf, h38, hF3, one1, h15, hd0, hd1, h37, hF7, -getM, getM_hit, getM_miss, getM_none]; (repeat (simp (disch := first | omega | assumption | fail) only [if_pos, if_neg, wrap64]; try simp [List.zipIdx, hilI, hg, hgE, tkI, hap, hlo, h28, hF8, hF8', hi0, hi1, h29, hF9, hf, h38, hF3, one1, h15, hd0, hd1, h37, hF7, -getM, getM_hit, getM_miss, getM_none])); try (repeat' (refine guardQ_split (fun h => ?_) (fun h => ?_) <;> simp at h <;> (simp [List.zipIdx, hilI, hg, hgE, tkI, hap, hlo, h28, hF8, hF8', hi0, hi1, h29, hF9, hf, h38, hF3, one1, h15, hd0, hd1, h37, hF7, -getM, getM_hit, getM_miss, getM_none]; (repeat (simp (disch := first | omega | assumption | fail) only [if_pos, if_neg, wrap64]; try simp [List.zipIdx, hilI, hg, hgE, tkI, hap, hlo, h28, hF8, hF8', hi0, hi1, h29, hF9, hf, h38, hF3, one1, h15, hd0, hd1, h37, hF7, -getM, getM_hit, getM_miss, getM_none])))))) | (refine aw_cond (b := _) (by exact rfl) (fun h => ?_) (fun h => ?_) <;> (try simp at h)) | (refine aw_block ?_) | (refine aw_skip ?_; simp only [thenQ, blockQ, if_true]) | (refine aw_exit ?_; simp [thenQ, blockQ]) | (refine aw_ret ?_; simp only [thenQ, blockQ]) | (refine aw_round ?_) | (refine hK _ ?_; clear hK) | (clear hK; refine hK _ ?_; clear hK) | (clear hK; clear hK; refine hK _ ?_; clear hK) | (clear hK; clear hK; clear hK; refine hK _ ?_; clear hK))
                      refine ⟨i + 1, ?_, by omega, by omega⟩
                      simp only [hsucc]
                      refine le_turn (s1 := ?tus4) (m1 := ?tum4) [(1108, 337), (1109, 338), (1110, 339)] [0, 1, 9, 10, 11] [272, 336, 1108, 1109, 1110] ?tua4 ?tub4 ?tuc4 ?tud4 ?tue4 ?tuf4 ?tug4
                      case tua4 => first | (simp [keepS]; done) | (simp [keepS]; rfl)
                      case tub4 => first | (simp; done) | (simp; rfl)
                      case tuc4 => simp
                      case tud4 => simp
                      case tue4 => simp
                      case tuf4 => simp
                      case tug4 =>
                        simp [swp, vr]
                        exact le_of2 (by simp) (by simp [AVle, AV.under, AV.underL] <;> omega) (by simp [AOle, AO.under, AV.underL, AV.under] <;> omega)
                    · rw [if_neg (fun h => hd1 h.2)] at hsucc
                      repeat' (first | (apply aw_seq_k; intro K hK) | (refine aw_run hc (by first | exact aw_nod | (intro _; rw [ordB_w hw]; kernel_rfl) | (intro _; rw [ordB_w0 hw0]; kernel_rfl) | (intro _; kernel_rfl)) ?_; simp [List.zipIdx, hilI, hg, hgE, tkI, hap, hlo, h28, hF8, hF8', hi0, hi1, h29, hF9, hf, h38, hF3, one1, h15, hd0, hd1, hli2, -getM, getM_hit, getM_miss, getM_none]; (repeat (simp (disch := first | omega | assumption | fail) only [if_pos, if_neg, wrap64]; try simp [List.zipIdx, hilI, hg, hgE, tkI, hap, hlo, h28, hF8, hF8', hi0, hi1, h29, hF9, hf, h38, hF3, one1, h15, hd0, hd1, hli2, -getM, getM_hit, getM_miss, getM_none])); try (repeat' (refine guardQ_split (fun h => ?_) (fun h => ?_) <;> simp at h <;> (simp [List.zipIdx, hilI, hg, hgE, tkI, hap, hlo, h28, hF8, hF8', hi0, hi1, h29, hF9, hf, h38, hF3, one1, h15, hd0, hd1, hli2, -getM, getM_hit, getM_miss, getM_none]; (repeat (simp (disch := first | omega | assumption | fail) only [if_pos, if_neg, wrap64]; try simp [List.zipIdx, hilI, hg, hgE, tkI, hap, hlo, h28, hF8, hF8', hi0, hi1, h29, hF9, hf, h38, hF3, one1, h15, hd0, hd1, hli2, -getM, getM_hit, getM_miss, getM_none])))))) | (refine aw_cond (b := _) (by exact rfl) (fun h => ?_) (fun h => ?_) <;> (try simp at h)) | (refine aw_block ?_) | (refine aw_skip ?_; simp only [thenQ, blockQ, if_true]) | (refine aw_exit ?_; simp [thenQ, blockQ]) | (refine aw_ret ?_; simp only [thenQ, blockQ]) | (refine aw_round ?_) | (refine hK _ ?_; clear hK) | (clear hK; refine hK _ ?_; clear hK) | (clear hK; clear hK; refine hK _ ?_; clear hK) | (clear hK; clear hK; clear hK; refine hK _ ?_; clear hK))
                      refine ⟨i + 1, ?_, by omega, by omega⟩
                      simp only [hsucc]
                      refine le_turn (s1 := ?tus5) (m1 := ?tum5) [(964, 337), (965, 338), (966, 339)] [0, 1, 9, 10, 11] [272, 336, 964, 965, 966] ?tua5 ?tub5 ?tuc5 ?tud5 ?tue5 ?tuf5 ?tug5
                      case tua5 => first | (simp [keepS]; done) | (simp [keepS]; rfl)
                      case tub5 => first | (simp; done) | (simp; rfl)
                      case tuc5 => simp
                      case tud5 => simp
                      case tue5 => simp
                      case tuf5 => simp
                      case tug5 =>
                        simp [swp, vr]
                        exact le_of2 (by simp) (by simp [AVle, AV.under, AV.underL] <;> omega) (by simp [AOle, AO.under, AV.underL, AV.under] <;> omega)
                  · rw [if_neg (fun h => hd0 h.1)] at hsucc
                    repeat' (first | (apply aw_seq_k; intro K hK) | (refine aw_run hc (by first | exact aw_nod | (intro _; rw [ordB_w hw]; kernel_rfl) | (intro _; rw [ordB_w0 hw0]; kernel_rfl) | (intro _; kernel_rfl)) ?_; simp [List.zipIdx, hilI, hg, hgE, tkI, hap, hlo, h28, hF8, hF8', hi0, hi1, h29, hF9, hf, h38, hF3, one1, h15, hd0, hli2, -getM, getM_hit, getM_miss, getM_none]; (repeat (simp (disch := first | omega | assumption | fail) only [if_pos, if_neg, wrap64]; try simp [List.zipIdx, hilI, hg, hgE, tkI, hap, hlo, h28, hF8, hF8', hi0, hi1, h29, hF9, hf, h38, hF3, one1, h15, hd0, hli2, -getM, getM_hit, getM_miss, getM_none])); try (repeat' (refine guardQ_split (fun h => ?_) (fun h => ?_) <;> simp at h <;> (simp [List.zipIdx, hilI, hg, hgE, tkI, hap, hlo, h28, hF8, hF8', hi0, hi1, h29, hF9, hf, h38, hF3, one1, h15, hd0, hli2, -getM, getM_hit, getM_miss, getM_none]; (repeat (simp (disch := first | omega | assumption | fail) only [if_pos, if_neg, wrap64]; try simp [List.zipIdx, hilI, hg, hgE, tkI, hap, hlo, h28, hF8, hF8', hi0, hi1, h29, hF9, hf, h38, hF3, one1, h15, hd0, hli2, -getM, getM_hit, getM_miss, getM_none])))))) | (refine aw_cond (b := _) (by exact rfl) (fun h => ?_) (fun h => ?_) <;> (try simp at h)) | (refine aw_block ?_) | (refine aw_skip ?_; simp only [thenQ, blockQ, if_true]) | (refine aw_exit ?_; simp [thenQ, blockQ]) | (refine aw_ret ?_; simp only [thenQ, blockQ]) | (refine aw_round ?_) | (refine hK _ ?_; clear hK) | (clear hK; refine hK _ ?_; clear hK) | (clear hK; clear hK; refine hK _ ?_; clear hK) | (clear hK; clear hK; clear hK; refine hK _ ?_; clear hK))
                    refine ⟨i + 1, ?_, by omega, by omega⟩
                    simp only [hsucc]
                    refine le_turn (s1 := ?tus6) (m1 := ?tum6) [(964, 337), (965, 338), (966, 339)] [0, 1, 9, 10, 11] [272, 336, 964, 965, 966] ?tua6 ?tub6 ?tuc6 ?tud6 ?tue6 ?tuf6 ?tug6
                    case tua6 => first | (simp [keepS]; done) | (simp [keepS]; rfl)
                    case tub6 => first | (simp; done) | (simp; rfl)
                    case tuc6 => simp
                    case tud6 => simp
                    case tue6 => simp
                    case tuf6 => simp
                    case tug6 =>
                      simp [swp, vr]
                      exact le_of2 (by simp) (by simp [AVle, AV.under, AV.underL] <;> omega) (by simp [AOle, AO.under, AV.underL, AV.under] <;> omega)
                · rw [if_neg hf] at hsucc
                  simp only at hsucc
                  have hli2 : ina.length ≤ 1073741823 := by omega
                  rcases Decidable.em (0 ≤ d) with hd0 | hd0
                  · rcases Decidable.em (d ≤ (act.length : Int)) with hd1 | hd1
                    · rw [if_pos ⟨hd0, hd1⟩] at hsucc
                      have hF7 := F37_at ina act gone b p ⟨hpa, by omega, by omega⟩
                      repeat' (first | (apply aw_seq_k; intro K hK) | (refine aw_run hc (by first | exact aw_nod | (intro _; rw [ordB_w hw]; kernel_rfl) | (intro _; rw [ordB_w0 hw0]; kernel_rfl) | (intro _; kernel_rfl)) ?_; simp [List.zipIdx, hilI, hg, hgE, tkI, hap, hlo, h28, hF8, hF8', hi0, hi1, h29, hF9, hf, one1, h15, hd0, hd1, h37, hF7, -getM, getM_hit, getM_miss, getM_none]; (repeat (simp (disch := first | omega | assumption | fail) only [if_pos, if_neg, wrap64]; try simp [List.zipIdx, hilI, hg, hgE, tkI, hap, hlo, h28, hF8, hF8', hi0, hi1, h29, hF9, hf, one1, h15, hd0, hd1, h37, hF7, -getM, getM_hit, getM_miss, getM_none])); try (repeat' (refine guardQ_split (fun h => ?_) (fun h => ?_) <;> simp at h <;> (simp [List.zipIdx, hilI, hg, hgE, tkI, hap, hlo, h28, hF8, hF8', hi0, hi1, h29, hF9, hf, one1, h15, hd0, hd1, h37, hF7, -getM, getM_hit, getM_miss, getM_none]; (repeat (simp (disch := first | omega | assumption | fail) only [if_pos, if_neg, wrap64]; try simp [List.zipIdx, hilI, hg, hgE, tkI, hap, hlo, h28, hF8, hF8', hi0, hi1, h29, hF9, hf, one1, h15, hd0, hd1, h37, hF7, -getM, getM_hit, getM_miss, getM_none])))))) | (refine aw_cond (b := _) (by exact rfl) (fun h => ?_) (fun h => ?_) <;> (try simp at h)) | (refine aw_block ?_) | (refine aw_skip ?_; simp only [thenQ, blockQ, if_true]) | (refine aw_exit ?_; simp [thenQ, blockQ]) | (refine aw_ret ?_; simp only [thenQ, blockQ]) | (refine aw_round ?_) | (refine hK _ ?_; clear hK) | (clear hK; refine hK _ ?_; clear hK) | (clear hK; clear hK; refine hK _ ?_; clear hK) | (clear hK; clear hK; clear hK; refine hK _ ?_; clear hK))
                      refine ⟨i + 1, ?_, by omega, by omega⟩
                      simp only [hsucc]
                      refine le_turn (s1 := ?tus7) (m1 := ?tum7) [(1060, 337), (1061, 338), (1062, 339)] [0, 1, 9, 10, 11] [272, 336, 1060, 1061, 1062] ?tua7 ?tub7 ?tuc7 ?tud7 ?tue7 ?tuf7 ?tug7
                      case tua7 => first | (simp [keepS]; done) | (simp [keepS]; rfl)
                      case tub7 => first | (simp; done) | (simp; rfl)
                      case tuc7 => simp
                      case tud7 => simp
                      case tue7 => simp
                      case tuf7 => simp
                      case tug7 =>
                        simp [swp, vr]
                        exact le_of2 (by simp) (by simp [AVle, AV.under, AV.underL] <;> omega) (by simp [AOle, AO.under, AV.underL, AV.under] <;> omega)
                    · rw [if_neg (fun h => hd1 h.2)] at hsucc
                      repeat' (first | (apply aw_seq_k; intro K hK) | (refine aw_run hc (by first | exact aw_nod | (intro _; rw [ordB_w hw]; kernel_rfl) | (intro _; rw [ordB_w0 hw0]; kernel_rfl) | (intro _; kernel_rfl)) ?_; simp [List.zipIdx, hilI, hg, hgE, tkI, hap, hlo, h28, hF8, hF8', hi0, hi1, h29, hF9, hf, one1, h15, hd0, hd1, hli2, -getM, getM_hit, getM_miss, getM_none]; (repeat (simp (disch := first | omega | assumption | fail) only [if_pos, if_neg, wrap64]; try simp [List.zipIdx, hilI, hg, hgE, tkI, hap, hlo, h28, hF8, hF8', hi0, hi1, h29, hF9, hf, one1, h15, hd0, hd1, hli2, -getM, getM_hit, getM_miss, getM_none])); try (repeat' (refine guardQ_split (fun h => ?_) (fun h => ?_) <;> simp at h <;> (simp [List.zipIdx, hilI, hg, hgE, tkI, hap, hlo, h28, hF8, hF8', hi0, hi1, h29, hF9, hf, one1, h15, hd0, hd1, hli2, -getM, getM_hit, getM_miss, getM_none]; (repeat (simp (disch := first | omega | assumption | fail) only [if_pos, if_neg, wrap64]; try simp [List.zipIdx, hilI, hg, hgE, tkI, hap, hlo, h28, hF8, hF8', hi0, hi1, h29, hF9, hf, one1, h15, hd0, hd1, hli2, -getM, getM_hit, getM_miss, getM_none])))))) | (refine aw_cond (b := _) (by exact rfl) (fun h => ?_) (fun h => ?_) <;> (try simp at h)) | (refine aw_block ?_) | (refine aw_skip ?_; simp only [thenQ, blockQ, if_true]) | (refine aw_exit ?_; simp [thenQ, blockQ]) | (refine aw_ret ?_; simp only [thenQ, blockQ]) | (refine aw_round ?_) | (refine hK _ ?_; clear hK) | (clear hK; refine hK _ ?_; clear hK) | (clear hK; clear hK; refine hK _ ?_; clear hK) | (clear hK; clear hK; clear hK; refine hK _ ?_; clear hK))
                      refine ⟨i + 1, ?_, by omega, by omega⟩
                      simp only [hsucc]
                      refine le_turn (s1 := ?tus8) (m1 := ?tum8) [] [0, 1, 9, 10, 11] [272, 336, 337, 338, 339] ?tua8 ?tub8 ?tuc8 ?tud8 ?tue8 ?tuf8 ?tug8
                      case tua8 => first | (simp [keepS]; done) | (simp [keepS]; rfl)
                      case tub8 => first | (simp; done) | (simp; rfl)
                      case tuc8 => simp
                      case tud8 => simp
                      case tue8 => simp
                      case tuf8 => simp
                      case tug8 =>
                        simp [swp, vr]
                        exact le_of2 (by simp) (by simp [AVle, AV.under, AV.underL] <;> omega) (by simp [AOle, AO.under, AV.underL, AV.under] <;> omega)
                  · rw [if_neg (fun h => hd0 h.1)] at hsucc
                    repeat' (first | (apply aw_seq_k; intro K hK) | (refine aw_run hc (by first | exact aw_nod | (intro _; rw [ordB_w hw]; kernel_rfl) | (intro _; rw [ordB_w0 hw0]; kernel_rfl) | (intro _; kernel_rfl)) ?_; simp [List.zipIdx, hilI, hg, hgE, tkI, hap, hlo, h28, hF8, hF8', hi0, hi1, h29, hF9, hf, one1, h15, hd0, hli2, -getM, getM_hit, getM_miss, getM_none]; (repeat (simp (disch := first | omega | assumption | fail) only [if_pos, if_neg, wrap64]; try simp [List.zipIdx, hilI, hg, hgE, tkI, hap, hlo, h28, hF8, hF8', hi0, hi1, h29, hF9, hf, one1, h15, hd0, hli2, -getM, getM_hit, getM_miss, getM_none])); try (repeat' (refine guardQ_split (fun h => ?_) (fun h => ?_) <;> simp at h <;> (simp [List.zipIdx, hilI, hg, hgE, tkI, hap, hlo, h28, hF8, hF8', hi0, hi1, h29, hF9, hf, one1, h15, hd0, hli2, -getM, getM_hit, getM_miss, getM_none]; (repeat (simp (disch := first | omega | assumption | fail) only [if_pos, if_neg, wrap64]; try simp [List.zipIdx, hilI, hg, hgE, tkI, hap, hlo, h28, hF8, hF8', hi0, hi1, h29, hF9, hf, one1, h15, hd0, hli2, -getM, getM_hit, getM_miss, getM_none])))))) | (refine aw_cond (b := _) (by exact rfl) (fun h => ?_) (fun h => ?_) <;> (try simp at h)) | (refine aw_block ?_) | (refine aw_skip ?_; simp only [thenQ, blockQ, if_true]) | (refine aw_exit ?_; simp [thenQ, blockQ]) | (refine aw_ret ?_; simp only [thenQ, blockQ]) | (refine aw_round ?_) | (refine hK _ ?_; clear hK) | (clear hK; refine hK _ ?_; clear hK) | (clear hK; clear hK; refine hK _ ?_; clear hK) | (clear hK; clear hK; clear hK; refine hK _ ?_; clear hK))
                    refine ⟨i + 1, ?_, by omega, by omega⟩
                    simp only [hsucc]
                    refine le_turn (s1 := ?tus9) (m1 := ?tum9) [] [0, 1, 9, 10, 11] [272, 336, 337, 338, 339] ?tua9 ?tub9 ?tuc9 ?tud9 ?tue9 ?tuf9 ?tug9
                    case tua9 => first | (simp [keepS]; done) | (simp [keepS]; rfl)
                    case tub9 => first | (simp; done) | (simp; rfl)
                    case tuc9 => simp
                    case tud9 => simp
                    case tue9 => simp
                    case tuf9 => simp
                    case tug9 =>
                      simp [swp, vr]
                      exact le_of2 (by simp) (by simp [AVle, AV.under, AV.underL] <;> omega) (by simp [AOle, AO.under, AV.underL, AV.under] <;> omega)
          · obtain rfl : i = l.length := by omega
            repeat' (first | (apply aw_seq_k; intro K hK) | (refine aw_run hc (by first | exact aw_nod | (intro _; rw [ordB_w hw]; kernel_rfl) | (intro _; rw [ordB_w0 hw0]; kernel_rfl) | (intro _; kernel_rfl)) ?_; simp [List.zipIdx, -getM, getM_hit, getM_miss, getM_none]; (repeat (simp (disch := first | omega | assumption | fail) only [if_pos, if_neg, wrap64]; try simp [List.zipIdx, -getM, getM_hit, getM_miss, getM_none])); try (repeat' (refine guardQ_split (fun h => ?_) (fun h => ?_) <;> simp at h <;> (simp [List.zipIdx, -getM, getM_hit, getM_miss, getM_none]; (repeat (simp (disch := first | omega | assumption | fail) only [if_pos, if_neg, wrap64]; try simp [List.zipIdx, -getM, getM_hit, getM_miss, getM_none])))))) | (refine aw_cond (b := _) (by exact rfl) (fun h => ?_) (fun h => ?_) <;> (try simp at h)) | (refine aw_block ?_) | (refine aw_skip ?_; simp only [thenQ, blockQ, if_true]) | (refine aw_exit ?_; simp [thenQ, blockQ]) | (refine aw_ret ?_; simp only [thenQ, blockQ]) | (refine aw_round ?_) | (refine hK _ ?_; clear hK) | (clear hK; refine hK _ ?_; clear hK) | (clear hK; clear hK; refine hK _ ?_; clear hK) | (clear hK; clear hK; clear hK; refine hK _ ?_; clear hK))
            refine ⟨by simp, ?_⟩
            simp [leaves_iff, Try.f20, hs, tkI]
            try (first | omega | (refine decide_eq_decide.2 ?_; omega) | (refine decide_eq_false ?_; omega) | (refine decide_eq_true ?_; omega))
  · have hE : lisE l.length size b = errS l.length size := by unfold lisE; rw [if_neg h]
    rw [hE, if_neg h]
    repeat' (first | (apply aw_seq_k; intro K hK) | (refine aw_run hc (by first | exact aw_nod | (intro _; rw [ordB_w hw]; kernel_rfl) | (intro _; rw [ordB_w0 hw0]; kernel_rfl) | (intro _; kernel_rfl)) ?_; simp [List.zipIdx, h27, h, -getM, getM_hit, getM_miss, getM_none]; (repeat (simp (disch := first | omega | assumption | fail) only [if_pos, if_neg, wrap64]; try simp [List.zipIdx, h27, h, -getM, getM_hit, getM_miss, getM_none])); try (repeat' (refine guardQ_split (fun h => ?_) (fun h => ?_) <;> simp at h <;> (simp [List.zipIdx, h27, h, -getM, getM_hit, getM_miss, getM_none]; (repeat (simp (disch := first | omega | assumption | fail) only [if_pos, if_neg, wrap64]; try simp [List.zipIdx, h27, h, -getM, getM_hit, getM_miss, getM_none])))))) | (refine aw_cond (b := _) (by exact rfl) (fun h => ?_) (fun h => ?_) <;> (try simp at h)) | (refine aw_block ?_) | (refine aw_skip ?_; simp only [thenQ, blockQ, if_true]) | (refine aw_exit ?_; simp [thenQ, blockQ]) | (refine aw_ret ?_; simp only [thenQ, blockQ]) | (refine aw_round ?_) | (refine hK _ ?_; clear hK) | (clear hK; refine hK _ ?_; clear hK) | (clear hK; clear hK; refine hK _ ?_; clear hK) | (clear hK; clear hK; clear hK; refine hK _ ?_; clear hK))
    refine ⟨by simp, ?_⟩
    simp [leaves_iff, Try.f20]
    try (first | omega | (refine decide_eq_decide.2 ?_; omega) | (refine decide_eq_false ?_; omega) | (refine decide_eq_true ?_; omega))
end Go.AM
