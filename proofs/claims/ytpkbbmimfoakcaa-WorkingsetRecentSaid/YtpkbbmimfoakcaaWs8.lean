/- Workingset: the program's cache with two lists. -/
import Derived.Test.YtpkbbmimfoakcaaWsQ
set_option linter.all false

namespace Go.AM
open Go Go.Proofs

noncomputable def F31 : List AV → Option AV := specF (ι := {x : List Int × Int // x.1.length ≤ bigN}) (fun x => [.rd 1 (irows x.1.1), I x.1.2]) fun x => retOf [I (idxI x.1.1 x.1.2)]
theorem F31_at (l : List Int) (p : Int) (h : l.length ≤ bigN) : F31 [.rd 1 (irows l), I p] = some (I (idxI l p)) := idx_at l p h idxI
noncomputable def F30 : List AV → Option AV := specF (ι := {x : List Int × Int // x.1.length ≤ bigN}) (fun x => [.rd 1 (irows x.1.1), I x.1.2]) fun x => retOf [B (x.1.2 ∈ x.1.1)]
theorem F30_at (l : List Int) (p : Int) (h : l.length ≤ bigN) : F30 [.rd 1 (irows l), I p] = some (B (p ∈ l)) :=
  specF_eq (A := fun x : {x : List Int × Int // x.1.length ≤ bigN} => [.rd 1 (irows x.1.1), I x.1.2]) (R := fun x => retOf [B (x.1.2 ∈ x.1.1)]) ⟨(l, p), h⟩ (by
    rintro ⟨⟨a, b⟩, h2⟩ e
    simp [irows_inj] at e
    obtain ⟨rfl, rfl⟩ := e
    rfl)
noncomputable def F33 : List AV → Option AV := specF (ι := {x : List Int // x.length ≤ 1000000}) (fun x => [.rd 1 (irows x.1)]) fun x => retOf [.ow 1 (irows x.1)]
theorem F33_at (l : List Int) (h : l.length ≤ 1000000) : F33 [.rd 1 (irows l)] = some (.ow 1 (irows l)) :=
  specF_eq (A := fun x : {x : List Int // x.length ≤ 1000000} => [.rd 1 (irows x.1)]) (R := fun x => retOf [.ow 1 (irows x.1)]) ⟨l, h⟩ (by
    rintro ⟨a, h2⟩ e
    simp [irows_inj] at e
    subst e
    rfl)

theorem idxI_spec {l : List Int} {x : Int} (h : x ∈ l) : ∃ j : Nat, j < l.length ∧ idxI l x = j ∧ gi l j = x := by
  unfold idxI
  rw [if_pos h]
  have hlt : l.findIdx (fun y => decide (y = x)) < l.length := List.findIdx_lt_length.2 ⟨x, h, by simp⟩
  refine ⟨_, hlt, rfl, ?_⟩
  rw [gi_eq hlt]
  have := List.findIdx_getElem (w := hlt)
  simpa using this
theorem idxI_neg {l : List Int} {x : Int} (h : x ∉ l) : idxI l x = -1 := by unfold idxI; rw [if_neg h]
theorem wo_cut {l : List Int} {x : Int} {j : Nat} (hn : l.Nodup) (hj : j < l.length) (e : gi l j = x) : l.take j ++ l.drop (j + 1) = wo l x := by
  have hl : l = l.take j ++ x :: l.drop (j + 1) := by rw [← e, ← drop_gi hj, List.take_append_drop]
  rw [hl] at hn
  obtain ⟨n1, n2, n3⟩ := List.nodup_append.1 hn
  have n4 := List.nodup_cons.1 n2
  have h1 : x ∉ l.take j := fun h => n3 x h x (by simp) rfl
  conv => rhs; rw [hl]
  unfold wo
  rw [List.filter_append, List.filter_cons]
  simp only [ne_eq, not_true_eq_false, decide_false, Bool.false_eq_true, if_false]
  have a1 := wo_not h1
  have a2 := wo_not n4.1
  unfold wo at a1 a2
  simp only [ne_eq] at a1 a2
  rw [a1, a2]

set_option maxHeartbeats 2000000 in
theorem s19 (X : AX) (hX : XOK Try.prog X) (hw : X.W wT) (h24 : ∀ a b M n, X.call 24 [I a, I b] M n = some (I (errS a b), [])) (h25 : X.call 25 = callP F25) (h26 : X.call 26 = callM false one1 F26)
    (h14 : ∀ a b M n, X.call 14 [I a, I b] M n = some (B (decide (0 ≤ a ∧ a ≤ b)), [])) (h30 : X.call 30 = callP F30) (h31 : X.call 31 = callP F31) (h32 : X.call 32 = callM false one1 F32) (h33 : X.call 33 = callP F33) (h34 : X.call 34 = callM false one1 F34) (h35 : X.call 35 = callM false one1 F35) :
    PSound Try.prog 19 (specF (ι := List Int × Int × Int) (fun x => [.rd 1 (irows x.1), I x.2.1, I x.2.2]) fun x => retOf [.ow 1 (irows (lisR x.1 x.2.1 x.2.2).1), I (lisR x.1 x.2.1 x.2.2).2]) := by
  refine psound_spec hX mixed Try.func19 rfl fun ⟨l, size, b⟩ w0 G => ⟨by show 3 ≤ 102; decide, rfl, ?_⟩
  show AW ⟨Try.prog, X, 102, w0, .pure G⟩ _ _ _
  have hc : Cx.OK ⟨Try.prog, X, 102, w0, .pure G⟩ := ⟨hX, mixed⟩
  simp only
  unfold lisR
  rcases Decidable.em (errS l.length size = 0) with h | h
  · obtain ⟨hl, hs1, hs2⟩ := errS_zero.1 h
    rcases Decidable.em (b < 0) with hb1 | hb1
    · have hE : lisE l.length size b = 2 := by unfold lisE; rw [if_pos h, if_pos (.inl hb1)]
      rw [hE, if_neg (by decide)]
      repeat' (first | (apply aw_seq_k; intro K hK) | (refine aw_run hc (by first | exact aw_nod | (intro _; rw [ordB_w hw]; kernel_rfl) | (intro _; rw [ordB_w0 hw0]; kernel_rfl) | (intro _; kernel_rfl)) ?_; simp [List.zipIdx, h24, h, hb1, -getM, getM_hit, getM_miss, getM_none]; (repeat (simp (disch := first | omega | assumption | fail) only [if_pos, if_neg, wrap64]; try simp [List.zipIdx, h24, h, hb1, -getM, getM_hit, getM_miss, getM_none])); try (repeat' (refine guardQ_split (fun h => ?_) (fun h => ?_) <;> simp at h <;> (simp [List.zipIdx, h24, h, hb1, -getM, getM_hit, getM_miss, getM_none]; (repeat (simp (disch := first | omega | assumption | fail) only [if_pos, if_neg, wrap64]; try simp [List.zipIdx, h24, h, hb1, -getM, getM_hit, getM_miss, getM_none])))))) | (refine aw_cond (b := _) (by exact rfl) (fun h => ?_) (fun h => ?_) <;> (try simp at h)) | (refine aw_block ?_) | (refine aw_skip ?_; simp only [thenQ, blockQ, if_true]) | (refine aw_exit ?_; simp [thenQ, blockQ]) | (refine aw_ret ?_; simp only [thenQ, blockQ]) | (refine aw_round ?_) | (refine hK _ ?_; clear hK) | (clear hK; refine hK _ ?_; clear hK) | (clear hK; clear hK; refine hK _ ?_; clear hK) | (clear hK; clear hK; clear hK; refine hK _ ?_; clear hK))
      refine ⟨by simp, ?_⟩
      simp [leaves_iff, Try.f19]
      try (first | omega | (refine decide_eq_decide.2 ?_; omega) | (refine decide_eq_false ?_; omega) | (refine decide_eq_true ?_; omega))
    · rcases Decidable.em (size < b) with hb2 | hb2
      · have hE : lisE l.length size b = 2 := by unfold lisE; rw [if_pos h, if_pos (.inr hb2)]
        rw [hE, if_neg (by decide)]
        repeat' (first | (apply aw_seq_k; intro K hK) | (refine aw_run hc (by first | exact aw_nod | (intro _; rw [ordB_w hw]; kernel_rfl) | (intro _; rw [ordB_w0 hw0]; kernel_rfl) | (intro _; kernel_rfl)) ?_; simp [List.zipIdx, h24, h, hb1, hb2, -getM, getM_hit, getM_miss, getM_none]; (repeat (simp (disch := first | omega | assumption | fail) only [if_pos, if_neg, wrap64]; try simp [List.zipIdx, h24, h, hb1, hb2, -getM, getM_hit, getM_miss, getM_none])); try (repeat' (refine guardQ_split (fun h => ?_) (fun h => ?_) <;> simp at h <;> (simp [List.zipIdx, h24, h, hb1, hb2, -getM, getM_hit, getM_miss, getM_none]; (repeat (simp (disch := first | omega | assumption | fail) only [if_pos, if_neg, wrap64]; try simp [List.zipIdx, h24, h, hb1, hb2, -getM, getM_hit, getM_miss, getM_none])))))) | (refine aw_cond (b := _) (by exact rfl) (fun h => ?_) (fun h => ?_) <;> (try simp at h)) | (refine aw_block ?_) | (refine aw_skip ?_; simp only [thenQ, blockQ, if_true]) | (refine aw_exit ?_; simp [thenQ, blockQ]) | (refine aw_ret ?_; simp only [thenQ, blockQ]) | (refine aw_round ?_) | (refine hK _ ?_; clear hK) | (clear hK; refine hK _ ?_; clear hK) | (clear hK; clear hK; refine hK _ ?_; clear hK) | (clear hK; clear hK; clear hK; refine hK _ ?_; clear hK))
        refine ⟨by simp, ?_⟩
        simp [leaves_iff, Try.f19]
        try (first | omega | (refine decide_eq_decide.2 ?_; omega) | (refine decide_eq_false ?_; omega) | (refine decide_eq_true ?_; omega))
      · have hE : lisE l.length size b = 0 := by unfold lisE; rw [if_pos h, if_neg (by omega)]
        rw [hE, if_pos rfl]
        simp only
        have hinv := lrun_inv (b := b) hs1 l
        repeat' (first | (apply aw_seq_k; intro K hK) | (refine aw_run hc (by first | exact aw_nod | (intro _; rw [ordB_w hw]; kernel_rfl) | (intro _; rw [ordB_w0 hw0]; kernel_rfl) | (intro _; kernel_rfl)) ?_; simp [List.zipIdx, h24, h, hb1, hb2, -getM, getM_hit, getM_miss, getM_none]; (repeat (simp (disch := first | omega | assumption | fail) only [if_pos, if_neg, wrap64]; try simp [List.zipIdx, h24, h, hb1, hb2, -getM, getM_hit, getM_miss, getM_none])); try (repeat' (refine guardQ_split (fun h => ?_) (fun h => ?_) <;> simp at h <;> (simp [List.zipIdx, h24, h, hb1, hb2, -getM, getM_hit, getM_miss, getM_none]; (repeat (simp (disch := first | omega | assumption | fail) only [if_pos, if_neg, wrap64]; try simp [List.zipIdx, h24, h, hb1, hb2, -getM, getM_hit, getM_miss, getM_none])))))) | (refine aw_cond (b := _) (by exact rfl) (fun h => ?_) (fun h => ?_) <;> (try simp at h)) | (refine aw_block ?_) | (refine aw_skip ?_; simp only [thenQ, blockQ, if_true]) | (refine aw_exit ?_; simp [thenQ, blockQ]) | (refine aw_ret ?_; simp only [thenQ, blockQ]) | (refine aw_round ?_) | (refine hK _ ?_; clear hK) | (clear hK; refine hK _ ?_; clear hK) | (clear hK; clear hK; refine hK _ ?_; clear hK) | (clear hK; clear hK; clear hK; refine hK _ ?_; clear hK))
        refine aw_weaken (le_nilslot (t := 11) (sz := 1) (by simp)) ?_
        refine aw_weaken (le_nilcell (b := 352) (i := 0) (sz := 1) rfl rfl) ?_
        refine aw_weaken (le_nilcell (b := 352) (i := 1) (sz := 1) rfl rfl) ?_
        simp only [List.set_cons_zero, List.set_cons_succ, Nat.reduceAdd]
        refine aw_loopK (s0 := ?lps1) (m0 := ?lpm1) (ι := {i : Nat // i ≤ l.length}) [1, 9, 10, 34, 35] (fun i => [(36, I i.1), (11, .sl 448 1 1 0 (lrun size b l i.1).out.length)]) (fun i => [(256, .map 1 1 (whenE (lrun size b l i.1).gone)), (288, .box [I (lrun size b l i.1).gone.length, .mp 256 1]), (352, .box [.sl 449 1 1 0 (lrun size b l i.1).ina.length, .sl 450 1 1 0 (lrun size b l i.1).act.length, I b]), (448, .vec 1 1 false (irows (lrun size b l i.1).out)), (449, .vec 1 1 false (irows (lrun size b l i.1).ina)), (450, .vec 1 1 false (irows (lrun size b l i.1).act))]) (fun i => l.length - i.1) ⟨0, by omega⟩ ?lhs1 ?lhm1 ?_ ?_
        case lhs1 => first | (simp [keepS]; done) | (simp [keepS]; rfl)
        case lhm1 => first | rfl | (simp; done) | (simp; rfl)
        · simp only [lrun, whenE, wE, List.length_nil]
          exact le_of2 (by simp) (by simp [AVle, AV.under, AV.underL] <;> omega) (by simp [AOle, AO.under, AV.underL, AV.under] <;> omega)
        · rintro ⟨i, hi⟩
          simp only
          obtain ⟨s, hs⟩ : ∃ s, s = lrun size b l i := ⟨_, rfl⟩
          have hsi := hinv i
          rw [← hs] at hsi ⊢
          have hsucc : lrun size b l (i + 1) = lstep size b s (gi l i) := by rw [hs]; rfl
          rcases Decidable.em (i < l.length) with hil | hil
          · have hilI : (i : Int) < (l.length : Int) := by omega
            have hg := irows_gi hil
            obtain ⟨p, hp⟩ : ∃ p, p = gi l i := ⟨_, rfl⟩
            rw [← hp] at hg hsucc
            have hgE : ∀ h, (irows l)[i]'h = [I p] := fun h => by rw [List.getElem?_eq_getElem h] at hg; exact Option.some.inj hg
            obtain ⟨ina, act, gone, out⟩ := s
            obtain ⟨i1, i2, i3, i4, i5⟩ := hsi
            simp only at i1 i2 i3 i4 i5 ⊢
            have hF5 := F25_at gone p (by unfold bigN; omega)
            have hF0 := F30_at act p (by unfold bigN; omega)
            have hF1 := F31_at ina p (by unfold bigN; omega)
            have hlo : out.length ≤ 1073741823 := by omega
            have hli : ina.length ≤ 1073741823 := by omega
            have hap : ∀ (A : List Int) (x : Int), irows A ++ [[I x]] = irows (A ++ [x]) := fun A x => by rw [irows_one, irows_append]
            unfold lstep at hsucc
            simp only at hsucc
            rcases Decidable.em (p ∈ act) with hpa | hpa
            · rw [if_pos hpa] at hsucc
              repeat' (first | (apply aw_seq_k; intro K hK) | (refine aw_run hc (by first | exact aw_nod | (intro _; rw [ordB_w hw]; kernel_rfl) | (intro _; rw [ordB_w0 hw0]; kernel_rfl) | (intro _; kernel_rfl)) ?_; simp [List.zipIdx, hilI, hg, hgE, tkI, hap, hlo, h30, hF0, hpa, -getM, getM_hit, getM_miss, getM_none]; (repeat (simp (disch := first | omega | assumption | fail) only [if_pos, if_neg, wrap64]; try simp [List.zipIdx, hilI, hg, hgE, tkI, hap, hlo, h30, hF0, hpa, -getM, getM_hit, getM_miss, getM_none])); try (repeat' (refine guardQ_split (fun h => ?_) (fun h => ?_) <;> simp at h <;> (simp [List.zipIdx, hilI, hg, hgE, tkI, hap, hlo, h30, hF0, hpa, -getM, getM_hit, getM_miss, getM_none]; (repeat (simp (disch := first | omega | assumption | fail) only [if_pos, if_neg, wrap64]; try simp [List.zipIdx, hilI, hg, hgE, tkI, hap, hlo, h30, hF0, hpa, -getM, getM_hit, getM_miss, getM_none])))))) | (refine aw_cond (b := _) (by exact rfl) (fun h => ?_) (fun h => ?_) <;> (try simp at h)) | (refine aw_block ?_) | (refine aw_skip ?_; simp only [thenQ, blockQ, if_true]) | (refine aw_exit ?_; simp [thenQ, blockQ]) | (refine aw_ret ?_; simp only [thenQ, blockQ]) | (refine aw_round ?_) | (refine hK _ ?_; clear hK) | (clear hK; refine hK _ ?_; clear hK) | (clear hK; clear hK; refine hK _ ?_; clear hK) | (clear hK; clear hK; clear hK; refine hK _ ?_; clear hK))
              refine ⟨i + 1, ?_, by omega, by omega⟩
              simp only [hsucc]
              refine le_turn (s1 := ?tus2) (m1 := ?tum2) [] [1, 9, 10, 34, 35, 36, 11] [256, 288, 352, 448, 449, 450] ?tua2 ?tub2 ?tuc2 ?tud2 ?tue2 ?tuf2 ?tug2
              case tua2 => first | (simp [keepS]; done) | (simp [keepS]; rfl)
              case tub2 => first | (simp; done) | (simp; rfl)
              case tuc2 => simp
              case tud2 => simp
              case tue2 => simp
              case tuf2 => simp
              case tug2 =>
                simp [swp, vr]
                exact le_of2 (by simp) (by simp [AVle, AV.under, AV.underL] <;> omega) (by simp [AOle, AO.under, AV.underL, AV.under] <;> omega)
            · rw [if_neg hpa] at hsucc
              rcases Decidable.em (p ∈ ina) with hpi | hpi
              · rw [if_pos hpi] at hsucc
                obtain ⟨n1, n2, n3⟩ := List.nodup_append.1 i5
                obtain ⟨j, hj, hji, hjp⟩ := idxI_spec hpi
                have hwo := wo_cut n1 hj hjp
                rw [hji] at hF1
                have hF3 := F33_at ina (by omega)
                have hF2 := F32_at ina j (j + 1) ⟨by omega, by omega, by omega⟩
                rw [hwo, show ((j + 1 : Nat) : Int) = (j : Int) + 1 by omega] at hF2
                have hwl := wo_len ina p
                have hF4 := F34_at (wo ina p) act b p (by unfold bigN; omega) (by unfold bigN; omega)
                have hj0 : 0 ≤ (j : Int) := by omega
                repeat' (first | (apply aw_seq_k; intro K hK) | (refine aw_run hc (by first | exact aw_nod | (intro _; rw [ordB_w hw]; kernel_rfl) | (intro _; rw [ordB_w0 hw0]; kernel_rfl) | (intro _; kernel_rfl)) ?_; simp [List.zipIdx, hilI, hg, hgE, tkI, hap, hlo, h30, hF0, hpa, h31, hF1, hj0, h33, hF3, h32, hF2, h34, hF4, one1, -getM, getM_hit, getM_miss, getM_none]; (repeat (simp (disch := first | omega | assumption | fail) only [if_pos, if_neg, wrap64]; try simp [List.zipIdx, hilI, hg, hgE, tkI, hap, hlo, h30, hF0, hpa, h31, hF1, hj0, h33, hF3, h32, hF2, h34, hF4, one1, -getM, getM_hit, getM_miss, getM_none])); try (repeat' (refine guardQ_split (fun h => ?_) (fun h => ?_) <;> simp at h <;> (simp [List.zipIdx, hilI, hg, hgE, tkI, hap, hlo, h30, hF0, hpa, h31, hF1, hj0, h33, hF3, h32, hF2, h34, hF4, one1, -getM, getM_hit, getM_miss, getM_none]; (repeat (simp (disch := first | omega | assumption | fail) only [if_pos, if_neg, wrap64]; try simp [List.zipIdx, hilI, hg, hgE, tkI, hap, hlo, h30, hF0, hpa, h31, hF1, hj0, h33, hF3, h32, hF2, h34, hF4, one1, -getM, getM_hit, getM_miss, getM_none])))))) | (refine aw_cond (b := _) (by exact rfl) (fun h => ?_) (fun h => ?_) <;> (try simp at h)) | (refine aw_block ?_) | (refine aw_skip ?_; simp only [thenQ, blockQ, if_true]) | (refine aw_exit ?_; simp [thenQ, blockQ]) | (refine aw_ret ?_; simp only [thenQ, blockQ]) | (refine aw_round ?_) | (refine hK _ ?_; clear hK) | (clear hK; refine hK _ ?_; clear hK) | (clear hK; clear hK; refine hK _ ?_; clear hK) | (clear hK; clear hK; clear hK; refine hK _ ?_; clear hK))
                refine ⟨i + 1, ?_, by omega, by omega⟩
                simp only [hsucc]
                refine le_turn (s1 := ?tus3) (m1 := ?tum3) [(851, 449), (852, 450)] [1, 9, 10, 34, 35, 36, 11] [256, 288, 352, 448, 851, 852] ?tua3 ?tub3 ?tuc3 ?tud3 ?tue3 ?tuf3 ?tug3
                case tua3 => first | (simp [keepS]; done) | (simp [keepS]; rfl)
                case tub3 => first | (simp; done) | (simp; rfl)
                case tuc3 => simp
                case tud3 => simp
                case tue3 => simp
                case tuf3 => simp
                case tug3 =>
                  simp [swp, vr]
                  exact le_of2 (by simp) (by simp [AVle, AV.under, AV.underL] <;> omega) (by simp [AOle, AO.under, AV.underL, AV.under] <;> omega)
              · rw [if_neg hpi] at hsucc
                have hji := idxI_neg hpi
                rw [hji] at hF1
                unfold putL' evL at hsucc
                simp only at hsucc
                obtain ⟨d, hd⟩ : ∃ d, d = distL gone p := ⟨_, rfl⟩
                rw [← hd] at hF5 hsucc
                rcases Decidable.em ((ina.length : Int) + act.length = size) with hf | hf
                · rw [if_pos hf] at hsucc
                  simp only at hsucc
                  have hF6 := F26_at gone.length (whenE gone) (gi (ina ++ act) 0) (by omega) (whenE_pl gone)
                  have hF7 := F35_at ina act b (by omega)
                  have hle : ina.tail.length ≤ ina.length := by simp
                  have hle2 : (if ina = [] then act.tail else act).length ≤ act.length := by split <;> simp
                  obtain ⟨ia, hia⟩ : ∃ ia, ia = ina.tail := ⟨_, rfl⟩
                  obtain ⟨ac, hac⟩ : ∃ ac, ac = (if ina = [] then act.tail else act) := ⟨_, rfl⟩
                  rw [← hia, ← hac] at hsucc hF7
                  rw [← hia] at hle
                  rw [← hac] at hle2
                  have hli2 : ia.length ≤ 1073741823 := by omega
                  rcases Decidable.em (0 ≤ d) with hd0 | hd0
                  · rcases Decidable.em (d ≤ (ac.length : Int)) with hd1 | hd1
                    · rw [if_pos ⟨hd0, hd1⟩] at hsucc
                      have hF4 := F34_at ia ac b p (by unfold bigN; omega) (by unfold bigN; omega)
                      repeat' (first | (apply aw_seq_k; intro K hK) | (refine aw_run hc (by first | exact aw_nod | (intro _; rw [ordB_w hw]; kernel_rfl) | (intro _; rw [ordB_w0 hw0]; kernel_rfl) | (intro _; kernel_rfl)) ?_; simp [List.zipIdx, hilI, hg, hgE, tkI, hap, hlo, h30, hF0, hpa, h31, hF1, h25, hF5, hf, h35, hF7, h26, hF6, one1, h14, hd0, hd1, h34, hF4, -getM, getM_hit, getM_miss, getM_none]; (repeat (simp (disch := first | omega | assumption | fail) only [if_pos, if_neg, wrap64]; try simp [List.zipIdx, hilI, hg, hgE, tkI, hap, hlo, h30, hF0, hpa, h31, hF1, h25, hF5, hf, h35, hF7, h26, hF6, one1, h14, hd0, hd1, h34, hF4, -getM, getM_hit, getM_miss, getM_none])); try (repeat' (refine guardQ_split (fun h => ?_) (fun h => ?_) <;> simp at h <;> (simp [List.zipIdx, hilI, hg, hgE, tkI, hap, hlo, h30, hF0, hpa, h31, hF1, h25, hF5, hf, h35, hF7, h26, hF6, one1, h14, hd0, hd1, h34, hF4, -getM, getM_hit, getM_miss, getM_none]; (repeat (simp (disch := first | omega | assumption | fail) only [if_pos, if_neg, wrap64]; try simp [List.zipIdx, hilI, hg, hgE, tkI, hap, hlo, h30, hF0, hpa, h31, hF1, h25, hF5, hf, h35, hF7, h26, hF6, one1, h14, hd0, hd1, h34, hF4, -getM, getM_hit, getM_miss, getM_none])))))) | (refine aw_cond (b := _) (by exact rfl) (fun h => ?_) (fun h => ?_) <;> (try simp at h)) | (refine aw_block ?_) | (refine aw_skip ?_; simp only [thenQ, blockQ, if_true]) | (refine aw_exit ?_; simp [thenQ, blockQ]) | (refine aw_ret ?_; simp only [thenQ, blockQ]) | (refine aw_round ?_) | (refine hK _ ?_; clear hK) | (clear hK; refine hK _ ?_; clear hK) | (clear hK; clear hK; refine hK _ ?_; clear hK) | (clear hK; clear hK; clear hK; refine hK _ ?_; clear hK))
                      refine ⟨i + 1, ?_, by omega, by omega⟩
                      simp only [hsucc, whenE_app]
                      refine le_turn (s1 := ?tus4) (m1 := ?tum4) [(979, 256), (1155, 449), (1156, 450)] [1, 9, 10, 34, 35, 36, 11] [256, 288, 352, 448, 979, 1155, 1156] ?tua4 ?tub4 ?tuc4 ?tud4 ?tue4 ?tuf4 ?tug4
                      case tua4 => first | (simp [keepS]; done) | (simp [keepS]; rfl)
                      case tub4 => first | (simp; done) | (simp; rfl)
                      case tuc4 => simp
                      case tud4 => simp
                      case tue4 => simp
                      case tuf4 => simp
                      case tug4 =>
                        simp [swp, vr]
                        exact le_of2 (by simp) (by simp [AVle, AV.under, AV.underL] <;> omega) (by simp [AOle, AO.under, AV.underL, AV.under] <;> omega)
                    · rw [if_neg (fun h => hd1 h.2)] at hsucc
                      repeat' (first | (apply aw_seq_k; intro K hK) | (refine aw_run hc (by first | exact aw_nod | (intro _; rw [ordB_w hw]; kernel_rfl) | (intro _; rw [ordB_w0 hw0]; kernel_rfl) | (intro _; kernel_rfl)) ?_; simp [List.zipIdx, hilI, hg, hgE, tkI, hap, hlo, h30, hF0, hpa, h31, hF1, h25, hF5, hf, h35, hF7, h26, hF6, one1, h14, hd0, hd1, hli2, -getM, getM_hit, getM_miss, getM_none]; (repeat (simp (disch := first | omega | assumption | fail) only [if_pos, if_neg, wrap64]; try simp [List.zipIdx, hilI, hg, hgE, tkI, hap, hlo, h30, hF0, hpa, h31, hF1, h25, hF5, hf, h35, hF7, h26, hF6, one1, h14, hd0, hd1, hli2, -getM, getM_hit, getM_miss, getM_none])); try (repeat' (refine guardQ_split (fun h => ?_) (fun h => ?_) <;> simp at h <;> (simp [List.zipIdx, hilI, hg, hgE, tkI, hap, hlo, h30, hF0, hpa, h31, hF1, h25, hF5, hf, h35, hF7, h26, hF6, one1, h14, hd0, hd1, hli2, -getM, getM_hit, getM_miss, getM_none]; (repeat (simp (disch := first | omega | assumption | fail) only [if_pos, if_neg, wrap64]; try simp [List.zipIdx, hilI, hg, hgE, tkI, hap, hlo, h30, hF0, hpa, h31, hF1, h25, hF5, hf, h35, hF7, h26, hF6, one1, h14, hd0, hd1, hli2, -getM, getM_hit, getM_miss, getM_none])))))) | (refine aw_cond (b := _) (by exact rfl) (fun h => ?_) (fun h => ?_) <;> (try simp at h)) | (refine aw_block ?_) | (refine aw_skip ?_; simp only [thenQ, blockQ, if_true]) | (refine aw_exit ?_; simp [thenQ, blockQ]) | (refine aw_ret ?_; simp only [thenQ, blockQ]) | (refine aw_round ?_) | (refine hK _ ?_; clear hK) | (clear hK; refine hK _ ?_; clear hK) | (clear hK; clear hK; refine hK _ ?_; clear hK) | (clear hK; clear hK; clear hK; refine hK _ ?_; clear hK))
                      refine ⟨i + 1, ?_, by omega, by omega⟩
                      simp only [hsucc, whenE_app]
                      refine le_turn (s1 := ?tus5) (m1 := ?tum5) [(979, 256), (963, 449), (964, 450)] [1, 9, 10, 34, 35, 36, 11] [256, 288, 352, 448, 979, 963, 964] ?tua5 ?tub5 ?tuc5 ?tud5 ?tue5 ?tuf5 ?tug5
                      case tua5 => first | (simp [keepS]; done) | (simp [keepS]; rfl)
                      case tub5 => first | (simp; done) | (simp; rfl)
                      case tuc5 => simp
                      case tud5 => simp
                      case tue5 => simp
                      case tuf5 => simp
                      case tug5 =>
                        simp [swp, vr]
                        exact le_of2 (by simp) (by simp [AVle, AV.under, AV.underL] <;> omega) (by simp [AOle, AO.under, AV.underL, AV.under] <;> omega)
                  · rw [if_neg (fun h => hd0 h.1)] at hsucc
                    repeat' (first | (apply aw_seq_k; intro K hK) | (refine aw_run hc (by first | exact aw_nod | (intro _; rw [ordB_w hw]; kernel_rfl) | (intro _; rw [ordB_w0 hw0]; kernel_rfl) | (intro _; kernel_rfl)) ?_; simp [List.zipIdx, hilI, hg, hgE, tkI, hap, hlo, h30, hF0, hpa, h31, hF1, h25, hF5, hf, h35, hF7, h26, hF6, one1, hd0, hli2, -getM, getM_hit, getM_miss, getM_none]; (repeat (simp (disch := first | omega | assumption | fail) only [if_pos, if_neg, wrap64]; try simp [List.zipIdx, hilI, hg, hgE, tkI, hap, hlo, h30, hF0, hpa, h31, hF1, h25, hF5, hf, h35, hF7, h26, hF6, one1, hd0, hli2, -getM, getM_hit, getM_miss, getM_none])); try (repeat' (refine guardQ_split (fun h => ?_) (fun h => ?_) <;> simp at h <;> (simp [List.zipIdx, hilI, hg, hgE, tkI, hap, hlo, h30, hF0, hpa, h31, hF1, h25, hF5, hf, h35, hF7, h26, hF6, one1, hd0, hli2, -getM, getM_hit, getM_miss, getM_none]; (repeat (simp (disch := first | omega | assumption | fail) only [if_pos, if_neg, wrap64]; try simp [List.zipIdx, hilI, hg, hgE, tkI, hap, hlo, h30, hF0, hpa, h31, hF1, h25, hF5, hf, h35, hF7, h26, hF6, one1, hd0, hli2, -getM, getM_hit, getM_miss, getM_none])))))) | (refine aw_cond (b := _) (by exact rfl) (fun h => ?_) (fun h => ?_) <;> (try simp at h)) | (refine aw_block ?_) | (refine aw_skip ?_; simp only [thenQ, blockQ, if_true]) | (refine aw_exit ?_; simp [thenQ, blockQ]) | (refine aw_ret ?_; simp only [thenQ, blockQ]) | (refine aw_round ?_) | (refine hK _ ?_; clear hK) | (clear hK; refine hK _ ?_; clear hK) | (clear hK; clear hK; refine hK _ ?_; clear hK) | (clear hK; clear hK; clear hK; refine hK _ ?_; clear hK))
                    refine ⟨i + 1, ?_, by omega, by omega⟩
                    simp only [hsucc, whenE_app]
                    refine le_turn (s1 := ?tus6) (m1 := ?tum6) [(979, 256), (963, 449), (964, 450)] [1, 9, 10, 34, 35, 36, 11] [256, 288, 352, 448, 979, 963, 964] ?tua6 ?tub6 ?tuc6 ?tud6 ?tue6 ?tuf6 ?tug6
                    case tua6 => first | (simp [keepS]; done) | (simp [keepS]; rfl)
                    case tub6 => first | (simp; done) | (simp; rfl)
                    case tuc6 => simp
                    case tud6 => simp
                    case tue6 => simp
                    case tuf6 => simp
                    case tug6 =>
                      simp [swp, vr]
                      exact le_of2 (by simp) (by simp [AVle, AV.under, AV.underL] <;> omega) (by simp [AOle, AO.under, AV.underL, AV.under] <;> omega)
                · rw [if_neg hf] at hsucc
                  simp only at hsucc
                  have hli2 : ina.length ≤ 1073741823 := by omega
                  rcases Decidable.em (0 ≤ d) with hd0 | hd0
                  · rcases Decidable.em (d ≤ (act.length : Int)) with hd1 | hd1
                    · rw [if_pos ⟨hd0, hd1⟩] at hsucc
                      have hF4 := F34_at ina act b p (by unfold bigN; omega) (by unfold bigN; omega)
                      repeat' (first | (apply aw_seq_k; intro K hK) | (refine aw_run hc (by first | exact aw_nod | (intro _; rw [ordB_w hw]; kernel_rfl) | (intro _; rw [ordB_w0 hw0]; kernel_rfl) | (intro _; kernel_rfl)) ?_; simp [List.zipIdx, hilI, hg, hgE, tkI, hap, hlo, h30, hF0, hpa, h31, hF1, h25, hF5, hf, one1, h14, hd0, hd1, h34, hF4, -getM, getM_hit, getM_miss, getM_none]; (repeat (simp (disch := first | omega | assumption | fail) only [if_pos, if_neg, wrap64]; try simp [List.zipIdx, hilI, hg, hgE, tkI, hap, hlo, h30, hF0, hpa, h31, hF1, h25, hF5, hf, one1, h14, hd0, hd1, h34, hF4, -getM, getM_hit, getM_miss, getM_none])); try (repeat' (refine guardQ_split (fun h => ?_) (fun h => ?_) <;> simp at h <;> (simp [List.zipIdx, hilI, hg, hgE, tkI, hap, hlo, h30, hF0, hpa, h31, hF1, h25, hF5, hf, one1, h14, hd0, hd1, h34, hF4, -getM, getM_hit, getM_miss, getM_none]; (repeat (simp (disch := first | omega | assumption | fail) only [if_pos, if_neg, wrap64]; try simp [List.zipIdx, hilI, hg, hgE, tkI, hap, hlo, h30, hF0, hpa, h31, hF1, h25, hF5, hf, one1, h14, hd0, hd1, h34, hF4, -getM, getM_hit, getM_miss, getM_none])))))) | (refine aw_cond (b := _) (by exact rfl) (fun h => ?_) (fun h => ?_) <;> (try simp at h)) | (refine aw_block ?_) | (refine aw_skip ?_; simp only [thenQ, blockQ, if_true]) | (refine aw_exit ?_; simp [thenQ, blockQ]) | (refine aw_ret ?_; simp only [thenQ, blockQ]) | (refine aw_round ?_) | (refine hK _ ?_; clear hK) | (clear hK; refine hK _ ?_; clear hK) | (clear hK; clear hK; refine hK _ ?_; clear hK) | (clear hK; clear hK; clear hK; refine hK _ ?_; clear hK))
                      refine ⟨i + 1, ?_, by omega, by omega⟩
                      simp only [hsucc]
                      refine le_turn (s1 := ?tus7) (m1 := ?tum7) [(1123, 449), (1124, 450)] [1, 9, 10, 34, 35, 36, 11] [256, 288, 352, 448, 1123, 1124] ?tua7 ?tub7 ?tuc7 ?tud7 ?tue7 ?tuf7 ?tug7
                      case tua7 => first | (simp [keepS]; done) | (simp [keepS]; rfl)
                      case tub7 => first | (simp; done) | (simp; rfl)
                      case tuc7 => simp
                      case tud7 => simp
                      case tue7 => simp
                      case tuf7 => simp
                      case tug7 =>
                        simp [swp, vr]
                        exact le_of2 (by simp) (by simp [AVle, AV.under, AV.underL] <;> omega) (by simp [AOle, AO.under, AV.underL, AV.under] <;> omega)
                    · rw [if_neg (fun h => hd1 h.2)] at hsucc
                      repeat' (first | (apply aw_seq_k; intro K hK) | (refine aw_run hc (by first | exact aw_nod | (intro _; rw [ordB_w hw]; kernel_rfl) | (intro _; rw [ordB_w0 hw0]; kernel_rfl) | (intro _; kernel_rfl)) ?_; simp [List.zipIdx, hilI, hg, hgE, tkI, hap, hlo, h30, hF0, hpa, h31, hF1, h25, hF5, hf, one1, h14, hd0, hd1, hli2, -getM, getM_hit, getM_miss, getM_none]; (repeat (simp (disch := first | omega | assumption | fail) only [if_pos, if_neg, wrap64]; try simp [List.zipIdx, hilI, hg, hgE, tkI, hap, hlo, h30, hF0, hpa, h31, hF1, h25, hF5, hf, one1, h14, hd0, hd1, hli2, -getM, getM_hit, getM_miss, getM_none])); try (repeat' (refine guardQ_split (fun h => ?_) (fun h => ?_) <;> simp at h <;> (simp [List.zipIdx, hilI, hg, hgE, tkI, hap, hlo, h30, hF0, hpa, h31, hF1, h25, hF5, hf, one1, h14, hd0, hd1, hli2, -getM, getM_hit, getM_miss, getM_none]; (repeat (simp (disch := first | omega | assumption | fail) only [if_pos, if_neg, wrap64]; try simp [List.zipIdx, hilI, hg, hgE, tkI, hap, hlo, h30, hF0, hpa, h31, hF1, h25, hF5, hf, one1, h14, hd0, hd1, hli2, -getM, getM_hit, getM_miss, getM_none])))))) | (refine aw_cond (b := _) (by exact rfl) (fun h => ?_) (fun h => ?_) <;> (try simp at h)) | (refine aw_block ?_) | (refine aw_skip ?_; simp only [thenQ, blockQ, if_true]) | (refine aw_exit ?_; simp [thenQ, blockQ]) | (refine aw_ret ?_; simp only [thenQ, blockQ]) | (refine aw_round ?_) | (refine hK _ ?_; clear hK) | (clear hK; refine hK _ ?_; clear hK) | (clear hK; clear hK; refine hK _ ?_; clear hK) | (clear hK; clear hK; clear hK; refine hK _ ?_; clear hK))
                      refine ⟨i + 1, ?_, by omega, by omega⟩
                      simp only [hsucc]
                      refine le_turn (s1 := ?tus8) (m1 := ?tum8) [] [1, 9, 10, 34, 35, 36, 11] [256, 288, 352, 448, 449, 450] ?tua8 ?tub8 ?tuc8 ?tud8 ?tue8 ?tuf8 ?tug8
                      case tua8 => first | (simp [keepS]; done) | (simp [keepS]; rfl)
                      case tub8 => first | (simp; done) | (simp; rfl)
                      case tuc8 => simp
                      case tud8 => simp
                      case tue8 => simp
                      case tuf8 => simp
                      case tug8 =>
                        simp [swp, vr]
                        exact le_of2 (by simp) (by simp [AVle, AV.under, AV.underL] <;> omega) (by simp [AOle, AO.under, AV.underL, AV.under] <;> omega)
                  · rw [if_neg (fun h => hd0 h.1)] at hsucc
                    repeat' (first | (apply aw_seq_k; intro K hK) | (refine aw_run hc (by first | exact aw_nod | (intro _; rw [ordB_w hw]; kernel_rfl) | (intro _; rw [ordB_w0 hw0]; kernel_rfl) | (intro _; kernel_rfl)) ?_; simp [List.zipIdx, hilI, hg, hgE, tkI, hap, hlo, h30, hF0, hpa, h31, hF1, h25, hF5, hf, one1, hd0, hli2, -getM, getM_hit, getM_miss, getM_none]; (repeat (simp (disch := first | omega | assumption | fail) only [if_pos, if_neg, wrap64]; try simp [List.zipIdx, hilI, hg, hgE, tkI, hap, hlo, h30, hF0, hpa, h31, hF1, h25, hF5, hf, one1, hd0, hli2, -getM, getM_hit, getM_miss, getM_none])); try (repeat' (refine guardQ_split (fun h => ?_) (fun h => ?_) <;> simp at h <;> (simp [List.zipIdx, hilI, hg, hgE, tkI, hap, hlo, h30, hF0, hpa, h31, hF1, h25, hF5, hf, one1, hd0, hli2, -getM, getM_hit, getM_miss, getM_none]; (repeat (simp (disch := first | omega | assumption | fail) only [if_pos, if_neg, wrap64]; try simp [List.zipIdx, hilI, hg, hgE, tkI, hap, hlo, h30, hF0, hpa, h31, hF1, h25, hF5, hf, one1, hd0, hli2, -getM, getM_hit, getM_miss, getM_none])))))) | (refine aw_cond (b := _) (by exact rfl) (fun h => ?_) (fun h => ?_) <;> (try simp at h)) | (refine aw_block ?_) | (refine aw_skip ?_; simp only [thenQ, blockQ, if_true]) | (refine aw_exit ?_; simp [thenQ, blockQ]) | (refine aw_ret ?_; simp only [thenQ, blockQ]) | (refine aw_round ?_) | (refine hK _ ?_; clear hK) | (clear hK; refine hK _ ?_; clear hK) | (clear hK; clear hK; refine hK _ ?_; clear hK) | (clear hK; clear hK; clear hK; refine hK _ ?_; clear hK))
                    refine ⟨i + 1, ?_, by omega, by omega⟩
                    simp only [hsucc]
                    refine le_turn (s1 := ?tus9) (m1 := ?tum9) [] [1, 9, 10, 34, 35, 36, 11] [256, 288, 352, 448, 449, 450] ?tua9 ?tub9 ?tuc9 ?tud9 ?tue9 ?tuf9 ?tug9
                    case tua9 => first | (simp [keepS]; done) | (simp [keepS]; rfl)
                    case tub9 => first | (simp; done) | (simp; rfl)
                    case tuc9 => simp
                    case tud9 => simp
                    case tue9 => simp
                    case tuf9 => simp
                    case tug9 =>
                      simp [swp, vr]
                      exact le_of2 (by simp) (by simp [AVle, AV.under, AV.underL] <;> omega) (by simp [AOle, AO.under, AV.underL, AV.under] <;> omega)
          · obtain rfl : i = l.length := by omega
            repeat' (first | (apply aw_seq_k; intro K hK) | (refine aw_run hc (by first | exact aw_nod | (intro _; rw [ordB_w hw]; kernel_rfl) | (intro _; rw [ordB_w0 hw0]; kernel_rfl) | (intro _; kernel_rfl)) ?_; simp [List.zipIdx, -getM, getM_hit, getM_miss, getM_none]; (repeat (simp (disch := first | omega | assumption | fail) only [if_pos, if_neg, wrap64]; try simp [List.zipIdx, -getM, getM_hit, getM_miss, getM_none])); try (repeat' (refine guardQ_split (fun h => ?_) (fun h => ?_) <;> simp at h <;> (simp [List.zipIdx, -getM, getM_hit, getM_miss, getM_none]; (repeat (simp (disch := first | omega | assumption | fail) only [if_pos, if_neg, wrap64]; try simp [List.zipIdx, -getM, getM_hit, getM_miss, getM_none])))))) | (refine aw_cond (b := _) (by exact rfl) (fun h => ?_) (fun h => ?_) <;> (try simp at h)) | (refine aw_block ?_) | (refine aw_skip ?_; simp only [thenQ, blockQ, if_true]) | (refine aw_exit ?_; simp [thenQ, blockQ]) | (refine aw_ret ?_; simp only [thenQ, blockQ]) | (refine aw_round ?_) | (refine hK _ ?_; clear hK) | (clear hK; refine hK _ ?_; clear hK) | (clear hK; clear hK; refine hK _ ?_; clear hK) | (clear hK; clear hK; clear hK; refine hK _ ?_; clear hK))
            refine ⟨by simp, ?_⟩
            simp [leaves_iff, Try.f19, hs, tkI]
            try (first | omega | (refine decide_eq_decide.2 ?_; omega) | (refine decide_eq_false ?_; omega) | (refine decide_eq_true ?_; omega))
  · have hE : lisE l.length size b = errS l.length size := by unfold lisE; rw [if_neg h]
    rw [hE, if_neg h]
    repeat' (first | (apply aw_seq_k; intro K hK) | (refine aw_run hc (by first | exact aw_nod | (intro _; rw [ordB_w hw]; kernel_rfl) | (intro _; rw [ordB_w0 hw0]; kernel_rfl) | (intro _; kernel_rfl)) ?_; simp [List.zipIdx, h24, h, -getM, getM_hit, getM_miss, getM_none]; (repeat (simp (disch := first | omega | assumption | fail) only [if_pos, if_neg, wrap64]; try simp [List.zipIdx, h24, h, -getM, getM_hit, getM_miss, getM_none])); try (repeat' (refine guardQ_split (fun h => ?_) (fun h => ?_) <;> simp at h <;> (simp [List.zipIdx, h24, h, -getM, getM_hit, getM_miss, getM_none]; (repeat (simp (disch := first | omega | assumption | fail) only [if_pos, if_neg, wrap64]; try simp [List.zipIdx, h24, h, -getM, getM_hit, getM_miss, getM_none])))))) | (refine aw_cond (b := _) (by exact rfl) (fun h => ?_) (fun h => ?_) <;> (try simp at h)) | (refine aw_block ?_) | (refine aw_skip ?_; simp only [thenQ, blockQ, if_true]) | (refine aw_exit ?_; simp [thenQ, blockQ]) | (refine aw_ret ?_; simp only [thenQ, blockQ]) | (refine aw_round ?_) | (refine hK _ ?_; clear hK) | (clear hK; refine hK _ ?_; clear hK) | (clear hK; clear hK; refine hK _ ?_; clear hK) | (clear hK; clear hK; clear hK; refine hK _ ?_; clear hK))
    refine ⟨by simp, ?_⟩
    simp [leaves_iff, Try.f19]
    try (first | omega | (refine decide_eq_decide.2 ?_; omega) | (refine decide_eq_false ?_; omega) | (refine decide_eq_true ?_; omega))
end Go.AM
