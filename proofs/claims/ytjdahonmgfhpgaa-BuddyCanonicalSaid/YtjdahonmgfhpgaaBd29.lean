/- buddy.Alloc. -/
import Derived.Test.YtjdahonmgfhpgaaBd26
import Derived.Test.YtjdahonmgfhpgaaBd21
set_option linter.all false

namespace Go.AM
open Go Go.Proofs

theorem irows_cons {x : Int} {l : List Int} : irows (x :: l) = [I x] :: irows l := rfl

set_option maxRecDepth 20000 in
set_option maxHeartbeats 4000000 in
theorem s21 (X : AX) (hX : XOK Try.prog X) (hw : X.W wT) (h16 : ∀ z M n, small z → X.call 16 [.agg z.cells] M n = some (I (checkZ z), [])) (h43 : X.call 43 = callP F43) (h50 : X.call 50 = callP F50) (h51 : X.call 51 = callM false one1 insF) :
    PSound Try.prog 21 (specF (ι := {x : Zn × Int // small x.1}) (fun x => [.agg x.1.1.cells, I x.1.2]) fun x => retOf [.agg (allocR x.1.1 x.1.2).1.ocells, I (allocR x.1.1 x.1.2).2.1, I (allocR x.1.1 x.1.2).2.2]) := by
  refine psound_spec hX mixed Try.func21 rfl fun ⟨⟨z, o⟩, hz⟩ w0 G => ⟨by show 2 ≤ 90; decide, rfl, ?_⟩
  show AW ⟨Try.prog, X, 90, w0, .pure G⟩ _ _ _
  have hc : Cx.OK ⟨Try.prog, X, 90, w0, .pure G⟩ := ⟨hX, mixed⟩
  simp only at hz ⊢
  have h16z := fun M n => h16 z M n hz
  rcases Decidable.em (checkZ z = 0) with hc0 | hc0
  · obtain ⟨hr, hv⟩ := check_parts hc0
    rcases Decidable.em (0 ≤ o ∧ o ≤ 4) with ho | ho
    · obtain ⟨o, rfl⟩ := Int.eq_ofNat_of_zero_le ho.1
      have ho4 : o ≤ 4 := by omega
      have ho1 : ¬ (4 : Int) < (o : Int) := by omega
      have ho2 : ¬ (o : Int) < 0 := by omega
      repeat' (first | (apply aw_seq_k; intro K hK) | (refine aw_run hc (by first | exact aw_nod | (intro _; rw [ordB_w hw]; kernel_rfl) | (intro _; kernel_rfl)) ?_; simp [List.zipIdx, h16z, hc0, ho1, ho2, -getM, getM_hit, getM_miss, getM_none]; (repeat (simp (disch := first | omega | assumption | fail) only [if_pos, if_neg, wrap64]; try simp [List.zipIdx, h16z, hc0, ho1, ho2, -getM, getM_hit, getM_miss, getM_none])); try (repeat' (refine guardQ_split (fun h => ?_) (fun h => ?_) <;> simp at h <;> (simp [List.zipIdx, h16z, hc0, ho1, ho2, -getM, getM_hit, getM_miss, getM_none]; (repeat (simp (disch := first | omega | assumption | fail) only [if_pos, if_neg, wrap64]; try simp [List.zipIdx, h16z, hc0, ho1, ho2, -getM, getM_hit, getM_miss, getM_none])))))) | (refine aw_cond (b := _) (by exact rfl) (fun h => ?_) (fun h => ?_) <;> (try simp at h)) | (refine aw_block ?_) | (refine aw_skip ?_; simp only [thenQ, blockQ, if_true]) | (refine aw_exit ?_; simp [thenQ, blockQ]) | (refine aw_ret ?_; simp only [thenQ, blockQ]) | (refine aw_round ?_) | (refine hK _ ?_; clear hK) | (clear hK; refine hK _ ?_; clear hK) | (clear hK; clear hK; refine hK _ ?_; clear hK) | (clear hK; clear hK; clear hK; refine hK _ ?_; clear hK))
      refine aw_loopK (s0 := ?lps1) (m0 := ?lpm1) (ι := {k : Nat // o ≤ k ∧ k ≤ 5 ∧ ∀ j, o ≤ j → j < k → z.fr j = []}) [1, 2, 4] (fun k => [(8, I k.1)]) (fun _ => []) (fun k => 5 - k.1) ⟨o, by omega, by omega, fun j h1 h2 => by omega⟩ ?lhs1 ?lhm1 ?_ ?_
      case lhs1 => first | (simp [keepS]; done) | (simp [keepS]; rfl)
      case lhm1 => first | rfl | (simp; done) | (simp; rfl)
      · exact le_of2 (by simp) (by simp [AVle, AV.under, AV.underL] <;> omega) (by simp [AOle, AO.under, AV.underL, AV.under] <;> omega)
      · rintro ⟨k, hok, hk, hlow⟩
        simp only
        rcases Decidable.em (k ≤ 4) with hk4 | hk4
        · have hki : (k : Int) ≤ 4 := by omega
          rcases Decidable.em ((z.fr k).length = 0) with hlen | hlen
          · have hlen0 : z.fr k = [] := List.eq_nil_of_length_eq_zero (by omega)
            repeat' (first | (apply aw_seq_k; intro K hK) | (refine aw_run hc (by first | exact aw_nod | (intro _; rw [ordB_w hw]; kernel_rfl) | (intro _; kernel_rfl)) ?_; simp [List.zipIdx, Zn.cf hk4, hki, hlen, -getM, getM_hit, getM_miss, getM_none]; (repeat (simp (disch := first | omega | assumption | fail) only [if_pos, if_neg, wrap64]; try simp [List.zipIdx, Zn.cf hk4, hki, hlen, -getM, getM_hit, getM_miss, getM_none])); try (repeat' (refine guardQ_split (fun h => ?_) (fun h => ?_) <;> simp at h <;> (simp [List.zipIdx, Zn.cf hk4, hki, hlen, -getM, getM_hit, getM_miss, getM_none]; (repeat (simp (disch := first | omega | assumption | fail) only [if_pos, if_neg, wrap64]; try simp [List.zipIdx, Zn.cf hk4, hki, hlen, -getM, getM_hit, getM_miss, getM_none])))))) | (refine aw_cond (b := _) (by exact rfl) (fun h => ?_) (fun h => ?_) <;> (try simp at h)) | (refine aw_block ?_) | (refine aw_skip ?_; simp only [thenQ, blockQ, if_true]) | (refine aw_exit ?_; simp [thenQ, blockQ]) | (refine aw_ret ?_; simp only [thenQ, blockQ]) | (refine aw_round ?_) | (refine hK _ ?_; clear hK) | (clear hK; refine hK _ ?_; clear hK) | (clear hK; clear hK; refine hK _ ?_; clear hK) | (clear hK; clear hK; clear hK; refine hK _ ?_; clear hK))
            refine ⟨k + 1, ?_, ⟨by omega, by omega, fun j h1 h2 => ?_⟩, by omega⟩
            · exact le_of2 (by simp) (by simp [AVle, AV.under, AV.underL] <;> omega) (by simp [AOle, AO.under, AV.underL, AV.under] <;> omega)
            · by_cases e : j = k
              · rw [e]; exact hlen0
              · exact hlow j h1 (by omega)
          · obtain ⟨f, l, hfl⟩ : ∃ f l, z.fr k = f :: l := by
              cases h : z.fr k with
              | nil => rw [h] at hlen; simp at hlen
              | cons f l => exact ⟨f, l, rfl⟩
            have hal := alloc_split hc0 hok hk4 hfl hlow
            have hfm : f ∈ z.fr k := by rw [hfl]; simp
            have hb := inside_bounds hr (hv.inside k f hk4 hfm)
            have hpk : (1 : Int) ≤ 2 ^ k := pow_pos'
            obtain ⟨t1, t2⟩ := tail_ok (hv.sorted k hk4) hfl
            have hsi := SplitInv.start (x := f) (o := o) hv hk4 hok hfm t1 t2 (Int.le_refl _) (by omega)
            have hl5 : l.length ≤ 1000 := by have := hz k hk4; rw [hfl] at this; simp at this; omega
            have h50z := F50_at hz
            have hln : ¬ ((l.length : Int) + 1 = 0) := by omega
            obtain ⟨T, hT⟩ : ∃ T, T = splitX (k - o) (z.set k l) f k f := ⟨_, rfl⟩
            rw [← hT] at hsi hal
            have hT2 : T.2 = f := by rw [hT]; exact split_first _
            rcases le4 hk4 with rfl | rfl | rfl | rfl | rfl
            · have hfk : z.f0 = f :: l := hfl
              have hcz : z.cells[5 + 0]? = some (.rd 1 (irows (f :: l))) := by rw [← hfk]; rfl
              simp only [Nat.reduceAdd] at hcz
              repeat' (first | (apply aw_seq_k; intro K hK) | (refine aw_run hc (by first | exact aw_nod | (intro _; rw [ordB_w hw]; kernel_rfl) | (intro _; kernel_rfl)) ?_; simp [List.zipIdx, hcz, hln, h50, h50z, hfk, irows_cons, Zn.ocells, -getM, getM_hit, getM_miss, getM_none]; (repeat (simp (disch := first | omega | assumption | fail) only [if_pos, if_neg, wrap64]; try simp [List.zipIdx, hcz, hln, h50, h50z, hfk, irows_cons, Zn.ocells, -getM, getM_hit, getM_miss, getM_none])); try (repeat' (refine guardQ_split (fun h => ?_) (fun h => ?_) <;> simp at h <;> (simp [List.zipIdx, hcz, hln, h50, h50z, hfk, irows_cons, Zn.ocells, -getM, getM_hit, getM_miss, getM_none]; (repeat (simp (disch := first | omega | assumption | fail) only [if_pos, if_neg, wrap64]; try simp [List.zipIdx, hcz, hln, h50, h50z, hfk, irows_cons, Zn.ocells, -getM, getM_hit, getM_miss, getM_none])))))) | (refine aw_cond (b := _) (by exact rfl) (fun h => ?_) (fun h => ?_) <;> (try simp at h)) | (refine aw_block ?_) | (refine aw_skip ?_; simp only [thenQ, blockQ, if_true]) | (refine aw_exit ?_; simp [thenQ, blockQ]) | (refine aw_ret ?_; simp only [thenQ, blockQ]) | (refine aw_round ?_) | (refine hK _ ?_; clear hK) | (clear hK; refine hK _ ?_; clear hK) | (clear hK; clear hK; refine hK _ ?_; clear hK) | (clear hK; clear hK; clear hK; refine hK _ ?_; clear hK))
              refine aw_loopK (s0 := ?lps2) (m0 := ?lpm2) (ι := {p : Zn × Nat // SplitInv z f o T p.1 f p.2 ∧ p.2 ≤ 0 ∧ p.1.f0 = l}) [1, 4, 9, 10] (fun p => [(8, I p.1.2)]) (fun p => [(496, .box [I z.node, I z.kind, I z.start, I z.count, I z.least, .sl 480 1 1 1 l.length, .sl 481 1 1 0 p.1.1.f1.length, .sl 482 1 1 0 p.1.1.f2.length, .sl 483 1 1 0 p.1.1.f3.length, .sl 484 1 1 0 p.1.1.f4.length]), (480, .vec 1 1 false ([I f] :: irows l)), (481, .vec 1 1 false (irows p.1.1.f1)), (482, .vec 1 1 false (irows p.1.1.f2)), (483, .vec 1 1 false (irows p.1.1.f3)), (484, .vec 1 1 false (irows p.1.1.f4))]) (fun p => p.1.2) ⟨(z.set 0 l, 0), hsi, by omega, rfl⟩ ?lhs2 ?lhm2 ?_ ?_
              case lhs2 => first | (simp [keepS]; done) | (simp [keepS]; rfl)
              case lhm2 => first | rfl | (simp; done) | (simp; rfl)
              · simp only [Zn.set]
                exact le_of2 (by simp) (by simp [AVle, AV.under, AV.underL] <;> omega) (by simp [AOle, AO.under, AV.underL, AV.under] <;> omega)
              · rintro ⟨⟨y, k⟩, hi, hkK, hyl⟩
                simp only at hi hkK hyl ⊢
                have hys := hi.small hr
                rcases Decidable.em (o < k) with hko | hko
                · omega
                · have hok2 := hi.ok
                  obtain rfl : k = o := by omega
                  have hkoI : ¬ ((k : Int) < (k : Int)) := by omega
                  have hd := hi.done
                  rw [hd] at hal
                  have hys := hi.same
                  unfold sameP at hys
                  repeat' (first | (apply aw_seq_k; intro K hK) | (refine aw_run hc (by first | exact aw_nod | (intro _; rw [ordB_w hw]; kernel_rfl) | (intro _; kernel_rfl)) ?_; simp [List.zipIdx, hkoI, -getM, getM_hit, getM_miss, getM_none]; (repeat (simp (disch := first | omega | assumption | fail) only [if_pos, if_neg, wrap64]; try simp [List.zipIdx, hkoI, -getM, getM_hit, getM_miss, getM_none])); try (repeat' (refine guardQ_split (fun h => ?_) (fun h => ?_) <;> simp at h <;> (simp [List.zipIdx, hkoI, -getM, getM_hit, getM_miss, getM_none]; (repeat (simp (disch := first | omega | assumption | fail) only [if_pos, if_neg, wrap64]; try simp [List.zipIdx, hkoI, -getM, getM_hit, getM_miss, getM_none])))))) | (refine aw_cond (b := _) (by exact rfl) (fun h => ?_) (fun h => ?_) <;> (try simp at h)) | (refine aw_block ?_) | (refine aw_skip ?_; simp only [thenQ, blockQ, if_true]) | (refine aw_exit ?_; simp [thenQ, blockQ]) | (refine aw_ret ?_; simp only [thenQ, blockQ]) | (refine aw_round ?_) | (refine hK _ ?_; clear hK) | (clear hK; refine hK _ ?_; clear hK) | (clear hK; clear hK; refine hK _ ?_; clear hK) | (clear hK; clear hK; clear hK; refine hK _ ?_; clear hK))
                  refine ⟨by simp, ?_⟩
                  simp [leaves_iff, Try.f21, hal, Zn.ocells, take_irows, hys, hyl, show 1 + l.length ≤ l.length + 1 by omega]
                  try (first | omega | (refine decide_eq_decide.2 ?_; omega) | (refine decide_eq_false ?_; omega) | (refine decide_eq_true ?_; omega))
            · have hfk : z.f1 = f :: l := hfl
              have hcz : z.cells[5 + 1]? = some (.rd 1 (irows (f :: l))) := by rw [← hfk]; rfl
              simp only [Nat.reduceAdd] at hcz
              repeat' (first | (apply aw_seq_k; intro K hK) | (refine aw_run hc (by first | exact aw_nod | (intro _; rw [ordB_w hw]; kernel_rfl) | (intro _; kernel_rfl)) ?_; simp [List.zipIdx, hcz, hln, h50, h50z, hfk, irows_cons, Zn.ocells, -getM, getM_hit, getM_miss, getM_none]; (repeat (simp (disch := first | omega | assumption | fail) only [if_pos, if_neg, wrap64]; try simp [List.zipIdx, hcz, hln, h50, h50z, hfk, irows_cons, Zn.ocells, -getM, getM_hit, getM_miss, getM_none])); try (repeat' (refine guardQ_split (fun h => ?_) (fun h => ?_) <;> simp at h <;> (simp [List.zipIdx, hcz, hln, h50, h50z, hfk, irows_cons, Zn.ocells, -getM, getM_hit, getM_miss, getM_none]; (repeat (simp (disch := first | omega | assumption | fail) only [if_pos, if_neg, wrap64]; try simp [List.zipIdx, hcz, hln, h50, h50z, hfk, irows_cons, Zn.ocells, -getM, getM_hit, getM_miss, getM_none])))))) | (refine aw_cond (b := _) (by exact rfl) (fun h => ?_) (fun h => ?_) <;> (try simp at h)) | (refine aw_block ?_) | (refine aw_skip ?_; simp only [thenQ, blockQ, if_true]) | (refine aw_exit ?_; simp [thenQ, blockQ]) | (refine aw_ret ?_; simp only [thenQ, blockQ]) | (refine aw_round ?_) | (refine hK _ ?_; clear hK) | (clear hK; refine hK _ ?_; clear hK) | (clear hK; clear hK; refine hK _ ?_; clear hK) | (clear hK; clear hK; clear hK; refine hK _ ?_; clear hK))
              refine aw_loopK (s0 := ?lps3) (m0 := ?lpm3) (ι := {p : Zn × Nat // SplitInv z f o T p.1 f p.2 ∧ p.2 ≤ 1 ∧ p.1.f1 = l}) [1, 4, 9, 10] (fun p => [(8, I p.1.2)]) (fun p => [(496, .box [I z.node, I z.kind, I z.start, I z.count, I z.least, .sl 480 1 1 0 p.1.1.f0.length, .sl 481 1 1 1 l.length, .sl 482 1 1 0 p.1.1.f2.length, .sl 483 1 1 0 p.1.1.f3.length, .sl 484 1 1 0 p.1.1.f4.length]), (480, .vec 1 1 false (irows p.1.1.f0)), (481, .vec 1 1 false ([I f] :: irows l)), (482, .vec 1 1 false (irows p.1.1.f2)), (483, .vec 1 1 false (irows p.1.1.f3)), (484, .vec 1 1 false (irows p.1.1.f4))]) (fun p => p.1.2) ⟨(z.set 1 l, 1), hsi, by omega, rfl⟩ ?lhs3 ?lhm3 ?_ ?_
              case lhs3 => first | (simp [keepS]; done) | (simp [keepS]; rfl)
              case lhm3 => first | rfl | (simp; done) | (simp; rfl)
              · simp only [Zn.set]
                exact le_of2 (by simp) (by simp [AVle, AV.under, AV.underL] <;> omega) (by simp [AOle, AO.under, AV.underL, AV.under] <;> omega)
              · rintro ⟨⟨y, k⟩, hi, hkK, hyl⟩
                simp only at hi hkK hyl ⊢
                have hys := hi.small hr
                rcases Decidable.em (o < k) with hko | hko
                · rcases (show k = 1 by omega) with rfl
                  · have hoj : (o : Int) < 1 := by omega
                    have hl0 : y.f0.length ≤ 1000000 := by have : y.f0.length ≤ 1000 := hys 0 (by omega); omega
                    have hbb := inside_bounds (hi.same.ranges.2 hr) hi.inside
                    have h43z := F43_at (x := f + 1) (hi.valid.sorted 0 (by omega)) hl0
                    have h51z := insF_at (x := f + 1) hl0
                    have hlow := hi.low (show o ≤ 0 by omega) (by have := pow_pos' (k := 0); omega)
                    simp only [Zn.fr, List.getD_cons_zero, List.getD_cons_succ] at h43z
                    simp only [show ((2 : Int) ^ 0) = 1 from rfl, Zn.fr, List.getD_cons_zero, List.getD_cons_succ] at hlow
                    simp at hbb
                    repeat' (first | (apply aw_seq_k; intro K hK) | (refine aw_run hc (by first | exact aw_nod | (intro _; rw [ordB_w hw]; kernel_rfl) | (intro _; kernel_rfl)) ?_; simp [List.zipIdx, hoj, h43, h43z, h51, h51z, bits64, callM, giveArg, takeArg, take_irows, one1, -getM, getM_hit, getM_miss, getM_none]; (repeat (simp (disch := first | omega | assumption | fail) only [if_pos, if_neg, wrap64]; try simp [List.zipIdx, hoj, h43, h43z, h51, h51z, bits64, callM, giveArg, takeArg, take_irows, one1, -getM, getM_hit, getM_miss, getM_none])); try (repeat' (refine guardQ_split (fun h => ?_) (fun h => ?_) <;> simp at h <;> (simp [List.zipIdx, hoj, h43, h43z, h51, h51z, bits64, callM, giveArg, takeArg, take_irows, one1, -getM, getM_hit, getM_miss, getM_none]; (repeat (simp (disch := first | omega | assumption | fail) only [if_pos, if_neg, wrap64]; try simp [List.zipIdx, hoj, h43, h43z, h51, h51z, bits64, callM, giveArg, takeArg, take_irows, one1, -getM, getM_hit, getM_miss, getM_none])))))) | (refine aw_cond (b := _) (by exact rfl) (fun h => ?_) (fun h => ?_) <;> (try simp at h)) | (refine aw_block ?_) | (refine aw_skip ?_; simp only [thenQ, blockQ, if_true]) | (refine aw_exit ?_; simp [thenQ, blockQ]) | (refine aw_ret ?_; simp only [thenQ, blockQ]) | (refine aw_round ?_) | (refine hK _ ?_; clear hK) | (clear hK; refine hK _ ?_; clear hK) | (clear hK; clear hK; refine hK _ ?_; clear hK) | (clear hK; clear hK; clear hK; refine hK _ ?_; clear hK))
                    have hyl2 : (y.set 0 (insI y.f0 (f + 1))).f1 = l := by simpa only [Zn.set] using hyl
                    refine ⟨y.set 0 (insI y.f0 (f + 1)), ?_, hlow, hyl2⟩
                    simp only [Zn.set]
                    refine le_turn (s1 := ?tus4) (m1 := ?tum4) [(480, 1264)] [8, 1, 4, 9, 10] [0, 16, 496, 1264, 481, 482, 483, 484] ?tua4 ?tub4 ?tuc4 ?tud4 ?tue4 ?tuf4 ?tug4
                    case tua4 => first | (simp [keepS]; done) | (simp [keepS]; rfl)
                    case tub4 => first | (simp; done) | (simp; rfl)
                    case tuc4 => simp
                    case tud4 => simp
                    case tue4 => simp
                    case tuf4 => simp
                    case tug4 =>
                      simp [swp, vr]
                      exact le_of2 (by simp) (by simp [AVle, AV.under, AV.underL] <;> omega) (by simp [AOle, AO.under, AV.underL, AV.under] <;> omega)
                · have hok2 := hi.ok
                  obtain rfl : k = o := by omega
                  have hkoI : ¬ ((k : Int) < (k : Int)) := by omega
                  have hd := hi.done
                  rw [hd] at hal
                  have hys := hi.same
                  unfold sameP at hys
                  repeat' (first | (apply aw_seq_k; intro K hK) | (refine aw_run hc (by first | exact aw_nod | (intro _; rw [ordB_w hw]; kernel_rfl) | (intro _; kernel_rfl)) ?_; simp [List.zipIdx, hkoI, -getM, getM_hit, getM_miss, getM_none]; (repeat (simp (disch := first | omega | assumption | fail) only [if_pos, if_neg, wrap64]; try simp [List.zipIdx, hkoI, -getM, getM_hit, getM_miss, getM_none])); try (repeat' (refine guardQ_split (fun h => ?_) (fun h => ?_) <;> simp at h <;> (simp [List.zipIdx, hkoI, -getM, getM_hit, getM_miss, getM_none]; (repeat (simp (disch := first | omega | assumption | fail) only [if_pos, if_neg, wrap64]; try simp [List.zipIdx, hkoI, -getM, getM_hit, getM_miss, getM_none])))))) | (refine aw_cond (b := _) (by exact rfl) (fun h => ?_) (fun h => ?_) <;> (try simp at h)) | (refine aw_block ?_) | (refine aw_skip ?_; simp only [thenQ, blockQ, if_true]) | (refine aw_exit ?_; simp [thenQ, blockQ]) | (refine aw_ret ?_; simp only [thenQ, blockQ]) | (refine aw_round ?_) | (refine hK _ ?_; clear hK) | (clear hK; refine hK _ ?_; clear hK) | (clear hK; clear hK; refine hK _ ?_; clear hK) | (clear hK; clear hK; clear hK; refine hK _ ?_; clear hK))
                  refine ⟨by simp, ?_⟩
                  simp [leaves_iff, Try.f21, hal, Zn.ocells, take_irows, hys, hyl, show 1 + l.length ≤ l.length + 1 by omega]
                  try (first | omega | (refine decide_eq_decide.2 ?_; omega) | (refine decide_eq_false ?_; omega) | (refine decide_eq_true ?_; omega))
            · have hfk : z.f2 = f :: l := hfl
              have hcz : z.cells[5 + 2]? = some (.rd 1 (irows (f :: l))) := by rw [← hfk]; rfl
              simp only [Nat.reduceAdd] at hcz
              repeat' (first | (apply aw_seq_k; intro K hK) | (refine aw_run hc (by first | exact aw_nod | (intro _; rw [ordB_w hw]; kernel_rfl) | (intro _; kernel_rfl)) ?_; simp [List.zipIdx, hcz, hln, h50, h50z, hfk, irows_cons, Zn.ocells, -getM, getM_hit, getM_miss, getM_none]; (repeat (simp (disch := first | omega | assumption | fail) only [if_pos, if_neg, wrap64]; try simp [List.zipIdx, hcz, hln, h50, h50z, hfk, irows_cons, Zn.ocells, -getM, getM_hit, getM_miss, getM_none])); try (repeat' (refine guardQ_split (fun h => ?_) (fun h => ?_) <;> simp at h <;> (simp [List.zipIdx, hcz, hln, h50, h50z, hfk, irows_cons, Zn.ocells, -getM, getM_hit, getM_miss, getM_none]; (repeat (simp (disch := first | omega | assumption | fail) only [if_pos, if_neg, wrap64]; try simp [List.zipIdx, hcz, hln, h50, h50z, hfk, irows_cons, Zn.ocells, -getM, getM_hit, getM_miss, getM_none])))))) | (refine aw_cond (b := _) (by exact rfl) (fun h => ?_) (fun h => ?_) <;> (try simp at h)) | (refine aw_block ?_) | (refine aw_skip ?_; simp only [thenQ, blockQ, if_true]) | (refine aw_exit ?_; simp [thenQ, blockQ]) | (refine aw_ret ?_; simp only [thenQ, blockQ]) | (refine aw_round ?_) | (refine hK _ ?_; clear hK) | (clear hK; refine hK _ ?_; clear hK) | (clear hK; clear hK; refine hK _ ?_; clear hK) | (clear hK; clear hK; clear hK; refine hK _ ?_; clear hK))
              refine aw_loopK (s0 := ?lps5) (m0 := ?lpm5) (ι := {p : Zn × Nat // SplitInv z f o T p.1 f p.2 ∧ p.2 ≤ 2 ∧ p.1.f2 = l}) [1, 4, 9, 10] (fun p => [(8, I p.1.2)]) (fun p => [(496, .box [I z.node, I z.kind, I z.start, I z.count, I z.least, .sl 480 1 1 0 p.1.1.f0.length, .sl 481 1 1 0 p.1.1.f1.length, .sl 482 1 1 1 l.length, .sl 483 1 1 0 p.1.1.f3.length, .sl 484 1 1 0 p.1.1.f4.length]), (480, .vec 1 1 false (irows p.1.1.f0)), (481, .vec 1 1 false (irows p.1.1.f1)), (482, .vec 1 1 false ([I f] :: irows l)), (483, .vec 1 1 false (irows p.1.1.f3)), (484, .vec 1 1 false (irows p.1.1.f4))]) (fun p => p.1.2) ⟨(z.set 2 l, 2), hsi, by omega, rfl⟩ ?lhs5 ?lhm5 ?_ ?_
              case lhs5 => first | (simp [keepS]; done) | (simp [keepS]; rfl)
              case lhm5 => first | rfl | (simp; done) | (simp; rfl)
              · simp only [Zn.set]
                exact le_of2 (by simp) (by simp [AVle, AV.under, AV.underL] <;> omega) (by simp [AOle, AO.under, AV.underL, AV.under] <;> omega)
              · rintro ⟨⟨y, k⟩, hi, hkK, hyl⟩
                simp only at hi hkK hyl ⊢
                have hys := hi.small hr
                rcases Decidable.em (o < k) with hko | hko
                · rcases (show k = 1 ∨ k = 2 by omega) with rfl | rfl
                  · have hoj : (o : Int) < 1 := by omega
                    have hl0 : y.f0.length ≤ 1000000 := by have : y.f0.length ≤ 1000 := hys 0 (by omega); omega
                    have hbb := inside_bounds (hi.same.ranges.2 hr) hi.inside
                    have h43z := F43_at (x := f + 1) (hi.valid.sorted 0 (by omega)) hl0
                    have h51z := insF_at (x := f + 1) hl0
                    have hlow := hi.low (show o ≤ 0 by omega) (by have := pow_pos' (k := 0); omega)
                    simp only [Zn.fr, List.getD_cons_zero, List.getD_cons_succ] at h43z
                    simp only [show ((2 : Int) ^ 0) = 1 from rfl, Zn.fr, List.getD_cons_zero, List.getD_cons_succ] at hlow
                    simp at hbb
                    repeat' (first | (apply aw_seq_k; intro K hK) | (refine aw_run hc (by first | exact aw_nod | (intro _; rw [ordB_w hw]; kernel_rfl) | (intro _; kernel_rfl)) ?_; simp [List.zipIdx, hoj, h43, h43z, h51, h51z, bits64, callM, giveArg, takeArg, take_irows, one1, -getM, getM_hit, getM_miss, getM_none]; (repeat (simp (disch := first | omega | assumption | fail) only [if_pos, if_neg, wrap64]; try simp [List.zipIdx, hoj, h43, h43z, h51, h51z, bits64, callM, giveArg, takeArg, take_irows, one1, -getM, getM_hit, getM_miss, getM_none])); try (repeat' (refine guardQ_split (fun h => ?_) (fun h => ?_) <;> simp at h <;> (simp [List.zipIdx, hoj, h43, h43z, h51, h51z, bits64, callM, giveArg, takeArg, take_irows, one1, -getM, getM_hit, getM_miss, getM_none]; (repeat (simp (disch := first | omega | assumption | fail) only [if_pos, if_neg, wrap64]; try simp [List.zipIdx, hoj, h43, h43z, h51, h51z, bits64, callM, giveArg, takeArg, take_irows, one1, -getM, getM_hit, getM_miss, getM_none])))))) | (refine aw_cond (b := _) (by exact rfl) (fun h => ?_) (fun h => ?_) <;> (try simp at h)) | (refine aw_block ?_) | (refine aw_skip ?_; simp only [thenQ, blockQ, if_true]) | (refine aw_exit ?_; simp [thenQ, blockQ]) | (refine aw_ret ?_; simp only [thenQ, blockQ]) | (refine aw_round ?_) | (refine hK _ ?_; clear hK) | (clear hK; refine hK _ ?_; clear hK) | (clear hK; clear hK; refine hK _ ?_; clear hK) | (clear hK; clear hK; clear hK; refine hK _ ?_; clear hK))
                    have hyl2 : (y.set 0 (insI y.f0 (f + 1))).f2 = l := by simpa only [Zn.set] using hyl
                    refine ⟨y.set 0 (insI y.f0 (f + 1)), ?_, hlow, hyl2⟩
                    simp only [Zn.set]
                    refine le_turn (s1 := ?tus6) (m1 := ?tum6) [(480, 1264)] [8, 1, 4, 9, 10] [0, 16, 496, 1264, 481, 482, 483, 484] ?tua6 ?tub6 ?tuc6 ?tud6 ?tue6 ?tuf6 ?tug6
                    case tua6 => first | (simp [keepS]; done) | (simp [keepS]; rfl)
                    case tub6 => first | (simp; done) | (simp; rfl)
                    case tuc6 => simp
                    case tud6 => simp
                    case tue6 => simp
                    case tuf6 => simp
                    case tug6 =>
                      simp [swp, vr]
                      exact le_of2 (by simp) (by simp [AVle, AV.under, AV.underL] <;> omega) (by simp [AOle, AO.under, AV.underL, AV.under] <;> omega)
                  · have hoj : (o : Int) < 2 := by omega
                    have hl1 : y.f1.length ≤ 1000000 := by have : y.f1.length ≤ 1000 := hys 1 (by omega); omega
                    have hbb := inside_bounds (hi.same.ranges.2 hr) hi.inside
                    have h43z := F43_at (x := f + 2) (hi.valid.sorted 1 (by omega)) hl1
                    have h51z := insF_at (x := f + 2) hl1
                    have hlow := hi.low (show o ≤ 1 by omega) (by have := pow_pos' (k := 1); omega)
                    simp only [Zn.fr, List.getD_cons_zero, List.getD_cons_succ] at h43z
                    simp only [show ((2 : Int) ^ 1) = 2 from rfl, Zn.fr, List.getD_cons_zero, List.getD_cons_succ] at hlow
                    simp at hbb
                    repeat' (first | (apply aw_seq_k; intro K hK) | (refine aw_run hc (by first | exact aw_nod | (intro _; rw [ordB_w hw]; kernel_rfl) | (intro _; kernel_rfl)) ?_; simp [List.zipIdx, hoj, h43, h43z, h51, h51z, bits64, callM, giveArg, takeArg, take_irows, one1, -getM, getM_hit, getM_miss, getM_none]; (repeat (simp (disch := first | omega | assumption | fail) only [if_pos, if_neg, wrap64]; try simp [List.zipIdx, hoj, h43, h43z, h51, h51z, bits64, callM, giveArg, takeArg, take_irows, one1, -getM, getM_hit, getM_miss, getM_none])); try (repeat' (refine guardQ_split (fun h => ?_) (fun h => ?_) <;> simp at h <;> (simp [List.zipIdx, hoj, h43, h43z, h51, h51z, bits64, callM, giveArg, takeArg, take_irows, one1, -getM, getM_hit, getM_miss, getM_none]; (repeat (simp (disch := first | omega | assumption | fail) only [if_pos, if_neg, wrap64]; try simp [List.zipIdx, hoj, h43, h43z, h51, h51z, bits64, callM, giveArg, takeArg, take_irows, one1, -getM, getM_hit, getM_miss, getM_none])))))) | (refine aw_cond (b := _) (by exact rfl) (fun h => ?_) (fun h => ?_) <;> (try simp at h)) | (refine aw_block ?_) | (refine aw_skip ?_; simp only [thenQ, blockQ, if_true]) | (refine aw_exit ?_; simp [thenQ, blockQ]) | (refine aw_ret ?_; simp only [thenQ, blockQ]) | (refine aw_round ?_) | (refine hK _ ?_; clear hK) | (clear hK; refine hK _ ?_; clear hK) | (clear hK; clear hK; refine hK _ ?_; clear hK) | (clear hK; clear hK; clear hK; refine hK _ ?_; clear hK))
                    have hyl2 : (y.set 1 (insI y.f1 (f + 2))).f2 = l := by simpa only [Zn.set] using hyl
                    refine ⟨y.set 1 (insI y.f1 (f + 2)), 1, ?_, ⟨hlow, by omega, hyl2⟩, by omega⟩
                    simp only [Zn.set]
                    refine le_turn (s1 := ?tus7) (m1 := ?tum7) [(481, 1264)] [8, 1, 4, 9, 10] [0, 16, 496, 480, 1264, 482, 483, 484] ?tua7 ?tub7 ?tuc7 ?tud7 ?tue7 ?tuf7 ?tug7
                    case tua7 => first | (simp [keepS]; done) | (simp [keepS]; rfl)
                    case tub7 => first | (simp; done) | (simp; rfl)
                    case tuc7 => simp
                    case tud7 => simp
                    case tue7 => simp
                    case tuf7 => simp
                    case tug7 =>
                      simp [swp, vr]
                      exact le_of2 (by simp) (by simp [AVle, AV.under, AV.underL] <;> omega) (by simp [AOle, AO.under, AV.underL, AV.under] <;> omega)
                · have hok2 := hi.ok
                  obtain rfl : k = o := by omega
                  have hkoI : ¬ ((k : Int) < (k : Int)) := by omega
                  have hd := hi.done
                  rw [hd] at hal
                  have hys := hi.same
                  unfold sameP at hys
                  repeat' (first | (apply aw_seq_k; intro K hK) | (refine aw_run hc (by first | exact aw_nod | (intro _; rw [ordB_w hw]; kernel_rfl) | (intro _; kernel_rfl)) ?_; simp [List.zipIdx, hkoI, -getM, getM_hit, getM_miss, getM_none]; (repeat (simp (disch := first | omega | assumption | fail) only [if_pos, if_neg, wrap64]; try simp [List.zipIdx, hkoI, -getM, getM_hit, getM_miss, getM_none])); try (repeat' (refine guardQ_split (fun h => ?_) (fun h => ?_) <;> simp at h <;> (simp [List.zipIdx, hkoI, -getM, getM_hit, getM_miss, getM_none]; (repeat (simp (disch := first | omega | assumption | fail) only [if_pos, if_neg, wrap64]; try simp [List.zipIdx, hkoI, -getM, getM_hit, getM_miss, getM_none])))))) | (refine aw_cond (b := _) (by exact rfl) (fun h => ?_) (fun h => ?_) <;> (try simp at h)) | (refine aw_block ?_) | (refine aw_skip ?_; simp only [thenQ, blockQ, if_true]) | (refine aw_exit ?_; simp [thenQ, blockQ]) | (refine aw_ret ?_; simp only [thenQ, blockQ]) | (refine aw_round ?_) | (refine hK _ ?_; clear hK) | (clear hK; refine hK _ ?_; clear hK) | (clear hK; clear hK; refine hK _ ?_; clear hK) | (clear hK; clear hK; clear hK; refine hK _ ?_; clear hK))
                  refine ⟨by simp, ?_⟩
                  simp [leaves_iff, Try.f21, hal, Zn.ocells, take_irows, hys, hyl, show 1 + l.length ≤ l.length + 1 by omega]
                  try (first | omega | (refine decide_eq_decide.2 ?_; omega) | (refine decide_eq_false ?_; omega) | (refine decide_eq_true ?_; omega))
            · have hfk : z.f3 = f :: l := hfl
              have hcz : z.cells[5 + 3]? = some (.rd 1 (irows (f :: l))) := by rw [← hfk]; rfl
              simp only [Nat.reduceAdd] at hcz
              repeat' (first | (apply aw_seq_k; intro K hK) | (refine aw_run hc (by first | exact aw_nod | (intro _; rw [ordB_w hw]; kernel_rfl) | (intro _; kernel_rfl)) ?_; simp [List.zipIdx, hcz, hln, h50, h50z, hfk, irows_cons, Zn.ocells, -getM, getM_hit, getM_miss, getM_none]; (repeat (simp (disch := first | omega | assumption | fail) only [if_pos, if_neg, wrap64]; try simp [List.zipIdx, hcz, hln, h50, h50z, hfk, irows_cons, Zn.ocells, -getM, getM_hit, getM_miss, getM_none])); try (repeat' (refine guardQ_split (fun h => ?_) (fun h => ?_) <;> simp at h <;> (simp [List.zipIdx, hcz, hln, h50, h50z, hfk, irows_cons, Zn.ocells, -getM, getM_hit, getM_miss, getM_none]; (repeat (simp (disch := first | omega | assumption | fail) only [if_pos, if_neg, wrap64]; try simp [List.zipIdx, hcz, hln, h50, h50z, hfk, irows_cons, Zn.ocells, -getM, getM_hit, getM_miss, getM_none])))))) | (refine aw_cond (b := _) (by exact rfl) (fun h => ?_) (fun h => ?_) <;> (try simp at h)) | (refine aw_block ?_) | (refine aw_skip ?_; simp only [thenQ, blockQ, if_true]) | (refine aw_exit ?_; simp [thenQ, blockQ]) | (refine aw_ret ?_; simp only [thenQ, blockQ]) | (refine aw_round ?_) | (refine hK _ ?_; clear hK) | (clear hK; refine hK _ ?_; clear hK) | (clear hK; clear hK; refine hK _ ?_; clear hK) | (clear hK; clear hK; clear hK; refine hK _ ?_; clear hK))
              refine aw_loopK (s0 := ?lps8) (m0 := ?lpm8) (ι := {p : Zn × Nat // SplitInv z f o T p.1 f p.2 ∧ p.2 ≤ 3 ∧ p.1.f3 = l}) [1, 4, 9, 10] (fun p => [(8, I p.1.2)]) (fun p => [(496, .box [I z.node, I z.kind, I z.start, I z.count, I z.least, .sl 480 1 1 0 p.1.1.f0.length, .sl 481 1 1 0 p.1.1.f1.length, .sl 482 1 1 0 p.1.1.f2.length, .sl 483 1 1 1 l.length, .sl 484 1 1 0 p.1.1.f4.length]), (480, .vec 1 1 false (irows p.1.1.f0)), (481, .vec 1 1 false (irows p.1.1.f1)), (482, .vec 1 1 false (irows p.1.1.f2)), (483, .vec 1 1 false ([I f] :: irows l)), (484, .vec 1 1 false (irows p.1.1.f4))]) (fun p => p.1.2) ⟨(z.set 3 l, 3), hsi, by omega, rfl⟩ ?lhs8 ?lhm8 ?_ ?_
              case lhs8 => first | (simp [keepS]; done) | (simp [keepS]; rfl)
              case lhm8 => first | rfl | (simp; done) | (simp; rfl)
              · simp only [Zn.set]
                exact le_of2 (by simp) (by simp [AVle, AV.under, AV.underL] <;> omega) (by simp [AOle, AO.under, AV.underL, AV.under] <;> omega)
              · rintro ⟨⟨y, k⟩, hi, hkK, hyl⟩
                simp only at hi hkK hyl ⊢
                have hys := hi.small hr
                rcases Decidable.em (o < k) with hko | hko
                · rcases (show k = 1 ∨ k = 2 ∨ k = 3 by omega) with rfl | rfl | rfl
                  · have hoj : (o : Int) < 1 := by omega
                    have hl0 : y.f0.length ≤ 1000000 := by have : y.f0.length ≤ 1000 := hys 0 (by omega); omega
                    have hbb := inside_bounds (hi.same.ranges.2 hr) hi.inside
                    have h43z := F43_at (x := f + 1) (hi.valid.sorted 0 (by omega)) hl0
                    have h51z := insF_at (x := f + 1) hl0
                    have hlow := hi.low (show o ≤ 0 by omega) (by have := pow_pos' (k := 0); omega)
                    simp only [Zn.fr, List.getD_cons_zero, List.getD_cons_succ] at h43z
                    simp only [show ((2 : Int) ^ 0) = 1 from rfl, Zn.fr, List.getD_cons_zero, List.getD_cons_succ] at hlow
                    simp at hbb
                    repeat' (first | (apply aw_seq_k; intro K hK) | (refine aw_run hc (by first | exact aw_nod | (intro _; rw [ordB_w hw]; kernel_rfl) | (intro _; kernel_rfl)) ?_; simp [List.zipIdx, hoj, h43, h43z, h51, h51z, bits64, callM, giveArg, takeArg, take_irows, one1, -getM, getM_hit, getM_miss, getM_none]; (repeat (simp (disch := first | omega | assumption | fail) only [if_pos, if_neg, wrap64]; try simp [List.zipIdx, hoj, h43, h43z, h51, h51z, bits64, callM, giveArg, takeArg, take_irows, one1, -getM, getM_hit, getM_miss, getM_none])); try (repeat' (refine guardQ_split (fun h => ?_) (fun h => ?_) <;> simp at h <;> (simp [List.zipIdx, hoj, h43, h43z, h51, h51z, bits64, callM, giveArg, takeArg, take_irows, one1, -getM, getM_hit, getM_miss, getM_none]; (repeat (simp (disch := first | omega | assumption | fail) only [if_pos, if_neg, wrap64]; try simp [List.zipIdx, hoj, h43, h43z, h51, h51z, bits64, callM, giveArg, takeArg, take_irows, one1, -getM, getM_hit, getM_miss, getM_none])))))) | (refine aw_cond (b := _) (by exact rfl) (fun h => ?_) (fun h => ?_) <;> (try simp at h)) | (refine aw_block ?_) | (refine aw_skip ?_; simp only [thenQ, blockQ, if_true]) | (refine aw_exit ?_; simp [thenQ, blockQ]) | (refine aw_ret ?_; simp only [thenQ, blockQ]) | (refine aw_round ?_) | (refine hK _ ?_; clear hK) | (clear hK; refine hK _ ?_; clear hK) | (clear hK; clear hK; refine hK _ ?_; clear hK) | (clear hK; clear hK; clear hK; refine hK _ ?_; clear hK))
                    have hyl2 : (y.set 0 (insI y.f0 (f + 1))).f3 = l := by simpa only [Zn.set] using hyl
                    refine ⟨y.set 0 (insI y.f0 (f + 1)), ?_, hlow, hyl2⟩
                    simp only [Zn.set]
                    refine le_turn (s1 := ?tus9) (m1 := ?tum9) [(480, 1264)] [8, 1, 4, 9, 10] [0, 16, 496, 1264, 481, 482, 483, 484] ?tua9 ?tub9 ?tuc9 ?tud9 ?tue9 ?tuf9 ?tug9
                    case tua9 => first | (simp [keepS]; done) | (simp [keepS]; rfl)
                    case tub9 => first | (simp; done) | (simp; rfl)
                    case tuc9 => simp
                    case tud9 => simp
                    case tue9 => simp
                    case tuf9 => simp
                    case tug9 =>
                      simp [swp, vr]
                      exact le_of2 (by simp) (by simp [AVle, AV.under, AV.underL] <;> omega) (by simp [AOle, AO.under, AV.underL, AV.under] <;> omega)
                  · have hoj : (o : Int) < 2 := by omega
                    have hl1 : y.f1.length ≤ 1000000 := by have : y.f1.length ≤ 1000 := hys 1 (by omega); omega
                    have hbb := inside_bounds (hi.same.ranges.2 hr) hi.inside
                    have h43z := F43_at (x := f + 2) (hi.valid.sorted 1 (by omega)) hl1
                    have h51z := insF_at (x := f + 2) hl1
                    have hlow := hi.low (show o ≤ 1 by omega) (by have := pow_pos' (k := 1); omega)
                    simp only [Zn.fr, List.getD_cons_zero, List.getD_cons_succ] at h43z
                    simp only [show ((2 : Int) ^ 1) = 2 from rfl, Zn.fr, List.getD_cons_zero, List.getD_cons_succ] at hlow
                    simp at hbb
                    repeat' (first | (apply aw_seq_k; intro K hK) | (refine aw_run hc (by first | exact aw_nod | (intro _; rw [ordB_w hw]; kernel_rfl) | (intro _; kernel_rfl)) ?_; simp [List.zipIdx, hoj, h43, h43z, h51, h51z, bits64, callM, giveArg, takeArg, take_irows, one1, -getM, getM_hit, getM_miss, getM_none]; (repeat (simp (disch := first | omega | assumption | fail) only [if_pos, if_neg, wrap64]; try simp [List.zipIdx, hoj, h43, h43z, h51, h51z, bits64, callM, giveArg, takeArg, take_irows, one1, -getM, getM_hit, getM_miss, getM_none])); try (repeat' (refine guardQ_split (fun h => ?_) (fun h => ?_) <;> simp at h <;> (simp [List.zipIdx, hoj, h43, h43z, h51, h51z, bits64, callM, giveArg, takeArg, take_irows, one1, -getM, getM_hit, getM_miss, getM_none]; (repeat (simp (disch := first | omega | assumption | fail) only [if_pos, if_neg, wrap64]; try simp [List.zipIdx, hoj, h43, h43z, h51, h51z, bits64, callM, giveArg, takeArg, take_irows, one1, -getM, getM_hit, getM_miss, getM_none])))))) | (refine aw_cond (b := _) (by exact rfl) (fun h => ?_) (fun h => ?_) <;> (try simp at h)) | (refine aw_block ?_) | (refine aw_skip ?_; simp only [thenQ, blockQ, if_true]) | (refine aw_exit ?_; simp [thenQ, blockQ]) | (refine aw_ret ?_; simp only [thenQ, blockQ]) | (refine aw_round ?_) | (refine hK _ ?_; clear hK) | (clear hK; refine hK _ ?_; clear hK) | (clear hK; clear hK; refine hK _ ?_; clear hK) | (clear hK; clear hK; clear hK; refine hK _ ?_; clear hK))
                    have hyl2 : (y.set 1 (insI y.f1 (f + 2))).f3 = l := by simpa only [Zn.set] using hyl
                    refine ⟨y.set 1 (insI y.f1 (f + 2)), 1, ?_, ⟨hlow, by omega, hyl2⟩, by omega⟩
                    simp only [Zn.set]
                    refine le_turn (s1 := ?tus10) (m1 := ?tum10) [(481, 1264)] [8, 1, 4, 9, 10] [0, 16, 496, 480, 1264, 482, 483, 484] ?tua10 ?tub10 ?tuc10 ?tud10 ?tue10 ?tuf10 ?tug10
                    case tua10 => first | (simp [keepS]; done) | (simp [keepS]; rfl)
                    case tub10 => first | (simp; done) | (simp; rfl)
                    case tuc10 => simp
                    case tud10 => simp
                    case tue10 => simp
                    case tuf10 => simp
                    case tug10 =>
                      simp [swp, vr]
                      exact le_of2 (by simp) (by simp [AVle, AV.under, AV.underL] <;> omega) (by simp [AOle, AO.under, AV.underL, AV.under] <;> omega)
                  · have hoj : (o : Int) < 3 := by omega
                    have hl2 : y.f2.length ≤ 1000000 := by have : y.f2.length ≤ 1000 := hys 2 (by omega); omega
                    have hbb := inside_bounds (hi.same.ranges.2 hr) hi.inside
                    have h43z := F43_at (x := f + 4) (hi.valid.sorted 2 (by omega)) hl2
                    have h51z := insF_at (x := f + 4) hl2
                    have hlow := hi.low (show o ≤ 2 by omega) (by have := pow_pos' (k := 2); omega)
                    simp only [Zn.fr, List.getD_cons_zero, List.getD_cons_succ] at h43z
                    simp only [show ((2 : Int) ^ 2) = 4 from rfl, Zn.fr, List.getD_cons_zero, List.getD_cons_succ] at hlow
                    simp at hbb
                    repeat' (first | (apply aw_seq_k; intro K hK) | (refine aw_run hc (by first | exact aw_nod | (intro _; rw [ordB_w hw]; kernel_rfl) | (intro _; kernel_rfl)) ?_; simp [List.zipIdx, hoj, h43, h43z, h51, h51z, bits64, callM, giveArg, takeArg, take_irows, one1, -getM, getM_hit, getM_miss, getM_none]; (repeat (simp (disch := first | omega | assumption | fail) only [if_pos, if_neg, wrap64]; try simp [List.zipIdx, hoj, h43, h43z, h51, h51z, bits64, callM, giveArg, takeArg, take_irows, one1, -getM, getM_hit, getM_miss, getM_none])); try (repeat' (refine guardQ_split (fun h => ?_) (fun h => ?_) <;> simp at h <;> (simp [List.zipIdx, hoj, h43, h43z, h51, h51z, bits64, callM, giveArg, takeArg, take_irows, one1, -getM, getM_hit, getM_miss, getM_none]; (repeat (simp (disch := first | omega | assumption | fail) only [if_pos, if_neg, wrap64]; try simp [List.zipIdx, hoj, h43, h43z, h51, h51z, bits64, callM, giveArg, takeArg, take_irows, one1, -getM, getM_hit, getM_miss, getM_none])))))) | (refine aw_cond (b := _) (by exact rfl) (fun h => ?_) (fun h => ?_) <;> (try simp at h)) | (refine aw_block ?_) | (refine aw_skip ?_; simp only [thenQ, blockQ, if_true]) | (refine aw_exit ?_; simp [thenQ, blockQ]) | (refine aw_ret ?_; simp only [thenQ, blockQ]) | (refine aw_round ?_) | (refine hK _ ?_; clear hK) | (clear hK; refine hK _ ?_; clear hK) | (clear hK; clear hK; refine hK _ ?_; clear hK) | (clear hK; clear hK; clear hK; refine hK _ ?_; clear hK))
                    have hyl2 : (y.set 2 (insI y.f2 (f + 4))).f3 = l := by simpa only [Zn.set] using hyl
                    refine ⟨y.set 2 (insI y.f2 (f + 4)), 2, ?_, ⟨hlow, by omega, hyl2⟩, by omega⟩
                    simp only [Zn.set]
                    refine le_turn (s1 := ?tus11) (m1 := ?tum11) [(482, 1264)] [8, 1, 4, 9, 10] [0, 16, 496, 480, 481, 1264, 483, 484] ?tua11 ?tub11 ?tuc11 ?tud11 ?tue11 ?tuf11 ?tug11
                    case tua11 => first | (simp [keepS]; done) | (simp [keepS]; rfl)
                    case tub11 => first | (simp; done) | (simp; rfl)
                    case tuc11 => simp
                    case tud11 => simp
                    case tue11 => simp
                    case tuf11 => simp
                    case tug11 =>
                      simp [swp, vr]
                      exact le_of2 (by simp) (by simp [AVle, AV.under, AV.underL] <;> omega) (by simp [AOle, AO.under, AV.underL, AV.under] <;> omega)
                · have hok2 := hi.ok
                  obtain rfl : k = o := by omega
                  have hkoI : ¬ ((k : Int) < (k : Int)) := by omega
                  have hd := hi.done
                  rw [hd] at hal
                  have hys := hi.same
                  unfold sameP at hys
                  repeat' (first | (apply aw_seq_k; intro K hK) | (refine aw_run hc (by first | exact aw_nod | (intro _; rw [ordB_w hw]; kernel_rfl) | (intro _; kernel_rfl)) ?_; simp [List.zipIdx, hkoI, -getM, getM_hit, getM_miss, getM_none]; (repeat (simp (disch := first | omega | assumption | fail) only [if_pos, if_neg, wrap64]; try simp [List.zipIdx, hkoI, -getM, getM_hit, getM_miss, getM_none])); try (repeat' (refine guardQ_split (fun h => ?_) (fun h => ?_) <;> simp at h <;> (simp [List.zipIdx, hkoI, -getM, getM_hit, getM_miss, getM_none]; (repeat (simp (disch := first | omega | assumption | fail) only [if_pos, if_neg, wrap64]; try simp [List.zipIdx, hkoI, -getM, getM_hit, getM_miss, getM_none])))))) | (refine aw_cond (b := _) (by exact rfl) (fun h => ?_) (fun h => ?_) <;> (try simp at h)) | (refine aw_block ?_) | (refine aw_skip ?_; simp only [thenQ, blockQ, if_true]) | (refine aw_exit ?_; simp [thenQ, blockQ]) | (refine aw_ret ?_; simp only [thenQ, blockQ]) | (refine aw_round ?_) | (refine hK _ ?_; clear hK) | (clear hK; refine hK _ ?_; clear hK) | (clear hK; clear hK; refine hK _ ?_; clear hK) | (clear hK; clear hK; clear hK; refine hK _ ?_; clear hK))
                  refine ⟨by simp, ?_⟩
                  simp [leaves_iff, Try.f21, hal, Zn.ocells, take_irows, hys, hyl, show 1 + l.length ≤ l.length + 1 by omega]
                  try (first | omega | (refine decide_eq_decide.2 ?_; omega) | (refine decide_eq_false ?_; omega) | (refine decide_eq_true ?_; omega))
            · have hfk : z.f4 = f :: l := hfl
              have hcz : z.cells[5 + 4]? = some (.rd 1 (irows (f :: l))) := by rw [← hfk]; rfl
              simp only [Nat.reduceAdd] at hcz
              repeat' (first | (apply aw_seq_k; intro K hK) | (refine aw_run hc (by first | exact aw_nod | (intro _; rw [ordB_w hw]; kernel_rfl) | (intro _; kernel_rfl)) ?_; simp [List.zipIdx, hcz, hln, h50, h50z, hfk, irows_cons, Zn.ocells, -getM, getM_hit, getM_miss, getM_none]; (repeat (simp (disch := first | omega | assumption | fail) only [if_pos, if_neg, wrap64]; try simp [List.zipIdx, hcz, hln, h50, h50z, hfk, irows_cons, Zn.ocells, -getM, getM_hit, getM_miss, getM_none])); try (repeat' (refine guardQ_split (fun h => ?_) (fun h => ?_) <;> simp at h <;> (simp [List.zipIdx, hcz, hln, h50, h50z, hfk, irows_cons, Zn.ocells, -getM, getM_hit, getM_miss, getM_none]; (repeat (simp (disch := first | omega | assumption | fail) only [if_pos, if_neg, wrap64]; try simp [List.zipIdx, hcz, hln, h50, h50z, hfk, irows_cons, Zn.ocells, -getM, getM_hit, getM_miss, getM_none])))))) | (refine aw_cond (b := _) (by exact rfl) (fun h => ?_) (fun h => ?_) <;> (try simp at h)) | (refine aw_block ?_) | (refine aw_skip ?_; simp only [thenQ, blockQ, if_true]) | (refine aw_exit ?_; simp [thenQ, blockQ]) | (refine aw_ret ?_; simp only [thenQ, blockQ]) | (refine aw_round ?_) | (refine hK _ ?_; clear hK) | (clear hK; refine hK _ ?_; clear hK) | (clear hK; clear hK; refine hK _ ?_; clear hK) | (clear hK; clear hK; clear hK; refine hK _ ?_; clear hK))
              refine aw_loopK (s0 := ?lps12) (m0 := ?lpm12) (ι := {p : Zn × Nat // SplitInv z f o T p.1 f p.2 ∧ p.2 ≤ 4 ∧ p.1.f4 = l}) [1, 4, 9, 10] (fun p => [(8, I p.1.2)]) (fun p => [(496, .box [I z.node, I z.kind, I z.start, I z.count, I z.least, .sl 480 1 1 0 p.1.1.f0.length, .sl 481 1 1 0 p.1.1.f1.length, .sl 482 1 1 0 p.1.1.f2.length, .sl 483 1 1 0 p.1.1.f3.length, .sl 484 1 1 1 l.length]), (480, .vec 1 1 false (irows p.1.1.f0)), (481, .vec 1 1 false (irows p.1.1.f1)), (482, .vec 1 1 false (irows p.1.1.f2)), (483, .vec 1 1 false (irows p.1.1.f3)), (484, .vec 1 1 false ([I f] :: irows l))]) (fun p => p.1.2) ⟨(z.set 4 l, 4), hsi, by omega, rfl⟩ ?lhs12 ?lhm12 ?_ ?_
              case lhs12 => first | (simp [keepS]; done) | (simp [keepS]; rfl)
              case lhm12 => first | rfl | (simp; done) | (simp; rfl)
              · simp only [Zn.set]
                exact le_of2 (by simp) (by simp [AVle, AV.under, AV.underL] <;> omega) (by simp [AOle, AO.under, AV.underL, AV.under] <;> omega)
              · rintro ⟨⟨y, k⟩, hi, hkK, hyl⟩
                simp only at hi hkK hyl ⊢
                have hys := hi.small hr
                rcases Decidable.em (o < k) with hko | hko
                · rcases (show k = 1 ∨ k = 2 ∨ k = 3 ∨ k = 4 by omega) with rfl | rfl | rfl | rfl
                  · have hoj : (o : Int) < 1 := by omega
                    have hl0 : y.f0.length ≤ 1000000 := by have : y.f0.length ≤ 1000 := hys 0 (by omega); omega
                    have hbb := inside_bounds (hi.same.ranges.2 hr) hi.inside
                    have h43z := F43_at (x := f + 1) (hi.valid.sorted 0 (by omega)) hl0
                    have h51z := insF_at (x := f + 1) hl0
                    have hlow := hi.low (show o ≤ 0 by omega) (by have := pow_pos' (k := 0); omega)
                    simp only [Zn.fr, List.getD_cons_zero, List.getD_cons_succ] at h43z
                    simp only [show ((2 : Int) ^ 0) = 1 from rfl, Zn.fr, List.getD_cons_zero, List.getD_cons_succ] at hlow
                    simp at hbb
                    repeat' (first | (apply aw_seq_k; intro K hK) | (refine aw_run hc (by first | exact aw_nod | (intro _; rw [ordB_w hw]; kernel_rfl) | (intro _; kernel_rfl)) ?_; simp [List.zipIdx, hoj, h43, h43z, h51, h51z, bits64, callM, giveArg, takeArg, take_irows, one1, -getM, getM_hit, getM_miss, getM_none]; (repeat (simp (disch := first | omega | assumption | fail) only [if_pos, if_neg, wrap64]; try simp [List.zipIdx, hoj, h43, h43z, h51, h51z, bits64, callM, giveArg, takeArg, take_irows, one1, -getM, getM_hit, getM_miss, getM_none])); try (repeat' (refine guardQ_split (fun h => ?_) (fun h => ?_) <;> simp at h <;> (simp [List.zipIdx, hoj, h43, h43z, h51, h51z, bits64, callM, giveArg, takeArg, take_irows, one1, -getM, getM_hit, getM_miss, getM_none]; (repeat (simp (disch := first | omega | assumption | fail) only [if_pos, if_neg, wrap64]; try simp [List.zipIdx, hoj, h43, h43z, h51, h51z, bits64, callM, giveArg, takeArg, take_irows, one1, -getM, getM_hit, getM_miss, getM_none])))))) | (refine aw_cond (b := _) (by exact rfl) (fun h => ?_) (fun h => ?_) <;> (try simp at h)) | (refine aw_block ?_) | (refine aw_skip ?_; simp only [thenQ, blockQ, if_true]) | (refine aw_exit ?_; simp [thenQ, blockQ]) | (refine aw_ret ?_; simp only [thenQ, blockQ]) | (refine aw_round ?_) | (refine hK _ ?_; clear hK) | (clear hK; refine hK _ ?_; clear hK) | (clear hK; clear hK; refine hK _ ?_; clear hK) | (clear hK; clear hK; clear hK; refine hK _ ?_; clear hK))
                    have hyl2 : (y.set 0 (insI y.f0 (f + 1))).f4 = l := by simpa only [Zn.set] using hyl
                    refine ⟨y.set 0 (insI y.f0 (f + 1)), ?_, hlow, hyl2⟩
                    simp only [Zn.set]
                    refine le_turn (s1 := ?tus13) (m1 := ?tum13) [(480, 1264)] [8, 1, 4, 9, 10] [0, 16, 496, 1264, 481, 482, 483, 484] ?tua13 ?tub13 ?tuc13 ?tud13 ?tue13 ?tuf13 ?tug13
                    case tua13 => first | (simp [keepS]; done) | (simp [keepS]; rfl)
                    case tub13 => first | (simp; done) | (simp; rfl)
                    case tuc13 => simp
                    case tud13 => simp
                    case tue13 => simp
                    case tuf13 => simp
                    case tug13 =>
                      simp [swp, vr]
                      exact le_of2 (by simp) (by simp [AVle, AV.under, AV.underL] <;> omega) (by simp [AOle, AO.under, AV.underL, AV.under] <;> omega)
                  · have hoj : (o : Int) < 2 := by omega
                    have hl1 : y.f1.length ≤ 1000000 := by have : y.f1.length ≤ 1000 := hys 1 (by omega); omega
                    have hbb := inside_bounds (hi.same.ranges.2 hr) hi.inside
                    have h43z := F43_at (x := f + 2) (hi.valid.sorted 1 (by omega)) hl1
                    have h51z := insF_at (x := f + 2) hl1
                    have hlow := hi.low (show o ≤ 1 by omega) (by have := pow_pos' (k := 1); omega)
                    simp only [Zn.fr, List.getD_cons_zero, List.getD_cons_succ] at h43z
                    simp only [show ((2 : Int) ^ 1) = 2 from rfl, Zn.fr, List.getD_cons_zero, List.getD_cons_succ] at hlow
                    simp at hbb
                    repeat' (first | (apply aw_seq_k; intro K hK) | (refine aw_run hc (by first | exact aw_nod | (intro _; rw [ordB_w hw]; kernel_rfl) | (intro _; kernel_rfl)) ?_; simp [List.zipIdx, hoj, h43, h43z, h51, h51z, bits64, callM, giveArg, takeArg, take_irows, one1, -getM, getM_hit, getM_miss, getM_none]; (repeat (simp (disch := first | omega | assumption | fail) only [if_pos, if_neg, wrap64]; try simp [List.zipIdx, hoj, h43, h43z, h51, h51z, bits64, callM, giveArg, takeArg, take_irows, one1, -getM, getM_hit, getM_miss, getM_none])); try (repeat' (refine guardQ_split (fun h => ?_) (fun h => ?_) <;> simp at h <;> (simp [List.zipIdx, hoj, h43, h43z, h51, h51z, bits64, callM, giveArg, takeArg, take_irows, one1, -getM, getM_hit, getM_miss, getM_none]; (repeat (simp (disch := first | omega | assumption | fail) only [if_pos, if_neg, wrap64]; try simp [List.zipIdx, hoj, h43, h43z, h51, h51z, bits64, callM, giveArg, takeArg, take_irows, one1, -getM, getM_hit, getM_miss, getM_none])))))) | (refine aw_cond (b := _) (by exact rfl) (fun h => ?_) (fun h => ?_) <;> (try simp at h)) | (refine aw_block ?_) | (refine aw_skip ?_; simp only [thenQ, blockQ, if_true]) | (refine aw_exit ?_; simp [thenQ, blockQ]) | (refine aw_ret ?_; simp only [thenQ, blockQ]) | (refine aw_round ?_) | (refine hK _ ?_; clear hK) | (clear hK; refine hK _ ?_; clear hK) | (clear hK; clear hK; refine hK _ ?_; clear hK) | (clear hK; clear hK; clear hK; refine hK _ ?_; clear hK))
                    have hyl2 : (y.set 1 (insI y.f1 (f + 2))).f4 = l := by simpa only [Zn.set] using hyl
                    refine ⟨y.set 1 (insI y.f1 (f + 2)), 1, ?_, ⟨hlow, by omega, hyl2⟩, by omega⟩
                    simp only [Zn.set]
                    refine le_turn (s1 := ?tus14) (m1 := ?tum14) [(481, 1264)] [8, 1, 4, 9, 10] [0, 16, 496, 480, 1264, 482, 483, 484] ?tua14 ?tub14 ?tuc14 ?tud14 ?tue14 ?tuf14 ?tug14
                    case tua14 => first | (simp [keepS]; done) | (simp [keepS]; rfl)
                    case tub14 => first | (simp; done) | (simp; rfl)
                    case tuc14 => simp
                    case tud14 => simp
                    case tue14 => simp
                    case tuf14 => simp
                    case tug14 =>
                      simp [swp, vr]
                      exact le_of2 (by simp) (by simp [AVle, AV.under, AV.underL] <;> omega) (by simp [AOle, AO.under, AV.underL, AV.under] <;> omega)
                  · have hoj : (o : Int) < 3 := by omega
                    have hl2 : y.f2.length ≤ 1000000 := by have : y.f2.length ≤ 1000 := hys 2 (by omega); omega
                    have hbb := inside_bounds (hi.same.ranges.2 hr) hi.inside
                    have h43z := F43_at (x := f + 4) (hi.valid.sorted 2 (by omega)) hl2
                    have h51z := insF_at (x := f + 4) hl2
                    have hlow := hi.low (show o ≤ 2 by omega) (by have := pow_pos' (k := 2); omega)
                    simp only [Zn.fr, List.getD_cons_zero, List.getD_cons_succ] at h43z
                    simp only [show ((2 : Int) ^ 2) = 4 from rfl, Zn.fr, List.getD_cons_zero, List.getD_cons_succ] at hlow
                    simp at hbb
                    repeat' (first | (apply aw_seq_k; intro K hK) | (refine aw_run hc (by first | exact aw_nod | (intro _; rw [ordB_w hw]; kernel_rfl) | (intro _; kernel_rfl)) ?_; simp [List.zipIdx, hoj, h43, h43z, h51, h51z, bits64, callM, giveArg, takeArg, take_irows, one1, -getM, getM_hit, getM_miss, getM_none]; (repeat (simp (disch := first | omega | assumption | fail) only [if_pos, if_neg, wrap64]; try simp [List.zipIdx, hoj, h43, h43z, h51, h51z, bits64, callM, giveArg, takeArg, take_irows, one1, -getM, getM_hit, getM_miss, getM_none])); try (repeat' (refine guardQ_split (fun h => ?_) (fun h => ?_) <;> simp at h <;> (simp [List.zipIdx, hoj, h43, h43z, h51, h51z, bits64, callM, giveArg, takeArg, take_irows, one1, -getM, getM_hit, getM_miss, getM_none]; (repeat (simp (disch := first | omega | assumption | fail) only [if_pos, if_neg, wrap64]; try simp [List.zipIdx, hoj, h43, h43z, h51, h51z, bits64, callM, giveArg, takeArg, take_irows, one1, -getM, getM_hit, getM_miss, getM_none])))))) | (refine aw_cond (b := _) (by exact rfl) (fun h => ?_) (fun h => ?_) <;> (try simp at h)) | (refine aw_block ?_) | (refine aw_skip ?_; simp only [thenQ, blockQ, if_true]) | (refine aw_exit ?_; simp [thenQ, blockQ]) | (refine aw_ret ?_; simp only [thenQ, blockQ]) | (refine aw_round ?_) | (refine hK _ ?_; clear hK) | (clear hK; refine hK _ ?_; clear hK) | (clear hK; clear hK; refine hK _ ?_; clear hK) | (clear hK; clear hK; clear hK; refine hK _ ?_; clear hK))
                    have hyl2 : (y.set 2 (insI y.f2 (f + 4))).f4 = l := by simpa only [Zn.set] using hyl
                    refine ⟨y.set 2 (insI y.f2 (f + 4)), 2, ?_, ⟨hlow, by omega, hyl2⟩, by omega⟩
                    simp only [Zn.set]
                    refine le_turn (s1 := ?tus15) (m1 := ?tum15) [(482, 1264)] [8, 1, 4, 9, 10] [0, 16, 496, 480, 481, 1264, 483, 484] ?tua15 ?tub15 ?tuc15 ?tud15 ?tue15 ?tuf15 ?tug15
                    case tua15 => first | (simp [keepS]; done) | (simp [keepS]; rfl)
                    case tub15 => first | (simp; done) | (simp; rfl)
                    case tuc15 => simp
                    case tud15 => simp
                    case tue15 => simp
                    case tuf15 => simp
                    case tug15 =>
                      simp [swp, vr]
                      exact le_of2 (by simp) (by simp [AVle, AV.under, AV.underL] <;> omega) (by simp [AOle, AO.under, AV.underL, AV.under] <;> omega)
                  · have hoj : (o : Int) < 4 := by omega
                    have hl3 : y.f3.length ≤ 1000000 := by have : y.f3.length ≤ 1000 := hys 3 (by omega); omega
                    have hbb := inside_bounds (hi.same.ranges.2 hr) hi.inside
                    have h43z := F43_at (x := f + 8) (hi.valid.sorted 3 (by omega)) hl3
                    have h51z := insF_at (x := f + 8) hl3
                    have hlow := hi.low (show o ≤ 3 by omega) (by have := pow_pos' (k := 3); omega)
                    simp only [Zn.fr, List.getD_cons_zero, List.getD_cons_succ] at h43z
                    simp only [show ((2 : Int) ^ 3) = 8 from rfl, Zn.fr, List.getD_cons_zero, List.getD_cons_succ] at hlow
                    simp at hbb
                    repeat' (first | (apply aw_seq_k; intro K hK) | (refine aw_run hc (by first | exact aw_nod | (intro _; rw [ordB_w hw]; kernel_rfl) | (intro _; kernel_rfl)) ?_; simp [List.zipIdx, hoj, h43, h43z, h51, h51z, bits64, callM, giveArg, takeArg, take_irows, one1, -getM, getM_hit, getM_miss, getM_none]; (repeat (simp (disch := first | omega | assumption | fail) only [if_pos, if_neg, wrap64]; try simp [List.zipIdx, hoj, h43, h43z, h51, h51z, bits64, callM, giveArg, takeArg, take_irows, one1, -getM, getM_hit, getM_miss, getM_none])); try (repeat' (refine guardQ_split (fun h => ?_) (fun h => ?_) <;> simp at h <;> (simp [List.zipIdx, hoj, h43, h43z, h51, h51z, bits64, callM, giveArg, takeArg, take_irows, one1, -getM, getM_hit, getM_miss, getM_none]; (repeat (simp (disch := first | omega | assumption | fail) only [if_pos, if_neg, wrap64]; try simp [List.zipIdx, hoj, h43, h43z, h51, h51z, bits64, callM, giveArg, takeArg, take_irows, one1, -getM, getM_hit, getM_miss, getM_none])))))) | (refine aw_cond (b := _) (by exact rfl) (fun h => ?_) (fun h => ?_) <;> (try simp at h)) | (refine aw_block ?_) | (refine aw_skip ?_; simp only [thenQ, blockQ, if_true]) | (refine aw_exit ?_; simp [thenQ, blockQ]) | (refine aw_ret ?_; simp only [thenQ, blockQ]) | (refine aw_round ?_) | (refine hK _ ?_; clear hK) | (clear hK; refine hK _ ?_; clear hK) | (clear hK; clear hK; refine hK _ ?_; clear hK) | (clear hK; clear hK; clear hK; refine hK _ ?_; clear hK))
                    have hyl2 : (y.set 3 (insI y.f3 (f + 8))).f4 = l := by simpa only [Zn.set] using hyl
                    refine ⟨y.set 3 (insI y.f3 (f + 8)), 3, ?_, ⟨hlow, by omega, hyl2⟩, by omega⟩
                    simp only [Zn.set]
                    refine le_turn (s1 := ?tus16) (m1 := ?tum16) [(483, 1264)] [8, 1, 4, 9, 10] [0, 16, 496, 480, 481, 482, 1264, 484] ?tua16 ?tub16 ?tuc16 ?tud16 ?tue16 ?tuf16 ?tug16
                    case tua16 => first | (simp [keepS]; done) | (simp [keepS]; rfl)
                    case tub16 => first | (simp; done) | (simp; rfl)
                    case tuc16 => simp
                    case tud16 => simp
                    case tue16 => simp
                    case tuf16 => simp
                    case tug16 =>
                      simp [swp, vr]
                      exact le_of2 (by simp) (by simp [AVle, AV.under, AV.underL] <;> omega) (by simp [AOle, AO.under, AV.underL, AV.under] <;> omega)
                · have hok2 := hi.ok
                  obtain rfl : k = o := by omega
                  have hkoI : ¬ ((k : Int) < (k : Int)) := by omega
                  have hd := hi.done
                  rw [hd] at hal
                  have hys := hi.same
                  unfold sameP at hys
                  repeat' (first | (apply aw_seq_k; intro K hK) | (refine aw_run hc (by first | exact aw_nod | (intro _; rw [ordB_w hw]; kernel_rfl) | (intro _; kernel_rfl)) ?_; simp [List.zipIdx, hkoI, -getM, getM_hit, getM_miss, getM_none]; (repeat (simp (disch := first | omega | assumption | fail) only [if_pos, if_neg, wrap64]; try simp [List.zipIdx, hkoI, -getM, getM_hit, getM_miss, getM_none])); try (repeat' (refine guardQ_split (fun h => ?_) (fun h => ?_) <;> simp at h <;> (simp [List.zipIdx, hkoI, -getM, getM_hit, getM_miss, getM_none]; (repeat (simp (disch := first | omega | assumption | fail) only [if_pos, if_neg, wrap64]; try simp [List.zipIdx, hkoI, -getM, getM_hit, getM_miss, getM_none])))))) | (refine aw_cond (b := _) (by exact rfl) (fun h => ?_) (fun h => ?_) <;> (try simp at h)) | (refine aw_block ?_) | (refine aw_skip ?_; simp only [thenQ, blockQ, if_true]) | (refine aw_exit ?_; simp [thenQ, blockQ]) | (refine aw_ret ?_; simp only [thenQ, blockQ]) | (refine aw_round ?_) | (refine hK _ ?_; clear hK) | (clear hK; refine hK _ ?_; clear hK) | (clear hK; clear hK; refine hK _ ?_; clear hK) | (clear hK; clear hK; clear hK; refine hK _ ?_; clear hK))
                  refine ⟨by simp, ?_⟩
                  simp [leaves_iff, Try.f21, hal, Zn.ocells, take_irows, hys, hyl, show 1 + l.length ≤ l.length + 1 by omega]
                  try (first | omega | (refine decide_eq_decide.2 ?_; omega) | (refine decide_eq_false ?_; omega) | (refine decide_eq_true ?_; omega))
        · obtain rfl : k = 5 := by omega
          have hal := allocR_none hc0 ho4 fun j h1 h2 => hlow j h1 (by omega)
          repeat' (first | (apply aw_seq_k; intro K hK) | (refine aw_run hc (by first | exact aw_nod | (intro _; rw [ordB_w hw]; kernel_rfl) | (intro _; kernel_rfl)) ?_; simp [List.zipIdx, -getM, getM_hit, getM_miss, getM_none]; (repeat (simp (disch := first | omega | assumption | fail) only [if_pos, if_neg, wrap64]; try simp [List.zipIdx, -getM, getM_hit, getM_miss, getM_none])); try (repeat' (refine guardQ_split (fun h => ?_) (fun h => ?_) <;> simp at h <;> (simp [List.zipIdx, -getM, getM_hit, getM_miss, getM_none]; (repeat (simp (disch := first | omega | assumption | fail) only [if_pos, if_neg, wrap64]; try simp [List.zipIdx, -getM, getM_hit, getM_miss, getM_none])))))) | (refine aw_cond (b := _) (by exact rfl) (fun h => ?_) (fun h => ?_) <;> (try simp at h)) | (refine aw_block ?_) | (refine aw_skip ?_; simp only [thenQ, blockQ, if_true]) | (refine aw_exit ?_; simp [thenQ, blockQ]) | (refine aw_ret ?_; simp only [thenQ, blockQ]) | (refine aw_round ?_) | (refine hK _ ?_; clear hK) | (clear hK; refine hK _ ?_; clear hK) | (clear hK; clear hK; refine hK _ ?_; clear hK) | (clear hK; clear hK; clear hK; refine hK _ ?_; clear hK))
          refine ⟨by simp, ?_⟩
          simp [leaves_iff, Try.f21, hal, zeroZ, Zn.ocells, irows]
          try (first | omega | (refine decide_eq_decide.2 ?_; omega) | (refine decide_eq_false ?_; omega) | (refine decide_eq_true ?_; omega))
    · have hal := allocR_order hc0 ho
      rcases Decidable.em (o < 0) with ho1 | ho1
      · repeat' (first | (apply aw_seq_k; intro K hK) | (refine aw_run hc (by first | exact aw_nod | (intro _; rw [ordB_w hw]; kernel_rfl) | (intro _; kernel_rfl)) ?_; simp [List.zipIdx, h16z, hc0, ho1, -getM, getM_hit, getM_miss, getM_none]; (repeat (simp (disch := first | omega | assumption | fail) only [if_pos, if_neg, wrap64]; try simp [List.zipIdx, h16z, hc0, ho1, -getM, getM_hit, getM_miss, getM_none])); try (repeat' (refine guardQ_split (fun h => ?_) (fun h => ?_) <;> simp at h <;> (simp [List.zipIdx, h16z, hc0, ho1, -getM, getM_hit, getM_miss, getM_none]; (repeat (simp (disch := first | omega | assumption | fail) only [if_pos, if_neg, wrap64]; try simp [List.zipIdx, h16z, hc0, ho1, -getM, getM_hit, getM_miss, getM_none])))))) | (refine aw_cond (b := _) (by exact rfl) (fun h => ?_) (fun h => ?_) <;> (try simp at h)) | (refine aw_block ?_) | (refine aw_skip ?_; simp only [thenQ, blockQ, if_true]) | (refine aw_exit ?_; simp [thenQ, blockQ]) | (refine aw_ret ?_; simp only [thenQ, blockQ]) | (refine aw_round ?_) | (refine hK _ ?_; clear hK) | (clear hK; refine hK _ ?_; clear hK) | (clear hK; clear hK; refine hK _ ?_; clear hK) | (clear hK; clear hK; clear hK; refine hK _ ?_; clear hK))
        refine ⟨by simp, ?_⟩
        simp [leaves_iff, Try.f21, hal, zeroZ, Zn.ocells, irows]
        try (first | omega | (refine decide_eq_decide.2 ?_; omega) | (refine decide_eq_false ?_; omega) | (refine decide_eq_true ?_; omega))
      · have ho2 : 4 < o := by omega
        repeat' (first | (apply aw_seq_k; intro K hK) | (refine aw_run hc (by first | exact aw_nod | (intro _; rw [ordB_w hw]; kernel_rfl) | (intro _; kernel_rfl)) ?_; simp [List.zipIdx, h16z, hc0, ho1, ho2, -getM, getM_hit, getM_miss, getM_none]; (repeat (simp (disch := first | omega | assumption | fail) only [if_pos, if_neg, wrap64]; try simp [List.zipIdx, h16z, hc0, ho1, ho2, -getM, getM_hit, getM_miss, getM_none])); try (repeat' (refine guardQ_split (fun h => ?_) (fun h => ?_) <;> simp at h <;> (simp [List.zipIdx, h16z, hc0, ho1, ho2, -getM, getM_hit, getM_miss, getM_none]; (repeat (simp (disch := first | omega | assumption | fail) only [if_pos, if_neg, wrap64]; try simp [List.zipIdx, h16z, hc0, ho1, ho2, -getM, getM_hit, getM_miss, getM_none])))))) | (refine aw_cond (b := _) (by exact rfl) (fun h => ?_) (fun h => ?_) <;> (try simp at h)) | (refine aw_block ?_) | (refine aw_skip ?_; simp only [thenQ, blockQ, if_true]) | (refine aw_exit ?_; simp [thenQ, blockQ]) | (refine aw_ret ?_; simp only [thenQ, blockQ]) | (refine aw_round ?_) | (refine hK _ ?_; clear hK) | (clear hK; refine hK _ ?_; clear hK) | (clear hK; clear hK; refine hK _ ?_; clear hK) | (clear hK; clear hK; clear hK; refine hK _ ?_; clear hK))
        refine ⟨by simp, ?_⟩
        simp [leaves_iff, Try.f21, hal, zeroZ, Zn.ocells, irows]
        try (first | omega | (refine decide_eq_decide.2 ?_; omega) | (refine decide_eq_false ?_; omega) | (refine decide_eq_true ?_; omega))
  · have hal := allocR_bad (o := o) hc0
    repeat' (first | (apply aw_seq_k; intro K hK) | (refine aw_run hc (by first | exact aw_nod | (intro _; rw [ordB_w hw]; kernel_rfl) | (intro _; kernel_rfl)) ?_; simp [List.zipIdx, h16z, hc0, -getM, getM_hit, getM_miss, getM_none]; (repeat (simp (disch := first | omega | assumption | fail) only [if_pos, if_neg, wrap64]; try simp [List.zipIdx, h16z, hc0, -getM, getM_hit, getM_miss, getM_none])); try (repeat' (refine guardQ_split (fun h => ?_) (fun h => ?_) <;> simp at h <;> (simp [List.zipIdx, h16z, hc0, -getM, getM_hit, getM_miss, getM_none]; (repeat (simp (disch := first | omega | assumption | fail) only [if_pos, if_neg, wrap64]; try simp [List.zipIdx, h16z, hc0, -getM, getM_hit, getM_miss, getM_none])))))) | (refine aw_cond (b := _) (by exact rfl) (fun h => ?_) (fun h => ?_) <;> (try simp at h)) | (refine aw_block ?_) | (refine aw_skip ?_; simp only [thenQ, blockQ, if_true]) | (refine aw_exit ?_; simp [thenQ, blockQ]) | (refine aw_ret ?_; simp only [thenQ, blockQ]) | (refine aw_round ?_) | (refine hK _ ?_; clear hK) | (clear hK; refine hK _ ?_; clear hK) | (clear hK; clear hK; refine hK _ ?_; clear hK) | (clear hK; clear hK; clear hK; refine hK _ ?_; clear hK))
    refine ⟨by simp, ?_⟩
    simp [leaves_iff, Try.f21, hal, zeroZ, Zn.ocells, irows]
    try (first | omega | (refine decide_eq_decide.2 ?_; omega) | (refine decide_eq_false ?_; omega) | (refine decide_eq_true ?_; omega))
end Go.AM

/- buddy.Take. -/
namespace Go.AM
open Go Go.Proofs

set_option maxRecDepth 20000 in
set_option maxHeartbeats 4000000 in
theorem s29 (X : AX) (hX : XOK Try.prog X) (hw : X.W wT) (h16 : ∀ z M n, small z → X.call 16 [.agg z.cells] M n = some (I (checkZ z), []))
    (h42 : ∀ (z : Zn) (f : Int) (k : Nat) M n, rangesZ z → k ≤ 5 → X.call 42 [.agg z.cells, I f, I (k : Int)] M n = some (B (insideZ z f k), []))
    (h43 : X.call 43 = callP F43) (h50 : X.call 50 = callP F50) (h51 : X.call 51 = callM false one1 insF)
    (h52 : ∀ z x M n, Valid z → small z → 0 ≤ x → x < 256 → X.call 52 [.agg z.cells, I x] M n = some (.tup [I (blkR z x).1, I (blkR z x).2], []))
    (h53 : X.call 53 = callM false one1 delF) :
    PSound Try.prog 29 (specF (ι := {x : Zn × Int // small x.1}) (fun x => [.agg x.1.1.cells, I x.1.2]) fun x => retOf [.agg (takeR x.1.1 x.1.2).1.ocells, I (takeR x.1.1 x.1.2).2]) := by
  refine psound_spec hX mixed Try.func29 rfl fun ⟨⟨z, x⟩, hz⟩ w0 G => ⟨by show 2 ≤ 91; decide, rfl, ?_⟩
  show AW ⟨Try.prog, X, 91, w0, .pure G⟩ _ _ _
  have hc : Cx.OK ⟨Try.prog, X, 91, w0, .pure G⟩ := ⟨hX, mixed⟩
  simp only at hz ⊢
  have h16z := fun M n => h16 z M n hz
  rcases Decidable.em (checkZ z = 0) with hc0 | hc0
  · obtain ⟨hr, hv⟩ := check_parts hc0
    rcases Decidable.em (insideZ z x 0) with hin | hin
    · have h42z : ∀ M n, X.call 42 [.agg z.cells, I x, I 0] M n = some (B true, []) := fun M n => by
        have := h42 z x 0 M n hr (by omega)
        rwa [decide_eq_true hin] at this
      have hb := inside_bounds hr hin
      have hx : 0 ≤ x ∧ x < 256 := by have := hb.2; simp at this; omega
      have h52z := fun M n => h52 z x M n hv hz hx.1 hx.2
      rcases blkR_cases hv x with ⟨hfr, he⟩ | ⟨k, hk, hm, hfr, he⟩
      · rw [he] at h52z
        have hal := takeR_none hc0 hin hfr
        repeat' (first | (apply aw_seq_k; intro K hK) | (refine aw_run hc (by first | exact aw_nod | (intro _; rw [ordB_w hw]; kernel_rfl) | (intro _; kernel_rfl)) ?_; simp [List.zipIdx, h16z, hc0, h42z, h52z, -getM, getM_hit, getM_miss, getM_none]; (repeat (simp (disch := first | omega | assumption | fail) only [if_pos, if_neg, wrap64]; try simp [List.zipIdx, h16z, hc0, h42z, h52z, -getM, getM_hit, getM_miss, getM_none])); try (repeat' (refine guardQ_split (fun h => ?_) (fun h => ?_) <;> simp at h <;> (simp [List.zipIdx, h16z, hc0, h42z, h52z, -getM, getM_hit, getM_miss, getM_none]; (repeat (simp (disch := first | omega | assumption | fail) only [if_pos, if_neg, wrap64]; try simp [List.zipIdx, h16z, hc0, h42z, h52z, -getM, getM_hit, getM_miss, getM_none])))))) | (refine aw_cond (b := _) (by exact rfl) (fun h => ?_) (fun h => ?_) <;> (try simp at h)) | (refine aw_block ?_) | (refine aw_skip ?_; simp only [thenQ, blockQ, if_true]) | (refine aw_exit ?_; simp [thenQ, blockQ]) | (refine aw_ret ?_; simp only [thenQ, blockQ]) | (refine aw_round ?_) | (refine hK _ ?_; clear hK) | (clear hK; refine hK _ ?_; clear hK) | (clear hK; clear hK; refine hK _ ?_; clear hK) | (clear hK; clear hK; clear hK; refine hK _ ?_; clear hK))
        refine ⟨by simp, ?_⟩
        simp [leaves_iff, Try.f29, hal, zeroZ, Zn.ocells, irows]
        try (first | omega | (refine decide_eq_decide.2 ?_; omega) | (refine decide_eq_false ?_; omega) | (refine decide_eq_true ?_; omega))
      · rw [he] at h52z
        have hki : ¬ (k : Int) < 0 := by omega
        have hal := take_split hc0 hk hm
        have hms := mod_self (g := x) hk
        have hbm := inside_bounds hr (hv.inside k _ hk hm)
        obtain ⟨t1, t2⟩ := delI_ok (hv.sorted k hk) hm
        have hsi := SplitInv.start (x := x) (o := 0) hv hk (Nat.zero_le _) hm t1 t2 hms.2.1 hms.2.2
        have h50z := F50_at hz
        rw [Nat.sub_zero] at hsi
        change takeR z x = ((splitX k (z.set k (delI (z.fr k) (bs x k))) (bs x k) k x).1, 0) at hal
        change SplitInv z x 0 (splitX k (z.set k (delI (z.fr k) (bs x k))) (bs x k) k x) (z.set k (delI (z.fr k) (bs x k))) (bs x k) k at hsi
        obtain ⟨T, hT⟩ : ∃ T, T = splitX k (z.set k (delI (z.fr k) (bs x k))) (bs x k) k x := ⟨_, rfl⟩
        rw [← hT] at hsi hal
        have hlk : (z.fr k).length ≤ 1000000 := by have := hz k hk; omega
        have hbl := below_le (z.fr k) (bs x k)
        have h43k := F43_at (x := bs x k) (hv.sorted k hk) hlk
        have h53k := delF_at (hv.sorted k hk) hm hlk
        obtain ⟨b, hbe⟩ : ∃ b, b = bs x k := ⟨_, rfl⟩
        change bs x k ∈ z.fr k at hm
        change delF (.ow 1 (irows (z.fr k))) [I (below (z.fr k) (bs x k)), I ((below (z.fr k) (bs x k) : Int) + 1)] = some (.ow 1 (irows (delI (z.fr k) (bs x k))), .any) at h53k
        rw [← hbe] at hsi h43k h53k h52z hbl hm
        rcases le4 hk with rfl | rfl | rfl | rfl | rfl
        · have hcz : z.cells[5 + 0]? = some (.rd 1 (irows z.f0)) := rfl
          simp only [Nat.reduceAdd] at hcz
          simp only [Zn.fr, List.getD_cons_zero, List.getD_cons_succ] at h43k h53k hlk hbl hm
          have h52y : ∀ M n, X.call 52 [.agg z.cells, I x] M n = some (.tup [I 0, I b], []) := h52z
          repeat' (first | (apply aw_seq_k; intro K hK) | (refine aw_run hc (by first | exact aw_nod | (intro _; rw [ordB_w hw]; kernel_rfl) | (intro _; kernel_rfl)) ?_; simp [List.zipIdx, h16z, hc0, h42z, h52y, hcz, h50, h50z, h43, h43k, h53, h53k, Zn.ocells, callM, giveArg, takeArg, take_irows, one1, -getM, getM_hit, getM_miss, getM_none]; (repeat (simp (disch := first | omega | assumption | fail) only [if_pos, if_neg, wrap64]; try simp [List.zipIdx, h16z, hc0, h42z, h52y, hcz, h50, h50z, h43, h43k, h53, h53k, Zn.ocells, callM, giveArg, takeArg, take_irows, one1, -getM, getM_hit, getM_miss, getM_none])); try (repeat' (refine guardQ_split (fun h => ?_) (fun h => ?_) <;> simp at h <;> (simp [List.zipIdx, h16z, hc0, h42z, h52y, hcz, h50, h50z, h43, h43k, h53, h53k, Zn.ocells, callM, giveArg, takeArg, take_irows, one1, -getM, getM_hit, getM_miss, getM_none]; (repeat (simp (disch := first | omega | assumption | fail) only [if_pos, if_neg, wrap64]; try simp [List.zipIdx, h16z, hc0, h42z, h52y, hcz, h50, h50z, h43, h43k, h53, h53k, Zn.ocells, callM, giveArg, takeArg, take_irows, one1, -getM, getM_hit, getM_miss, getM_none])))))) | (refine aw_cond (b := _) (by exact rfl) (fun h => ?_) (fun h => ?_) <;> (try simp at h)) | (refine aw_block ?_) | (refine aw_skip ?_; simp only [thenQ, blockQ, if_true]) | (refine aw_exit ?_; simp [thenQ, blockQ]) | (refine aw_ret ?_; simp only [thenQ, blockQ]) | (refine aw_round ?_) | (refine hK _ ?_; clear hK) | (clear hK; refine hK _ ?_; clear hK) | (clear hK; clear hK; refine hK _ ?_; clear hK) | (clear hK; clear hK; clear hK; refine hK _ ?_; clear hK))
          refine aw_loopK (s0 := ?lps1) (m0 := ?lpm1) (ι := {p : Zn × Int × Nat // SplitInv z x 0 T p.1 p.2.1 p.2.2 ∧ p.2.2 ≤ 0}) [1, 4, 9] (fun p => [(7, I p.1.2.2), (8, I p.1.2.1)]) (fun p => [(384, .box [I z.node, I z.kind, I z.start, I z.count, I z.least, .sl 720 1 1 0 p.1.1.f0.length, .sl 369 1 1 0 p.1.1.f1.length, .sl 370 1 1 0 p.1.1.f2.length, .sl 371 1 1 0 p.1.1.f3.length, .sl 372 1 1 0 p.1.1.f4.length]), (720, .vec 1 1 false (irows p.1.1.f0)), (369, .vec 1 1 false (irows p.1.1.f1)), (370, .vec 1 1 false (irows p.1.1.f2)), (371, .vec 1 1 false (irows p.1.1.f3)), (372, .vec 1 1 false (irows p.1.1.f4))]) (fun p => p.1.2.2) ⟨(z.set 0 (delI z.f0 b), b, 0), hsi, Nat.le_refl _⟩ ?lhs1 ?lhm1 ?_ ?_
          case lhs1 => first | (simp [keepS]; done) | (simp [keepS]; rfl)
          case lhm1 => first | rfl | (simp; done) | (simp; rfl)
          · simp only [Zn.set]
            exact le_of2 (by simp) (by simp [AVle, AV.under, AV.underL] <;> omega) (by simp [AOle, AO.under, AV.underL, AV.under] <;> omega)
          · rintro ⟨⟨y, f, k⟩, hi, hkK⟩
            simp only at hi hkK ⊢
            have hys := hi.small hr
            rcases Decidable.em (0 < k) with hko | hko'
            · omega
            · obtain rfl : k = 0 := by omega
              have hd := hi.done
              rw [hd] at hal
              have hys := hi.same
              unfold sameP at hys
              repeat' (first | (apply aw_seq_k; intro K hK) | (refine aw_run hc (by first | exact aw_nod | (intro _; rw [ordB_w hw]; kernel_rfl) | (intro _; kernel_rfl)) ?_; simp [List.zipIdx, -getM, getM_hit, getM_miss, getM_none]; (repeat (simp (disch := first | omega | assumption | fail) only [if_pos, if_neg, wrap64]; try simp [List.zipIdx, -getM, getM_hit, getM_miss, getM_none])); try (repeat' (refine guardQ_split (fun h => ?_) (fun h => ?_) <;> simp at h <;> (simp [List.zipIdx, -getM, getM_hit, getM_miss, getM_none]; (repeat (simp (disch := first | omega | assumption | fail) only [if_pos, if_neg, wrap64]; try simp [List.zipIdx, -getM, getM_hit, getM_miss, getM_none])))))) | (refine aw_cond (b := _) (by exact rfl) (fun h => ?_) (fun h => ?_) <;> (try simp at h)) | (refine aw_block ?_) | (refine aw_skip ?_; simp only [thenQ, blockQ, if_true]) | (refine aw_exit ?_; simp [thenQ, blockQ]) | (refine aw_ret ?_; simp only [thenQ, blockQ]) | (refine aw_round ?_) | (refine hK _ ?_; clear hK) | (clear hK; refine hK _ ?_; clear hK) | (clear hK; clear hK; refine hK _ ?_; clear hK) | (clear hK; clear hK; clear hK; refine hK _ ?_; clear hK))
              refine ⟨by simp, ?_⟩
              simp [leaves_iff, Try.f29, hal, Zn.ocells, take_irows, hys]
              try (first | omega | (refine decide_eq_decide.2 ?_; omega) | (refine decide_eq_false ?_; omega) | (refine decide_eq_true ?_; omega))
        · have hcz : z.cells[5 + 1]? = some (.rd 1 (irows z.f1)) := rfl
          simp only [Nat.reduceAdd] at hcz
          simp only [Zn.fr, List.getD_cons_zero, List.getD_cons_succ] at h43k h53k hlk hbl hm
          have h52y : ∀ M n, X.call 52 [.agg z.cells, I x] M n = some (.tup [I 1, I b], []) := h52z
          repeat' (first | (apply aw_seq_k; intro K hK) | (refine aw_run hc (by first | exact aw_nod | (intro _; rw [ordB_w hw]; kernel_rfl) | (intro _; kernel_rfl)) ?_; simp [List.zipIdx, h16z, hc0, h42z, h52y, hcz, h50, h50z, h43, h43k, h53, h53k, Zn.ocells, callM, giveArg, takeArg, take_irows, one1, -getM, getM_hit, getM_miss, getM_none]; (repeat (simp (disch := first | omega | assumption | fail) only [if_pos, if_neg, wrap64]; try simp [List.zipIdx, h16z, hc0, h42z, h52y, hcz, h50, h50z, h43, h43k, h53, h53k, Zn.ocells, callM, giveArg, takeArg, take_irows, one1, -getM, getM_hit, getM_miss, getM_none])); try (repeat' (refine guardQ_split (fun h => ?_) (fun h => ?_) <;> simp at h <;> (simp [List.zipIdx, h16z, hc0, h42z, h52y, hcz, h50, h50z, h43, h43k, h53, h53k, Zn.ocells, callM, giveArg, takeArg, take_irows, one1, -getM, getM_hit, getM_miss, getM_none]; (repeat (simp (disch := first | omega | assumption | fail) only [if_pos, if_neg, wrap64]; try simp [List.zipIdx, h16z, hc0, h42z, h52y, hcz, h50, h50z, h43, h43k, h53, h53k, Zn.ocells, callM, giveArg, takeArg, take_irows, one1, -getM, getM_hit, getM_miss, getM_none])))))) | (refine aw_cond (b := _) (by exact rfl) (fun h => ?_) (fun h => ?_) <;> (try simp at h)) | (refine aw_block ?_) | (refine aw_skip ?_; simp only [thenQ, blockQ, if_true]) | (refine aw_exit ?_; simp [thenQ, blockQ]) | (refine aw_ret ?_; simp only [thenQ, blockQ]) | (refine aw_round ?_) | (refine hK _ ?_; clear hK) | (clear hK; refine hK _ ?_; clear hK) | (clear hK; clear hK; refine hK _ ?_; clear hK) | (clear hK; clear hK; clear hK; refine hK _ ?_; clear hK))
          refine aw_loopK (s0 := ?lps2) (m0 := ?lpm2) (ι := {p : Zn × Int × Nat // SplitInv z x 0 T p.1 p.2.1 p.2.2 ∧ p.2.2 ≤ 1}) [1, 4, 9] (fun p => [(7, I p.1.2.2), (8, I p.1.2.1)]) (fun p => [(384, .box [I z.node, I z.kind, I z.start, I z.count, I z.least, .sl 368 1 1 0 p.1.1.f0.length, .sl 720 1 1 0 p.1.1.f1.length, .sl 370 1 1 0 p.1.1.f2.length, .sl 371 1 1 0 p.1.1.f3.length, .sl 372 1 1 0 p.1.1.f4.length]), (368, .vec 1 1 false (irows p.1.1.f0)), (720, .vec 1 1 false (irows p.1.1.f1)), (370, .vec 1 1 false (irows p.1.1.f2)), (371, .vec 1 1 false (irows p.1.1.f3)), (372, .vec 1 1 false (irows p.1.1.f4))]) (fun p => p.1.2.2) ⟨(z.set 1 (delI z.f1 b), b, 1), hsi, Nat.le_refl _⟩ ?lhs2 ?lhm2 ?_ ?_
          case lhs2 => first | (simp [keepS]; done) | (simp [keepS]; rfl)
          case lhm2 => first | rfl | (simp; done) | (simp; rfl)
          · simp only [Zn.set]
            exact le_of2 (by simp) (by simp [AVle, AV.under, AV.underL] <;> omega) (by simp [AOle, AO.under, AV.underL, AV.under] <;> omega)
          · rintro ⟨⟨y, f, k⟩, hi, hkK⟩
            simp only at hi hkK ⊢
            have hys := hi.small hr
            rcases Decidable.em (0 < k) with hko | hko'
            · rcases (show k = 1 by omega) with rfl
              · have hl0 : y.f0.length ≤ 1000000 := by have : y.f0.length ≤ 1000 := hys 0 (by omega); omega
                have hbb := inside_bounds (hi.same.ranges.2 hr) hi.inside
                simp at hbb
                rcases Decidable.em (x < f + 1) with hxf | hxf
                · have hxc : ¬ (f + 1 ≤ x) := by omega
                  have h43z := F43_at (x := f + 1) (hi.valid.sorted 0 (by omega)) hl0
                  have h51z := insF_at (x := f + 1) hl0
                  have hnx := hi.low (Nat.zero_le 0) hxf
                  simp only [Zn.fr, List.getD_cons_zero, List.getD_cons_succ] at h43z
                  simp only [show ((2 : Int) ^ 0) = 1 from rfl, Zn.fr, List.getD_cons_zero, List.getD_cons_succ] at hnx
                  repeat' (first | (apply aw_seq_k; intro K hK) | (refine aw_run hc (by first | exact aw_nod | (intro _; rw [ordB_w hw]; kernel_rfl) | (intro _; kernel_rfl)) ?_; simp [List.zipIdx, hxc, h43, h43z, h51, h51z, bits64, callM, giveArg, takeArg, take_irows, one1, -getM, getM_hit, getM_miss, getM_none]; (repeat (simp (disch := first | omega | assumption | fail) only [if_pos, if_neg, wrap64]; try simp [List.zipIdx, hxc, h43, h43z, h51, h51z, bits64, callM, giveArg, takeArg, take_irows, one1, -getM, getM_hit, getM_miss, getM_none])); try (repeat' (refine guardQ_split (fun h => ?_) (fun h => ?_) <;> simp at h <;> (simp [List.zipIdx, hxc, h43, h43z, h51, h51z, bits64, callM, giveArg, takeArg, take_irows, one1, -getM, getM_hit, getM_miss, getM_none]; (repeat (simp (disch := first | omega | assumption | fail) only [if_pos, if_neg, wrap64]; try simp [List.zipIdx, hxc, h43, h43z, h51, h51z, bits64, callM, giveArg, takeArg, take_irows, one1, -getM, getM_hit, getM_miss, getM_none])))))) | (refine aw_cond (b := _) (by exact rfl) (fun h => ?_) (fun h => ?_) <;> (try simp at h)) | (refine aw_block ?_) | (refine aw_skip ?_; simp only [thenQ, blockQ, if_true]) | (refine aw_exit ?_; simp [thenQ, blockQ]) | (refine aw_ret ?_; simp only [thenQ, blockQ]) | (refine aw_round ?_) | (refine hK _ ?_; clear hK) | (clear hK; refine hK _ ?_; clear hK) | (clear hK; clear hK; refine hK _ ?_; clear hK) | (clear hK; clear hK; clear hK; refine hK _ ?_; clear hK))
                  refine ⟨y.set 0 (insI y.f0 (f + 1)), f, ?_, hnx⟩
                  simp only [Zn.set]
                  refine le_turn (s1 := ?tus3) (m1 := ?tum3) [(368, 1296)] [7, 8, 1, 4, 9] [0, 16, 384, 1296, 720, 370, 371, 372] ?tua3 ?tub3 ?tuc3 ?tud3 ?tue3 ?tuf3 ?tug3
                  case tua3 => first | (simp [keepS]; done) | (simp [keepS]; rfl)
                  case tub3 => first | (simp; done) | (simp; rfl)
                  case tuc3 => simp
                  case tud3 => simp
                  case tue3 => simp
                  case tuf3 => simp
                  case tug3 =>
                    simp [swp, vr]
                    exact le_of2 (by simp) (by simp [AVle, AV.under, AV.underL] <;> omega) (by simp [AOle, AO.under, AV.underL, AV.under] <;> omega)
                · have hxc : f + 1 ≤ x := by omega
                  have h43z := F43_at (x := f) (hi.valid.sorted 0 (by omega)) hl0
                  have h51z := insF_at (x := f) hl0
                  have hnx := hi.high (Nat.zero_le 0) hxf
                  simp only [Zn.fr, List.getD_cons_zero, List.getD_cons_succ] at h43z
                  simp only [show ((2 : Int) ^ 0) = 1 from rfl, Zn.fr, List.getD_cons_zero, List.getD_cons_succ] at hnx
                  repeat' (first | (apply aw_seq_k; intro K hK) | (refine aw_run hc (by first | exact aw_nod | (intro _; rw [ordB_w hw]; kernel_rfl) | (intro _; kernel_rfl)) ?_; simp [List.zipIdx, hxc, h43, h43z, h51, h51z, bits64, callM, giveArg, takeArg, take_irows, one1, -getM, getM_hit, getM_miss, getM_none]; (repeat (simp (disch := first | omega | assumption | fail) only [if_pos, if_neg, wrap64]; try simp [List.zipIdx, hxc, h43, h43z, h51, h51z, bits64, callM, giveArg, takeArg, take_irows, one1, -getM, getM_hit, getM_miss, getM_none])); try (repeat' (refine guardQ_split (fun h => ?_) (fun h => ?_) <;> simp at h <;> (simp [List.zipIdx, hxc, h43, h43z, h51, h51z, bits64, callM, giveArg, takeArg, take_irows, one1, -getM, getM_hit, getM_miss, getM_none]; (repeat (simp (disch := first | omega | assumption | fail) only [if_pos, if_neg, wrap64]; try simp [List.zipIdx, hxc, h43, h43z, h51, h51z, bits64, callM, giveArg, takeArg, take_irows, one1, -getM, getM_hit, getM_miss, getM_none])))))) | (refine aw_cond (b := _) (by exact rfl) (fun h => ?_) (fun h => ?_) <;> (try simp at h)) | (refine aw_block ?_) | (refine aw_skip ?_; simp only [thenQ, blockQ, if_true]) | (refine aw_exit ?_; simp [thenQ, blockQ]) | (refine aw_ret ?_; simp only [thenQ, blockQ]) | (refine aw_round ?_) | (refine hK _ ?_; clear hK) | (clear hK; refine hK _ ?_; clear hK) | (clear hK; clear hK; refine hK _ ?_; clear hK) | (clear hK; clear hK; clear hK; refine hK _ ?_; clear hK))
                  refine ⟨y.set 0 (insI y.f0 (f)), f + 1, ?_, hnx⟩
                  simp only [Zn.set]
                  refine le_turn (s1 := ?tus4) (m1 := ?tum4) [(368, 1360)] [7, 8, 1, 4, 9] [0, 16, 384, 1360, 720, 370, 371, 372] ?tua4 ?tub4 ?tuc4 ?tud4 ?tue4 ?tuf4 ?tug4
                  case tua4 => first | (simp [keepS]; done) | (simp [keepS]; rfl)
                  case tub4 => first | (simp; done) | (simp; rfl)
                  case tuc4 => simp
                  case tud4 => simp
                  case tue4 => simp
                  case tuf4 => simp
                  case tug4 =>
                    simp [swp, vr]
                    exact le_of2 (by simp) (by simp [AVle, AV.under, AV.underL] <;> omega) (by simp [AOle, AO.under, AV.underL, AV.under] <;> omega)
            · obtain rfl : k = 0 := by omega
              have hd := hi.done
              rw [hd] at hal
              have hys := hi.same
              unfold sameP at hys
              repeat' (first | (apply aw_seq_k; intro K hK) | (refine aw_run hc (by first | exact aw_nod | (intro _; rw [ordB_w hw]; kernel_rfl) | (intro _; kernel_rfl)) ?_; simp [List.zipIdx, -getM, getM_hit, getM_miss, getM_none]; (repeat (simp (disch := first | omega | assumption | fail) only [if_pos, if_neg, wrap64]; try simp [List.zipIdx, -getM, getM_hit, getM_miss, getM_none])); try (repeat' (refine guardQ_split (fun h => ?_) (fun h => ?_) <;> simp at h <;> (simp [List.zipIdx, -getM, getM_hit, getM_miss, getM_none]; (repeat (simp (disch := first | omega | assumption | fail) only [if_pos, if_neg, wrap64]; try simp [List.zipIdx, -getM, getM_hit, getM_miss, getM_none])))))) | (refine aw_cond (b := _) (by exact rfl) (fun h => ?_) (fun h => ?_) <;> (try simp at h)) | (refine aw_block ?_) | (refine aw_skip ?_; simp only [thenQ, blockQ, if_true]) | (refine aw_exit ?_; simp [thenQ, blockQ]) | (refine aw_ret ?_; simp only [thenQ, blockQ]) | (refine aw_round ?_) | (refine hK _ ?_; clear hK) | (clear hK; refine hK _ ?_; clear hK) | (clear hK; clear hK; refine hK _ ?_; clear hK) | (clear hK; clear hK; clear hK; refine hK _ ?_; clear hK))
              refine ⟨by simp, ?_⟩
              simp [leaves_iff, Try.f29, hal, Zn.ocells, take_irows, hys]
              try (first | omega | (refine decide_eq_decide.2 ?_; omega) | (refine decide_eq_false ?_; omega) | (refine decide_eq_true ?_; omega))
        · have hcz : z.cells[5 + 2]? = some (.rd 1 (irows z.f2)) := rfl
          simp only [Nat.reduceAdd] at hcz
          simp only [Zn.fr, List.getD_cons_zero, List.getD_cons_succ] at h43k h53k hlk hbl hm
          have h52y : ∀ M n, X.call 52 [.agg z.cells, I x] M n = some (.tup [I 2, I b], []) := h52z
          repeat' (first | (apply aw_seq_k; intro K hK) | (refine aw_run hc (by first | exact aw_nod | (intro _; rw [ordB_w hw]; kernel_rfl) | (intro _; kernel_rfl)) ?_; simp [List.zipIdx, h16z, hc0, h42z, h52y, hcz, h50, h50z, h43, h43k, h53, h53k, Zn.ocells, callM, giveArg, takeArg, take_irows, one1, -getM, getM_hit, getM_miss, getM_none]; (repeat (simp (disch := first | omega | assumption | fail) only [if_pos, if_neg, wrap64]; try simp [List.zipIdx, h16z, hc0, h42z, h52y, hcz, h50, h50z, h43, h43k, h53, h53k, Zn.ocells, callM, giveArg, takeArg, take_irows, one1, -getM, getM_hit, getM_miss, getM_none])); try (repeat' (refine guardQ_split (fun h => ?_) (fun h => ?_) <;> simp at h <;> (simp [List.zipIdx, h16z, hc0, h42z, h52y, hcz, h50, h50z, h43, h43k, h53, h53k, Zn.ocells, callM, giveArg, takeArg, take_irows, one1, -getM, getM_hit, getM_miss, getM_none]; (repeat (simp (disch := first | omega | assumption | fail) only [if_pos, if_neg, wrap64]; try simp [List.zipIdx, h16z, hc0, h42z, h52y, hcz, h50, h50z, h43, h43k, h53, h53k, Zn.ocells, callM, giveArg, takeArg, take_irows, one1, -getM, getM_hit, getM_miss, getM_none])))))) | (refine aw_cond (b := _) (by exact rfl) (fun h => ?_) (fun h => ?_) <;> (try simp at h)) | (refine aw_block ?_) | (refine aw_skip ?_; simp only [thenQ, blockQ, if_true]) | (refine aw_exit ?_; simp [thenQ, blockQ]) | (refine aw_ret ?_; simp only [thenQ, blockQ]) | (refine aw_round ?_) | (refine hK _ ?_; clear hK) | (clear hK; refine hK _ ?_; clear hK) | (clear hK; clear hK; refine hK _ ?_; clear hK) | (clear hK; clear hK; clear hK; refine hK _ ?_; clear hK))
          refine aw_loopK (s0 := ?lps5) (m0 := ?lpm5) (ι := {p : Zn × Int × Nat // SplitInv z x 0 T p.1 p.2.1 p.2.2 ∧ p.2.2 ≤ 2}) [1, 4, 9] (fun p => [(7, I p.1.2.2), (8, I p.1.2.1)]) (fun p => [(384, .box [I z.node, I z.kind, I z.start, I z.count, I z.least, .sl 368 1 1 0 p.1.1.f0.length, .sl 369 1 1 0 p.1.1.f1.length, .sl 720 1 1 0 p.1.1.f2.length, .sl 371 1 1 0 p.1.1.f3.length, .sl 372 1 1 0 p.1.1.f4.length]), (368, .vec 1 1 false (irows p.1.1.f0)), (369, .vec 1 1 false (irows p.1.1.f1)), (720, .vec 1 1 false (irows p.1.1.f2)), (371, .vec 1 1 false (irows p.1.1.f3)), (372, .vec 1 1 false (irows p.1.1.f4))]) (fun p => p.1.2.2) ⟨(z.set 2 (delI z.f2 b), b, 2), hsi, Nat.le_refl _⟩ ?lhs5 ?lhm5 ?_ ?_
          case lhs5 => first | (simp [keepS]; done) | (simp [keepS]; rfl)
          case lhm5 => first | rfl | (simp; done) | (simp; rfl)
          · simp only [Zn.set]
            exact le_of2 (by simp) (by simp [AVle, AV.under, AV.underL] <;> omega) (by simp [AOle, AO.under, AV.underL, AV.under] <;> omega)
          · rintro ⟨⟨y, f, k⟩, hi, hkK⟩
            simp only at hi hkK ⊢
            have hys := hi.small hr
            rcases Decidable.em (0 < k) with hko | hko'
            · rcases (show k = 1 ∨ k = 2 by omega) with rfl | rfl
              · have hl0 : y.f0.length ≤ 1000000 := by have : y.f0.length ≤ 1000 := hys 0 (by omega); omega
                have hbb := inside_bounds (hi.same.ranges.2 hr) hi.inside
                simp at hbb
                rcases Decidable.em (x < f + 1) with hxf | hxf
                · have hxc : ¬ (f + 1 ≤ x) := by omega
                  have h43z := F43_at (x := f + 1) (hi.valid.sorted 0 (by omega)) hl0
                  have h51z := insF_at (x := f + 1) hl0
                  have hnx := hi.low (Nat.zero_le 0) hxf
                  simp only [Zn.fr, List.getD_cons_zero, List.getD_cons_succ] at h43z
                  simp only [show ((2 : Int) ^ 0) = 1 from rfl, Zn.fr, List.getD_cons_zero, List.getD_cons_succ] at hnx
                  repeat' (first | (apply aw_seq_k; intro K hK) | (refine aw_run hc (by first | exact aw_nod | (intro _; rw [ordB_w hw]; kernel_rfl) | (intro _; kernel_rfl)) ?_; simp [List.zipIdx, hxc, h43, h43z, h51, h51z, bits64, callM, giveArg, takeArg, take_irows, one1, -getM, getM_hit, getM_miss, getM_none]; (repeat (simp (disch := first | omega | assumption | fail) only [if_pos, if_neg, wrap64]; try simp [List.zipIdx, hxc, h43, h43z, h51, h51z, bits64, callM, giveArg, takeArg, take_irows, one1, -getM, getM_hit, getM_miss, getM_none])); try (repeat' (refine guardQ_split (fun h => ?_) (fun h => ?_) <;> simp at h <;> (simp [List.zipIdx, hxc, h43, h43z, h51, h51z, bits64, callM, giveArg, takeArg, take_irows, one1, -getM, getM_hit, getM_miss, getM_none]; (repeat (simp (disch := first | omega | assumption | fail) only [if_pos, if_neg, wrap64]; try simp [List.zipIdx, hxc, h43, h43z, h51, h51z, bits64, callM, giveArg, takeArg, take_irows, one1, -getM, getM_hit, getM_miss, getM_none])))))) | (refine aw_cond (b := _) (by exact rfl) (fun h => ?_) (fun h => ?_) <;> (try simp at h)) | (refine aw_block ?_) | (refine aw_skip ?_; simp only [thenQ, blockQ, if_true]) | (refine aw_exit ?_; simp [thenQ, blockQ]) | (refine aw_ret ?_; simp only [thenQ, blockQ]) | (refine aw_round ?_) | (refine hK _ ?_; clear hK) | (clear hK; refine hK _ ?_; clear hK) | (clear hK; clear hK; refine hK _ ?_; clear hK) | (clear hK; clear hK; clear hK; refine hK _ ?_; clear hK))
                  refine ⟨y.set 0 (insI y.f0 (f + 1)), f, ?_, hnx⟩
                  simp only [Zn.set]
                  refine le_turn (s1 := ?tus6) (m1 := ?tum6) [(368, 1296)] [7, 8, 1, 4, 9] [0, 16, 384, 1296, 369, 720, 371, 372] ?tua6 ?tub6 ?tuc6 ?tud6 ?tue6 ?tuf6 ?tug6
                  case tua6 => first | (simp [keepS]; done) | (simp [keepS]; rfl)
                  case tub6 => first | (simp; done) | (simp; rfl)
                  case tuc6 => simp
                  case tud6 => simp
                  case tue6 => simp
                  case tuf6 => simp
                  case tug6 =>
                    simp [swp, vr]
                    exact le_of2 (by simp) (by simp [AVle, AV.under, AV.underL] <;> omega) (by simp [AOle, AO.under, AV.underL, AV.under] <;> omega)
                · have hxc : f + 1 ≤ x := by omega
                  have h43z := F43_at (x := f) (hi.valid.sorted 0 (by omega)) hl0
                  have h51z := insF_at (x := f) hl0
                  have hnx := hi.high (Nat.zero_le 0) hxf
                  simp only [Zn.fr, List.getD_cons_zero, List.getD_cons_succ] at h43z
                  simp only [show ((2 : Int) ^ 0) = 1 from rfl, Zn.fr, List.getD_cons_zero, List.getD_cons_succ] at hnx
                  repeat' (first | (apply aw_seq_k; intro K hK) | (refine aw_run hc (by first | exact aw_nod | (intro _; rw [ordB_w hw]; kernel_rfl) | (intro _; kernel_rfl)) ?_; simp [List.zipIdx, hxc, h43, h43z, h51, h51z, bits64, callM, giveArg, takeArg, take_irows, one1, -getM, getM_hit, getM_miss, getM_none]; (repeat (simp (disch := first | omega | assumption | fail) only [if_pos, if_neg, wrap64]; try simp [List.zipIdx, hxc, h43, h43z, h51, h51z, bits64, callM, giveArg, takeArg, take_irows, one1, -getM, getM_hit, getM_miss, getM_none])); try (repeat' (refine guardQ_split (fun h => ?_) (fun h => ?_) <;> simp at h <;> (simp [List.zipIdx, hxc, h43, h43z, h51, h51z, bits64, callM, giveArg, takeArg, take_irows, one1, -getM, getM_hit, getM_miss, getM_none]; (repeat (simp (disch := first | omega | assumption | fail) only [if_pos, if_neg, wrap64]; try simp [List.zipIdx, hxc, h43, h43z, h51, h51z, bits64, callM, giveArg, takeArg, take_irows, one1, -getM, getM_hit, getM_miss, getM_none])))))) | (refine aw_cond (b := _) (by exact rfl) (fun h => ?_) (fun h => ?_) <;> (try simp at h)) | (refine aw_block ?_) | (refine aw_skip ?_; simp only [thenQ, blockQ, if_true]) | (refine aw_exit ?_; simp [thenQ, blockQ]) | (refine aw_ret ?_; simp only [thenQ, blockQ]) | (refine aw_round ?_) | (refine hK _ ?_; clear hK) | (clear hK; refine hK _ ?_; clear hK) | (clear hK; clear hK; refine hK _ ?_; clear hK) | (clear hK; clear hK; clear hK; refine hK _ ?_; clear hK))
                  refine ⟨y.set 0 (insI y.f0 (f)), f + 1, ?_, hnx⟩
                  simp only [Zn.set]
                  refine le_turn (s1 := ?tus7) (m1 := ?tum7) [(368, 1360)] [7, 8, 1, 4, 9] [0, 16, 384, 1360, 369, 720, 371, 372] ?tua7 ?tub7 ?tuc7 ?tud7 ?tue7 ?tuf7 ?tug7
                  case tua7 => first | (simp [keepS]; done) | (simp [keepS]; rfl)
                  case tub7 => first | (simp; done) | (simp; rfl)
                  case tuc7 => simp
                  case tud7 => simp
                  case tue7 => simp
                  case tuf7 => simp
                  case tug7 =>
                    simp [swp, vr]
                    exact le_of2 (by simp) (by simp [AVle, AV.under, AV.underL] <;> omega) (by simp [AOle, AO.under, AV.underL, AV.under] <;> omega)
              · have hl1 : y.f1.length ≤ 1000000 := by have : y.f1.length ≤ 1000 := hys 1 (by omega); omega
                have hbb := inside_bounds (hi.same.ranges.2 hr) hi.inside
                simp at hbb
                rcases Decidable.em (x < f + 2) with hxf | hxf
                · have hxc : ¬ (f + 2 ≤ x) := by omega
                  have h43z := F43_at (x := f + 2) (hi.valid.sorted 1 (by omega)) hl1
                  have h51z := insF_at (x := f + 2) hl1
                  have hnx := hi.low (Nat.zero_le 1) hxf
                  simp only [Zn.fr, List.getD_cons_zero, List.getD_cons_succ] at h43z
                  simp only [show ((2 : Int) ^ 1) = 2 from rfl, Zn.fr, List.getD_cons_zero, List.getD_cons_succ] at hnx
                  repeat' (first | (apply aw_seq_k; intro K hK) | (refine aw_run hc (by first | exact aw_nod | (intro _; rw [ordB_w hw]; kernel_rfl) | (intro _; kernel_rfl)) ?_; simp [List.zipIdx, hxc, h43, h43z, h51, h51z, bits64, callM, giveArg, takeArg, take_irows, one1, -getM, getM_hit, getM_miss, getM_none]; (repeat (simp (disch := first | omega | assumption | fail) only [if_pos, if_neg, wrap64]; try simp [List.zipIdx, hxc, h43, h43z, h51, h51z, bits64, callM, giveArg, takeArg, take_irows, one1, -getM, getM_hit, getM_miss, getM_none])); try (repeat' (refine guardQ_split (fun h => ?_) (fun h => ?_) <;> simp at h <;> (simp [List.zipIdx, hxc, h43, h43z, h51, h51z, bits64, callM, giveArg, takeArg, take_irows, one1, -getM, getM_hit, getM_miss, getM_none]; (repeat (simp (disch := first | omega | assumption | fail) only [if_pos, if_neg, wrap64]; try simp [List.zipIdx, hxc, h43, h43z, h51, h51z, bits64, callM, giveArg, takeArg, take_irows, one1, -getM, getM_hit, getM_miss, getM_none])))))) | (refine aw_cond (b := _) (by exact rfl) (fun h => ?_) (fun h => ?_) <;> (try simp at h)) | (refine aw_block ?_) | (refine aw_skip ?_; simp only [thenQ, blockQ, if_true]) | (refine aw_exit ?_; simp [thenQ, blockQ]) | (refine aw_ret ?_; simp only [thenQ, blockQ]) | (refine aw_round ?_) | (refine hK _ ?_; clear hK) | (clear hK; refine hK _ ?_; clear hK) | (clear hK; clear hK; refine hK _ ?_; clear hK) | (clear hK; clear hK; clear hK; refine hK _ ?_; clear hK))
                  refine ⟨y.set 1 (insI y.f1 (f + 2)), f, 1, ?_, ⟨hnx, by omega⟩, by omega⟩
                  simp only [Zn.set]
                  refine le_turn (s1 := ?tus8) (m1 := ?tum8) [(369, 1296)] [7, 8, 1, 4, 9] [0, 16, 384, 368, 1296, 720, 371, 372] ?tua8 ?tub8 ?tuc8 ?tud8 ?tue8 ?tuf8 ?tug8
                  case tua8 => first | (simp [keepS]; done) | (simp [keepS]; rfl)
                  case tub8 => first | (simp; done) | (simp; rfl)
                  case tuc8 => simp
                  case tud8 => simp
                  case tue8 => simp
                  case tuf8 => simp
                  case tug8 =>
                    simp [swp, vr]
                    exact le_of2 (by simp) (by simp [AVle, AV.under, AV.underL] <;> omega) (by simp [AOle, AO.under, AV.underL, AV.under] <;> omega)
                · have hxc : f + 2 ≤ x := by omega
                  have h43z := F43_at (x := f) (hi.valid.sorted 1 (by omega)) hl1
                  have h51z := insF_at (x := f) hl1
                  have hnx := hi.high (Nat.zero_le 1) hxf
                  simp only [Zn.fr, List.getD_cons_zero, List.getD_cons_succ] at h43z
                  simp only [show ((2 : Int) ^ 1) = 2 from rfl, Zn.fr, List.getD_cons_zero, List.getD_cons_succ] at hnx
                  repeat' (first | (apply aw_seq_k; intro K hK) | (refine aw_run hc (by first | exact aw_nod | (intro _; rw [ordB_w hw]; kernel_rfl) | (intro _; kernel_rfl)) ?_; simp [List.zipIdx, hxc, h43, h43z, h51, h51z, bits64, callM, giveArg, takeArg, take_irows, one1, -getM, getM_hit, getM_miss, getM_none]; (repeat (simp (disch := first | omega | assumption | fail) only [if_pos, if_neg, wrap64]; try simp [List.zipIdx, hxc, h43, h43z, h51, h51z, bits64, callM, giveArg, takeArg, take_irows, one1, -getM, getM_hit, getM_miss, getM_none])); try (repeat' (refine guardQ_split (fun h => ?_) (fun h => ?_) <;> simp at h <;> (simp [List.zipIdx, hxc, h43, h43z, h51, h51z, bits64, callM, giveArg, takeArg, take_irows, one1, -getM, getM_hit, getM_miss, getM_none]; (repeat (simp (disch := first | omega | assumption | fail) only [if_pos, if_neg, wrap64]; try simp [List.zipIdx, hxc, h43, h43z, h51, h51z, bits64, callM, giveArg, takeArg, take_irows, one1, -getM, getM_hit, getM_miss, getM_none])))))) | (refine aw_cond (b := _) (by exact rfl) (fun h => ?_) (fun h => ?_) <;> (try simp at h)) | (refine aw_block ?_) | (refine aw_skip ?_; simp only [thenQ, blockQ, if_true]) | (refine aw_exit ?_; simp [thenQ, blockQ]) | (refine aw_ret ?_; simp only [thenQ, blockQ]) | (refine aw_round ?_) | (refine hK _ ?_; clear hK) | (clear hK; refine hK _ ?_; clear hK) | (clear hK; clear hK; refine hK _ ?_; clear hK) | (clear hK; clear hK; clear hK; refine hK _ ?_; clear hK))
                  refine ⟨y.set 1 (insI y.f1 (f)), f + 2, 1, ?_, ⟨hnx, by omega⟩, by omega⟩
                  simp only [Zn.set]
                  refine le_turn (s1 := ?tus9) (m1 := ?tum9) [(369, 1360)] [7, 8, 1, 4, 9] [0, 16, 384, 368, 1360, 720, 371, 372] ?tua9 ?tub9 ?tuc9 ?tud9 ?tue9 ?tuf9 ?tug9
                  case tua9 => first | (simp [keepS]; done) | (simp [keepS]; rfl)
                  case tub9 => first | (simp; done) | (simp; rfl)
                  case tuc9 => simp
                  case tud9 => simp
                  case tue9 => simp
                  case tuf9 => simp
                  case tug9 =>
                    simp [swp, vr]
                    exact le_of2 (by simp) (by simp [AVle, AV.under, AV.underL] <;> omega) (by simp [AOle, AO.under, AV.underL, AV.under] <;> omega)
            · obtain rfl : k = 0 := by omega
              have hd := hi.done
              rw [hd] at hal
              have hys := hi.same
              unfold sameP at hys
              repeat' (first | (apply aw_seq_k; intro K hK) | (refine aw_run hc (by first | exact aw_nod | (intro _; rw [ordB_w hw]; kernel_rfl) | (intro _; kernel_rfl)) ?_; simp [List.zipIdx, -getM, getM_hit, getM_miss, getM_none]; (repeat (simp (disch := first | omega | assumption | fail) only [if_pos, if_neg, wrap64]; try simp [List.zipIdx, -getM, getM_hit, getM_miss, getM_none])); try (repeat' (refine guardQ_split (fun h => ?_) (fun h => ?_) <;> simp at h <;> (simp [List.zipIdx, -getM, getM_hit, getM_miss, getM_none]; (repeat (simp (disch := first | omega | assumption | fail) only [if_pos, if_neg, wrap64]; try simp [List.zipIdx, -getM, getM_hit, getM_miss, getM_none])))))) | (refine aw_cond (b := _) (by exact rfl) (fun h => ?_) (fun h => ?_) <;> (try simp at h)) | (refine aw_block ?_) | (refine aw_skip ?_; simp only [thenQ, blockQ, if_true]) | (refine aw_exit ?_; simp [thenQ, blockQ]) | (refine aw_ret ?_; simp only [thenQ, blockQ]) | (refine aw_round ?_) | (refine hK _ ?_; clear hK) | (clear hK; refine hK _ ?_; clear hK) | (clear hK; clear hK; refine hK _ ?_; clear hK) | (clear hK; clear hK; clear hK; refine hK _ ?_; clear hK))
              refine ⟨by simp, ?_⟩
              simp [leaves_iff, Try.f29, hal, Zn.ocells, take_irows, hys]
              try (first | omega | (refine decide_eq_decide.2 ?_; omega) | (refine decide_eq_false ?_; omega) | (refine decide_eq_true ?_; omega))
        · have hcz : z.cells[5 + 3]? = some (.rd 1 (irows z.f3)) := rfl
          simp only [Nat.reduceAdd] at hcz
          simp only [Zn.fr, List.getD_cons_zero, List.getD_cons_succ] at h43k h53k hlk hbl hm
          have h52y : ∀ M n, X.call 52 [.agg z.cells, I x] M n = some (.tup [I 3, I b], []) := h52z
          repeat' (first | (apply aw_seq_k; intro K hK) | (refine aw_run hc (by first | exact aw_nod | (intro _; rw [ordB_w hw]; kernel_rfl) | (intro _; kernel_rfl)) ?_; simp [List.zipIdx, h16z, hc0, h42z, h52y, hcz, h50, h50z, h43, h43k, h53, h53k, Zn.ocells, callM, giveArg, takeArg, take_irows, one1, -getM, getM_hit, getM_miss, getM_none]; (repeat (simp (disch := first | omega | assumption | fail) only [if_pos, if_neg, wrap64]; try simp [List.zipIdx, h16z, hc0, h42z, h52y, hcz, h50, h50z, h43, h43k, h53, h53k, Zn.ocells, callM, giveArg, takeArg, take_irows, one1, -getM, getM_hit, getM_miss, getM_none])); try (repeat' (refine guardQ_split (fun h => ?_) (fun h => ?_) <;> simp at h <;> (simp [List.zipIdx, h16z, hc0, h42z, h52y, hcz, h50, h50z, h43, h43k, h53, h53k, Zn.ocells, callM, giveArg, takeArg, take_irows, one1, -getM, getM_hit, getM_miss, getM_none]; (repeat (simp (disch := first | omega | assumption | fail) only [if_pos, if_neg, wrap64]; try simp [List.zipIdx, h16z, hc0, h42z, h52y, hcz, h50, h50z, h43, h43k, h53, h53k, Zn.ocells, callM, giveArg, takeArg, take_irows, one1, -getM, getM_hit, getM_miss, getM_none])))))) | (refine aw_cond (b := _) (by exact rfl) (fun h => ?_) (fun h => ?_) <;> (try simp at h)) | (refine aw_block ?_) | (refine aw_skip ?_; simp only [thenQ, blockQ, if_true]) | (refine aw_exit ?_; simp [thenQ, blockQ]) | (refine aw_ret ?_; simp only [thenQ, blockQ]) | (refine aw_round ?_) | (refine hK _ ?_; clear hK) | (clear hK; refine hK _ ?_; clear hK) | (clear hK; clear hK; refine hK _ ?_; clear hK) | (clear hK; clear hK; clear hK; refine hK _ ?_; clear hK))
          refine aw_loopK (s0 := ?lps10) (m0 := ?lpm10) (ι := {p : Zn × Int × Nat // SplitInv z x 0 T p.1 p.2.1 p.2.2 ∧ p.2.2 ≤ 3}) [1, 4, 9] (fun p => [(7, I p.1.2.2), (8, I p.1.2.1)]) (fun p => [(384, .box [I z.node, I z.kind, I z.start, I z.count, I z.least, .sl 368 1 1 0 p.1.1.f0.length, .sl 369 1 1 0 p.1.1.f1.length, .sl 370 1 1 0 p.1.1.f2.length, .sl 720 1 1 0 p.1.1.f3.length, .sl 372 1 1 0 p.1.1.f4.length]), (368, .vec 1 1 false (irows p.1.1.f0)), (369, .vec 1 1 false (irows p.1.1.f1)), (370, .vec 1 1 false (irows p.1.1.f2)), (720, .vec 1 1 false (irows p.1.1.f3)), (372, .vec 1 1 false (irows p.1.1.f4))]) (fun p => p.1.2.2) ⟨(z.set 3 (delI z.f3 b), b, 3), hsi, Nat.le_refl _⟩ ?lhs10 ?lhm10 ?_ ?_
          case lhs10 => first | (simp [keepS]; done) | (simp [keepS]; rfl)
          case lhm10 => first | rfl | (simp; done) | (simp; rfl)
          · simp only [Zn.set]
            exact le_of2 (by simp) (by simp [AVle, AV.under, AV.underL] <;> omega) (by simp [AOle, AO.under, AV.underL, AV.under] <;> omega)
          · rintro ⟨⟨y, f, k⟩, hi, hkK⟩
            simp only at hi hkK ⊢
            have hys := hi.small hr
            rcases Decidable.em (0 < k) with hko | hko'
            · rcases (show k = 1 ∨ k = 2 ∨ k = 3 by omega) with rfl | rfl | rfl
              · have hl0 : y.f0.length ≤ 1000000 := by have : y.f0.length ≤ 1000 := hys 0 (by omega); omega
                have hbb := inside_bounds (hi.same.ranges.2 hr) hi.inside
                simp at hbb
                rcases Decidable.em (x < f + 1) with hxf | hxf
                · have hxc : ¬ (f + 1 ≤ x) := by omega
                  have h43z := F43_at (x := f + 1) (hi.valid.sorted 0 (by omega)) hl0
                  have h51z := insF_at (x := f + 1) hl0
                  have hnx := hi.low (Nat.zero_le 0) hxf
                  simp only [Zn.fr, List.getD_cons_zero, List.getD_cons_succ] at h43z
                  simp only [show ((2 : Int) ^ 0) = 1 from rfl, Zn.fr, List.getD_cons_zero, List.getD_cons_succ] at hnx
                  repeat' (first | (apply aw_seq_k; intro K hK) | (refine aw_run hc (by first | exact aw_nod | (intro _; rw [ordB_w hw]; kernel_rfl) | (intro _; kernel_rfl)) ?_; simp [List.zipIdx, hxc, h43, h43z, h51, h51z, bits64, callM, giveArg, takeArg, take_irows, one1, -getM, getM_hit, getM_miss, getM_none]; (repeat (simp (disch := first | omega | assumption | fail) only [if_pos, if_neg, wrap64]; try simp [List.zipIdx, hxc, h43, h43z, h51, h51z, bits64, callM, giveArg, takeArg, take_irows, one1, -getM, getM_hit, getM_miss, getM_none])); try (repeat' (refine guardQ_split (fun h => ?_) (fun h => ?_) <;> simp at h <;> (simp [List.zipIdx, hxc, h43, h43z, h51, h51z, bits64, callM, giveArg, takeArg, take_irows, one1, -getM, getM_hit, getM_miss, getM_none]; (repeat (simp (disch := first | omega | assumption | fail) only [if_pos, if_neg, wrap64]; try simp [List.zipIdx, hxc, h43, h43z, h51, h51z, bits64, callM, giveArg, takeArg, take_irows, one1, -getM, getM_hit, getM_miss, getM_none])))))) | (refine aw_cond (b := _) (by exact rfl) (fun h => ?_) (fun h => ?_) <;> (try simp at h)) | (refine aw_block ?_) | (refine aw_skip ?_; simp only [thenQ, blockQ, if_true]) | (refine aw_exit ?_; simp [thenQ, blockQ]) | (refine aw_ret ?_; simp only [thenQ, blockQ]) | (refine aw_round ?_) | (refine hK _ ?_; clear hK) | (clear hK; refine hK _ ?_; clear hK) | (clear hK; clear hK; refine hK _ ?_; clear hK) | (clear hK; clear hK; clear hK; refine hK _ ?_; clear hK))
                  refine ⟨y.set 0 (insI y.f0 (f + 1)), f, ?_, hnx⟩
                  simp only [Zn.set]
                  refine le_turn (s1 := ?tus11) (m1 := ?tum11) [(368, 1296)] [7, 8, 1, 4, 9] [0, 16, 384, 1296, 369, 370, 720, 372] ?tua11 ?tub11 ?tuc11 ?tud11 ?tue11 ?tuf11 ?tug11
                  case tua11 => first | (simp [keepS]; done) | (simp [keepS]; rfl)
                  case tub11 => first | (simp; done) | (simp; rfl)
                  case tuc11 => simp
                  case tud11 => simp
                  case tue11 => simp
                  case tuf11 => simp
                  case tug11 =>
                    simp [swp, vr]
                    exact le_of2 (by simp) (by simp [AVle, AV.under, AV.underL] <;> omega) (by simp [AOle, AO.under, AV.underL, AV.under] <;> omega)
                · have hxc : f + 1 ≤ x := by omega
                  have h43z := F43_at (x := f) (hi.valid.sorted 0 (by omega)) hl0
                  have h51z := insF_at (x := f) hl0
                  have hnx := hi.high (Nat.zero_le 0) hxf
                  simp only [Zn.fr, List.getD_cons_zero, List.getD_cons_succ] at h43z
                  simp only [show ((2 : Int) ^ 0) = 1 from rfl, Zn.fr, List.getD_cons_zero, List.getD_cons_succ] at hnx
                  repeat' (first | (apply aw_seq_k; intro K hK) | (refine aw_run hc (by first | exact aw_nod | (intro _; rw [ordB_w hw]; kernel_rfl) | (intro _; kernel_rfl)) ?_; simp [List.zipIdx, hxc, h43, h43z, h51, h51z, bits64, callM, giveArg, takeArg, take_irows, one1, -getM, getM_hit, getM_miss, getM_none]; (repeat (simp (disch := first | omega | assumption | fail) only [if_pos, if_neg, wrap64]; try simp [List.zipIdx, hxc, h43, h43z, h51, h51z, bits64, callM, giveArg, takeArg, take_irows, one1, -getM, getM_hit, getM_miss, getM_none])); try (repeat' (refine guardQ_split (fun h => ?_) (fun h => ?_) <;> simp at h <;> (simp [List.zipIdx, hxc, h43, h43z, h51, h51z, bits64, callM, giveArg, takeArg, take_irows, one1, -getM, getM_hit, getM_miss, getM_none]; (repeat (simp (disch := first | omega | assumption | fail) only [if_pos, if_neg, wrap64]; try simp [List.zipIdx, hxc, h43, h43z, h51, h51z, bits64, callM, giveArg, takeArg, take_irows, one1, -getM, getM_hit, getM_miss, getM_none])))))) | (refine aw_cond (b := _) (by exact rfl) (fun h => ?_) (fun h => ?_) <;> (try simp at h)) | (refine aw_block ?_) | (refine aw_skip ?_; simp only [thenQ, blockQ, if_true]) | (refine aw_exit ?_; simp [thenQ, blockQ]) | (refine aw_ret ?_; simp only [thenQ, blockQ]) | (refine aw_round ?_) | (refine hK _ ?_; clear hK) | (clear hK; refine hK _ ?_; clear hK) | (clear hK; clear hK; refine hK _ ?_; clear hK) | (clear hK; clear hK; clear hK; refine hK _ ?_; clear hK))
                  refine ⟨y.set 0 (insI y.f0 (f)), f + 1, ?_, hnx⟩
                  simp only [Zn.set]
                  refine le_turn (s1 := ?tus12) (m1 := ?tum12) [(368, 1360)] [7, 8, 1, 4, 9] [0, 16, 384, 1360, 369, 370, 720, 372] ?tua12 ?tub12 ?tuc12 ?tud12 ?tue12 ?tuf12 ?tug12
                  case tua12 => first | (simp [keepS]; done) | (simp [keepS]; rfl)
                  case tub12 => first | (simp; done) | (simp; rfl)
                  case tuc12 => simp
                  case tud12 => simp
                  case tue12 => simp
                  case tuf12 => simp
                  case tug12 =>
                    simp [swp, vr]
                    exact le_of2 (by simp) (by simp [AVle, AV.under, AV.underL] <;> omega) (by simp [AOle, AO.under, AV.underL, AV.under] <;> omega)
              · have hl1 : y.f1.length ≤ 1000000 := by have : y.f1.length ≤ 1000 := hys 1 (by omega); omega
                have hbb := inside_bounds (hi.same.ranges.2 hr) hi.inside
                simp at hbb
                rcases Decidable.em (x < f + 2) with hxf | hxf
                · have hxc : ¬ (f + 2 ≤ x) := by omega
                  have h43z := F43_at (x := f + 2) (hi.valid.sorted 1 (by omega)) hl1
                  have h51z := insF_at (x := f + 2) hl1
                  have hnx := hi.low (Nat.zero_le 1) hxf
                  simp only [Zn.fr, List.getD_cons_zero, List.getD_cons_succ] at h43z
                  simp only [show ((2 : Int) ^ 1) = 2 from rfl, Zn.fr, List.getD_cons_zero, List.getD_cons_succ] at hnx
                  repeat' (first | (apply aw_seq_k; intro K hK) | (refine aw_run hc (by first | exact aw_nod | (intro _; rw [ordB_w hw]; kernel_rfl) | (intro _; kernel_rfl)) ?_; simp [List.zipIdx, hxc, h43, h43z, h51, h51z, bits64, callM, giveArg, takeArg, take_irows, one1, -getM, getM_hit, getM_miss, getM_none]; (repeat (simp (disch := first | omega | assumption | fail) only [if_pos, if_neg, wrap64]; try simp [List.zipIdx, hxc, h43, h43z, h51, h51z, bits64, callM, giveArg, takeArg, take_irows, one1, -getM, getM_hit, getM_miss, getM_none])); try (repeat' (refine guardQ_split (fun h => ?_) (fun h => ?_) <;> simp at h <;> (simp [List.zipIdx, hxc, h43, h43z, h51, h51z, bits64, callM, giveArg, takeArg, take_irows, one1, -getM, getM_hit, getM_miss, getM_none]; (repeat (simp (disch := first | omega | assumption | fail) only [if_pos, if_neg, wrap64]; try simp [List.zipIdx, hxc, h43, h43z, h51, h51z, bits64, callM, giveArg, takeArg, take_irows, one1, -getM, getM_hit, getM_miss, getM_none])))))) | (refine aw_cond (b := _) (by exact rfl) (fun h => ?_) (fun h => ?_) <;> (try simp at h)) | (refine aw_block ?_) | (refine aw_skip ?_; simp only [thenQ, blockQ, if_true]) | (refine aw_exit ?_; simp [thenQ, blockQ]) | (refine aw_ret ?_; simp only [thenQ, blockQ]) | (refine aw_round ?_) | (refine hK _ ?_; clear hK) | (clear hK; refine hK _ ?_; clear hK) | (clear hK; clear hK; refine hK _ ?_; clear hK) | (clear hK; clear hK; clear hK; refine hK _ ?_; clear hK))
                  refine ⟨y.set 1 (insI y.f1 (f + 2)), f, 1, ?_, ⟨hnx, by omega⟩, by omega⟩
                  simp only [Zn.set]
                  refine le_turn (s1 := ?tus13) (m1 := ?tum13) [(369, 1296)] [7, 8, 1, 4, 9] [0, 16, 384, 368, 1296, 370, 720, 372] ?tua13 ?tub13 ?tuc13 ?tud13 ?tue13 ?tuf13 ?tug13
                  case tua13 => first | (simp [keepS]; done) | (simp [keepS]; rfl)
                  case tub13 => first | (simp; done) | (simp; rfl)
                  case tuc13 => simp
                  case tud13 => simp
                  case tue13 => simp
                  case tuf13 => simp
                  case tug13 =>
                    simp [swp, vr]
                    exact le_of2 (by simp) (by simp [AVle, AV.under, AV.underL] <;> omega) (by simp [AOle, AO.under, AV.underL, AV.under] <;> omega)
                · have hxc : f + 2 ≤ x := by omega
                  have h43z := F43_at (x := f) (hi.valid.sorted 1 (by omega)) hl1
                  have h51z := insF_at (x := f) hl1
                  have hnx := hi.high (Nat.zero_le 1) hxf
                  simp only [Zn.fr, List.getD_cons_zero, List.getD_cons_succ] at h43z
                  simp only [show ((2 : Int) ^ 1) = 2 from rfl, Zn.fr, List.getD_cons_zero, List.getD_cons_succ] at hnx
                  repeat' (first | (apply aw_seq_k; intro K hK) | (refine aw_run hc (by first | exact aw_nod | (intro _; rw [ordB_w hw]; kernel_rfl) | (intro _; kernel_rfl)) ?_; simp [List.zipIdx, hxc, h43, h43z, h51, h51z, bits64, callM, giveArg, takeArg, take_irows, one1, -getM, getM_hit, getM_miss, getM_none]; (repeat (simp (disch := first | omega | assumption | fail) only [if_pos, if_neg, wrap64]; try simp [List.zipIdx, hxc, h43, h43z, h51, h51z, bits64, callM, giveArg, takeArg, take_irows, one1, -getM, getM_hit, getM_miss, getM_none])); try (repeat' (refine guardQ_split (fun h => ?_) (fun h => ?_) <;> simp at h <;> (simp [List.zipIdx, hxc, h43, h43z, h51, h51z, bits64, callM, giveArg, takeArg, take_irows, one1, -getM, getM_hit, getM_miss, getM_none]; (repeat (simp (disch := first | omega | assumption | fail) only [if_pos, if_neg, wrap64]; try simp [List.zipIdx, hxc, h43, h43z, h51, h51z, bits64, callM, giveArg, takeArg, take_irows, one1, -getM, getM_hit, getM_miss, getM_none])))))) | (refine aw_cond (b := _) (by exact rfl) (fun h => ?_) (fun h => ?_) <;> (try simp at h)) | (refine aw_block ?_) | (refine aw_skip ?_; simp only [thenQ, blockQ, if_true]) | (refine aw_exit ?_; simp [thenQ, blockQ]) | (refine aw_ret ?_; simp only [thenQ, blockQ]) | (refine aw_round ?_) | (refine hK _ ?_; clear hK) | (clear hK; refine hK _ ?_; clear hK) | (clear hK; clear hK; refine hK _ ?_; clear hK) | (clear hK; clear hK; clear hK; refine hK _ ?_; clear hK))
                  refine ⟨y.set 1 (insI y.f1 (f)), f + 2, 1, ?_, ⟨hnx, by omega⟩, by omega⟩
                  simp only [Zn.set]
                  refine le_turn (s1 := ?tus14) (m1 := ?tum14) [(369, 1360)] [7, 8, 1, 4, 9] [0, 16, 384, 368, 1360, 370, 720, 372] ?tua14 ?tub14 ?tuc14 ?tud14 ?tue14 ?tuf14 ?tug14
                  case tua14 => first | (simp [keepS]; done) | (simp [keepS]; rfl)
                  case tub14 => first | (simp; done) | (simp; rfl)
                  case tuc14 => simp
                  case tud14 => simp
                  case tue14 => simp
                  case tuf14 => simp
                  case tug14 =>
                    simp [swp, vr]
                    exact le_of2 (by simp) (by simp [AVle, AV.under, AV.underL] <;> omega) (by simp [AOle, AO.under, AV.underL, AV.under] <;> omega)
              · have hl2 : y.f2.length ≤ 1000000 := by have : y.f2.length ≤ 1000 := hys 2 (by omega); omega
                have hbb := inside_bounds (hi.same.ranges.2 hr) hi.inside
                simp at hbb
                rcases Decidable.em (x < f + 4) with hxf | hxf
                · have hxc : ¬ (f + 4 ≤ x) := by omega
                  have h43z := F43_at (x := f + 4) (hi.valid.sorted 2 (by omega)) hl2
                  have h51z := insF_at (x := f + 4) hl2
                  have hnx := hi.low (Nat.zero_le 2) hxf
                  simp only [Zn.fr, List.getD_cons_zero, List.getD_cons_succ] at h43z
                  simp only [show ((2 : Int) ^ 2) = 4 from rfl, Zn.fr, List.getD_cons_zero, List.getD_cons_succ] at hnx
                  repeat' (first | (apply aw_seq_k; intro K hK) | (refine aw_run hc (by first | exact aw_nod | (intro _; rw [ordB_w hw]; kernel_rfl) | (intro _; kernel_rfl)) ?_; simp [List.zipIdx, hxc, h43, h43z, h51, h51z, bits64, callM, giveArg, takeArg, take_irows, one1, -getM, getM_hit, getM_miss, getM_none]; (repeat (simp (disch := first | omega | assumption | fail) only [if_pos, if_neg, wrap64]; try simp [List.zipIdx, hxc, h43, h43z, h51, h51z, bits64, callM, giveArg, takeArg, take_irows, one1, -getM, getM_hit, getM_miss, getM_none])); try (repeat' (refine guardQ_split (fun h => ?_) (fun h => ?_) <;> simp at h <;> (simp [List.zipIdx, hxc, h43, h43z, h51, h51z, bits64, callM, giveArg, takeArg, take_irows, one1, -getM, getM_hit, getM_miss, getM_none]; (repeat (simp (disch := first | omega | assumption | fail) only [if_pos, if_neg, wrap64]; try simp [List.zipIdx, hxc, h43, h43z, h51, h51z, bits64, callM, giveArg, takeArg, take_irows, one1, -getM, getM_hit, getM_miss, getM_none])))))) | (refine aw_cond (b := _) (by exact rfl) (fun h => ?_) (fun h => ?_) <;> (try simp at h)) | (refine aw_block ?_) | (refine aw_skip ?_; simp only [thenQ, blockQ, if_true]) | (refine aw_exit ?_; simp [thenQ, blockQ]) | (refine aw_ret ?_; simp only [thenQ, blockQ]) | (refine aw_round ?_) | (refine hK _ ?_; clear hK) | (clear hK; refine hK _ ?_; clear hK) | (clear hK; clear hK; refine hK _ ?_; clear hK) | (clear hK; clear hK; clear hK; refine hK _ ?_; clear hK))
                  refine ⟨y.set 2 (insI y.f2 (f + 4)), f, 2, ?_, ⟨hnx, by omega⟩, by omega⟩
                  simp only [Zn.set]
                  refine le_turn (s1 := ?tus15) (m1 := ?tum15) [(370, 1296)] [7, 8, 1, 4, 9] [0, 16, 384, 368, 369, 1296, 720, 372] ?tua15 ?tub15 ?tuc15 ?tud15 ?tue15 ?tuf15 ?tug15
                  case tua15 => first | (simp [keepS]; done) | (simp [keepS]; rfl)
                  case tub15 => first | (simp; done) | (simp; rfl)
                  case tuc15 => simp
                  case tud15 => simp
                  case tue15 => simp
                  case tuf15 => simp
                  case tug15 =>
                    simp [swp, vr]
                    exact le_of2 (by simp) (by simp [AVle, AV.under, AV.underL] <;> omega) (by simp [AOle, AO.under, AV.underL, AV.under] <;> omega)
                · have hxc : f + 4 ≤ x := by omega
                  have h43z := F43_at (x := f) (hi.valid.sorted 2 (by omega)) hl2
                  have h51z := insF_at (x := f) hl2
                  have hnx := hi.high (Nat.zero_le 2) hxf
                  simp only [Zn.fr, List.getD_cons_zero, List.getD_cons_succ] at h43z
                  simp only [show ((2 : Int) ^ 2) = 4 from rfl, Zn.fr, List.getD_cons_zero, List.getD_cons_succ] at hnx
                  repeat' (first | (apply aw_seq_k; intro K hK) | (refine aw_run hc (by first | exact aw_nod | (intro _; rw [ordB_w hw]; kernel_rfl) | (intro _; kernel_rfl)) ?_; simp [List.zipIdx, hxc, h43, h43z, h51, h51z, bits64, callM, giveArg, takeArg, take_irows, one1, -getM, getM_hit, getM_miss, getM_none]; (repeat (simp (disch := first | omega | assumption | fail) only [if_pos, if_neg, wrap64]; try simp [List.zipIdx, hxc, h43, h43z, h51, h51z, bits64, callM, giveArg, takeArg, take_irows, one1, -getM, getM_hit, getM_miss, getM_none])); try (repeat' (refine guardQ_split (fun h => ?_) (fun h => ?_) <;> simp at h <;> (simp [List.zipIdx, hxc, h43, h43z, h51, h51z, bits64, callM, giveArg, takeArg, take_irows, one1, -getM, getM_hit, getM_miss, getM_none]; (repeat (simp (disch := first | omega | assumption | fail) only [if_pos, if_neg, wrap64]; try simp [List.zipIdx, hxc, h43, h43z, h51, h51z, bits64, callM, giveArg, takeArg, take_irows, one1, -getM, getM_hit, getM_miss, getM_none])))))) | (refine aw_cond (b := _) (by exact rfl) (fun h => ?_) (fun h => ?_) <;> (try simp at h)) | (refine aw_block ?_) | (refine aw_skip ?_; simp only [thenQ, blockQ, if_true]) | (refine aw_exit ?_; simp [thenQ, blockQ]) | (refine aw_ret ?_; simp only [thenQ, blockQ]) | (refine aw_round ?_) | (refine hK _ ?_; clear hK) | (clear hK; refine hK _ ?_; clear hK) | (clear hK; clear hK; refine hK _ ?_; clear hK) | (clear hK; clear hK; clear hK; refine hK _ ?_; clear hK))
                  refine ⟨y.set 2 (insI y.f2 (f)), f + 4, 2, ?_, ⟨hnx, by omega⟩, by omega⟩
                  simp only [Zn.set]
                  refine le_turn (s1 := ?tus16) (m1 := ?tum16) [(370, 1360)] [7, 8, 1, 4, 9] [0, 16, 384, 368, 369, 1360, 720, 372] ?tua16 ?tub16 ?tuc16 ?tud16 ?tue16 ?tuf16 ?tug16
                  case tua16 => first | (simp [keepS]; done) | (simp [keepS]; rfl)
                  case tub16 => first | (simp; done) | (simp; rfl)
                  case tuc16 => simp
                  case tud16 => simp
                  case tue16 => simp
                  case tuf16 => simp
                  case tug16 =>
                    simp [swp, vr]
                    exact le_of2 (by simp) (by simp [AVle, AV.under, AV.underL] <;> omega) (by simp [AOle, AO.under, AV.underL, AV.under] <;> omega)
            · obtain rfl : k = 0 := by omega
              have hd := hi.done
              rw [hd] at hal
              have hys := hi.same
              unfold sameP at hys
              repeat' (first | (apply aw_seq_k; intro K hK) | (refine aw_run hc (by first | exact aw_nod | (intro _; rw [ordB_w hw]; kernel_rfl) | (intro _; kernel_rfl)) ?_; simp [List.zipIdx, -getM, getM_hit, getM_miss, getM_none]; (repeat (simp (disch := first | omega | assumption | fail) only [if_pos, if_neg, wrap64]; try simp [List.zipIdx, -getM, getM_hit, getM_miss, getM_none])); try (repeat' (refine guardQ_split (fun h => ?_) (fun h => ?_) <;> simp at h <;> (simp [List.zipIdx, -getM, getM_hit, getM_miss, getM_none]; (repeat (simp (disch := first | omega | assumption | fail) only [if_pos, if_neg, wrap64]; try simp [List.zipIdx, -getM, getM_hit, getM_miss, getM_none])))))) | (refine aw_cond (b := _) (by exact rfl) (fun h => ?_) (fun h => ?_) <;> (try simp at h)) | (refine aw_block ?_) | (refine aw_skip ?_; simp only [thenQ, blockQ, if_true]) | (refine aw_exit ?_; simp [thenQ, blockQ]) | (refine aw_ret ?_; simp only [thenQ, blockQ]) | (refine aw_round ?_) | (refine hK _ ?_; clear hK) | (clear hK; refine hK _ ?_; clear hK) | (clear hK; clear hK; refine hK _ ?_; clear hK) | (clear hK; clear hK; clear hK; refine hK _ ?_; clear hK))
              refine ⟨by simp, ?_⟩
              simp [leaves_iff, Try.f29, hal, Zn.ocells, take_irows, hys]
              try (first | omega | (refine decide_eq_decide.2 ?_; omega) | (refine decide_eq_false ?_; omega) | (refine decide_eq_true ?_; omega))
        · have hcz : z.cells[5 + 4]? = some (.rd 1 (irows z.f4)) := rfl
          simp only [Nat.reduceAdd] at hcz
          simp only [Zn.fr, List.getD_cons_zero, List.getD_cons_succ] at h43k h53k hlk hbl hm
          have h52y : ∀ M n, X.call 52 [.agg z.cells, I x] M n = some (.tup [I 4, I b], []) := h52z
          repeat' (first | (apply aw_seq_k; intro K hK) | (refine aw_run hc (by first | exact aw_nod | (intro _; rw [ordB_w hw]; kernel_rfl) | (intro _; kernel_rfl)) ?_; simp [List.zipIdx, h16z, hc0, h42z, h52y, hcz, h50, h50z, h43, h43k, h53, h53k, Zn.ocells, callM, giveArg, takeArg, take_irows, one1, -getM, getM_hit, getM_miss, getM_none]; (repeat (simp (disch := first | omega | assumption | fail) only [if_pos, if_neg, wrap64]; try simp [List.zipIdx, h16z, hc0, h42z, h52y, hcz, h50, h50z, h43, h43k, h53, h53k, Zn.ocells, callM, giveArg, takeArg, take_irows, one1, -getM, getM_hit, getM_miss, getM_none])); try (repeat' (refine guardQ_split (fun h => ?_) (fun h => ?_) <;> simp at h <;> (simp [List.zipIdx, h16z, hc0, h42z, h52y, hcz, h50, h50z, h43, h43k, h53, h53k, Zn.ocells, callM, giveArg, takeArg, take_irows, one1, -getM, getM_hit, getM_miss, getM_none]; (repeat (simp (disch := first | omega | assumption | fail) only [if_pos, if_neg, wrap64]; try simp [List.zipIdx, h16z, hc0, h42z, h52y, hcz, h50, h50z, h43, h43k, h53, h53k, Zn.ocells, callM, giveArg, takeArg, take_irows, one1, -getM, getM_hit, getM_miss, getM_none])))))) | (refine aw_cond (b := _) (by exact rfl) (fun h => ?_) (fun h => ?_) <;> (try simp at h)) | (refine aw_block ?_) | (refine aw_skip ?_; simp only [thenQ, blockQ, if_true]) | (refine aw_exit ?_; simp [thenQ, blockQ]) | (refine aw_ret ?_; simp only [thenQ, blockQ]) | (refine aw_round ?_) | (refine hK _ ?_; clear hK) | (clear hK; refine hK _ ?_; clear hK) | (clear hK; clear hK; refine hK _ ?_; clear hK) | (clear hK; clear hK; clear hK; refine hK _ ?_; clear hK))
          refine aw_loopK (s0 := ?lps17) (m0 := ?lpm17) (ι := {p : Zn × Int × Nat // SplitInv z x 0 T p.1 p.2.1 p.2.2 ∧ p.2.2 ≤ 4}) [1, 4, 9] (fun p => [(7, I p.1.2.2), (8, I p.1.2.1)]) (fun p => [(384, .box [I z.node, I z.kind, I z.start, I z.count, I z.least, .sl 368 1 1 0 p.1.1.f0.length, .sl 369 1 1 0 p.1.1.f1.length, .sl 370 1 1 0 p.1.1.f2.length, .sl 371 1 1 0 p.1.1.f3.length, .sl 720 1 1 0 p.1.1.f4.length]), (368, .vec 1 1 false (irows p.1.1.f0)), (369, .vec 1 1 false (irows p.1.1.f1)), (370, .vec 1 1 false (irows p.1.1.f2)), (371, .vec 1 1 false (irows p.1.1.f3)), (720, .vec 1 1 false (irows p.1.1.f4))]) (fun p => p.1.2.2) ⟨(z.set 4 (delI z.f4 b), b, 4), hsi, Nat.le_refl _⟩ ?lhs17 ?lhm17 ?_ ?_
          case lhs17 => first | (simp [keepS]; done) | (simp [keepS]; rfl)
          case lhm17 => first | rfl | (simp; done) | (simp; rfl)
          · simp only [Zn.set]
            exact le_of2 (by simp) (by simp [AVle, AV.under, AV.underL] <;> omega) (by simp [AOle, AO.under, AV.underL, AV.under] <;> omega)
          · rintro ⟨⟨y, f, k⟩, hi, hkK⟩
            simp only at hi hkK ⊢
            have hys := hi.small hr
            rcases Decidable.em (0 < k) with hko | hko'
            · rcases (show k = 1 ∨ k = 2 ∨ k = 3 ∨ k = 4 by omega) with rfl | rfl | rfl | rfl
              · have hl0 : y.f0.length ≤ 1000000 := by have : y.f0.length ≤ 1000 := hys 0 (by omega); omega
                have hbb := inside_bounds (hi.same.ranges.2 hr) hi.inside
                simp at hbb
                rcases Decidable.em (x < f + 1) with hxf | hxf
                · have hxc : ¬ (f + 1 ≤ x) := by omega
                  have h43z := F43_at (x := f + 1) (hi.valid.sorted 0 (by omega)) hl0
                  have h51z := insF_at (x := f + 1) hl0
                  have hnx := hi.low (Nat.zero_le 0) hxf
                  simp only [Zn.fr, List.getD_cons_zero, List.getD_cons_succ] at h43z
                  simp only [show ((2 : Int) ^ 0) = 1 from rfl, Zn.fr, List.getD_cons_zero, List.getD_cons_succ] at hnx
                  repeat' (first | (apply aw_seq_k; intro K hK) | (refine aw_run hc (by first | exact aw_nod | (intro _; rw [ordB_w hw]; kernel_rfl) | (intro _; kernel_rfl)) ?_; simp [List.zipIdx, hxc, h43, h43z, h51, h51z, bits64, callM, giveArg, takeArg, take_irows, one1, -getM, getM_hit, getM_miss, getM_none]; (repeat (simp (disch := first | omega | assumption | fail) only [if_pos, if_neg, wrap64]; try simp [List.zipIdx, hxc, h43, h43z, h51, h51z, bits64, callM, giveArg, takeArg, take_irows, one1, -getM, getM_hit, getM_miss, getM_none])); try (repeat' (refine guardQ_split (fun h => ?_) (fun h => ?_) <;> simp at h <;> (simp [List.zipIdx, hxc, h43, h43z, h51, h51z, bits64, callM, giveArg, takeArg, take_irows, one1, -getM, getM_hit, getM_miss, getM_none]; (repeat (simp (disch := first | omega | assumption | fail) only [if_pos, if_neg, wrap64]; try simp [List.zipIdx, hxc, h43, h43z, h51, h51z, bits64, callM, giveArg, takeArg, take_irows, one1, -getM, getM_hit, getM_miss, getM_none])))))) | (refine aw_cond (b := _) (by exact rfl) (fun h => ?_) (fun h => ?_) <;> (try simp at h)) | (refine aw_block ?_) | (refine aw_skip ?_; simp only [thenQ, blockQ, if_true]) | (refine aw_exit ?_; simp [thenQ, blockQ]) | (refine aw_ret ?_; simp only [thenQ, blockQ]) | (refine aw_round ?_) | (refine hK _ ?_; clear hK) | (clear hK; refine hK _ ?_; clear hK) | (clear hK; clear hK; refine hK _ ?_; clear hK) | (clear hK; clear hK; clear hK; refine hK _ ?_; clear hK))
                  refine ⟨y.set 0 (insI y.f0 (f + 1)), f, ?_, hnx⟩
                  simp only [Zn.set]
                  refine le_turn (s1 := ?tus18) (m1 := ?tum18) [(368, 1296)] [7, 8, 1, 4, 9] [0, 16, 384, 1296, 369, 370, 371, 720] ?tua18 ?tub18 ?tuc18 ?tud18 ?tue18 ?tuf18 ?tug18
                  case tua18 => first | (simp [keepS]; done) | (simp [keepS]; rfl)
                  case tub18 => first | (simp; done) | (simp; rfl)
                  case tuc18 => simp
                  case tud18 => simp
                  case tue18 => simp
                  case tuf18 => simp
                  case tug18 =>
                    simp [swp, vr]
                    exact le_of2 (by simp) (by simp [AVle, AV.under, AV.underL] <;> omega) (by simp [AOle, AO.under, AV.underL, AV.under] <;> omega)
                · have hxc : f + 1 ≤ x := by omega
                  have h43z := F43_at (x := f) (hi.valid.sorted 0 (by omega)) hl0
                  have h51z := insF_at (x := f) hl0
                  have hnx := hi.high (Nat.zero_le 0) hxf
                  simp only [Zn.fr, List.getD_cons_zero, List.getD_cons_succ] at h43z
                  simp only [show ((2 : Int) ^ 0) = 1 from rfl, Zn.fr, List.getD_cons_zero, List.getD_cons_succ] at hnx
                  repeat' (first | (apply aw_seq_k; intro K hK) | (refine aw_run hc (by first | exact aw_nod | (intro _; rw [ordB_w hw]; kernel_rfl) | (intro _; kernel_rfl)) ?_; simp [List.zipIdx, hxc, h43, h43z, h51, h51z, bits64, callM, giveArg, takeArg, take_irows, one1, -getM, getM_hit, getM_miss, getM_none]; (repeat (simp (disch := first | omega | assumption | fail) only [if_pos, if_neg, wrap64]; try simp [List.zipIdx, hxc, h43, h43z, h51, h51z, bits64, callM, giveArg, takeArg, take_irows, one1, -getM, getM_hit, getM_miss, getM_none])); try (repeat' (refine guardQ_split (fun h => ?_) (fun h => ?_) <;> simp at h <;> (simp [List.zipIdx, hxc, h43, h43z, h51, h51z, bits64, callM, giveArg, takeArg, take_irows, one1, -getM, getM_hit, getM_miss, getM_none]; (repeat (simp (disch := first | omega | assumption | fail) only [if_pos, if_neg, wrap64]; try simp [List.zipIdx, hxc, h43, h43z, h51, h51z, bits64, callM, giveArg, takeArg, take_irows, one1, -getM, getM_hit, getM_miss, getM_none])))))) | (refine aw_cond (b := _) (by exact rfl) (fun h => ?_) (fun h => ?_) <;> (try simp at h)) | (refine aw_block ?_) | (refine aw_skip ?_; simp only [thenQ, blockQ, if_true]) | (refine aw_exit ?_; simp [thenQ, blockQ]) | (refine aw_ret ?_; simp only [thenQ, blockQ]) | (refine aw_round ?_) | (refine hK _ ?_; clear hK) | (clear hK; refine hK _ ?_; clear hK) | (clear hK; clear hK; refine hK _ ?_; clear hK) | (clear hK; clear hK; clear hK; refine hK _ ?_; clear hK))
                  refine ⟨y.set 0 (insI y.f0 (f)), f + 1, ?_, hnx⟩
                  simp only [Zn.set]
                  refine le_turn (s1 := ?tus19) (m1 := ?tum19) [(368, 1360)] [7, 8, 1, 4, 9] [0, 16, 384, 1360, 369, 370, 371, 720] ?tua19 ?tub19 ?tuc19 ?tud19 ?tue19 ?tuf19 ?tug19
                  case tua19 => first | (simp [keepS]; done) | (simp [keepS]; rfl)
                  case tub19 => first | (simp; done) | (simp; rfl)
                  case tuc19 => simp
                  case tud19 => simp
                  case tue19 => simp
                  case tuf19 => simp
                  case tug19 =>
                    simp [swp, vr]
                    exact le_of2 (by simp) (by simp [AVle, AV.under, AV.underL] <;> omega) (by simp [AOle, AO.under, AV.underL, AV.under] <;> omega)
              · have hl1 : y.f1.length ≤ 1000000 := by have : y.f1.length ≤ 1000 := hys 1 (by omega); omega
                have hbb := inside_bounds (hi.same.ranges.2 hr) hi.inside
                simp at hbb
                rcases Decidable.em (x < f + 2) with hxf | hxf
                · have hxc : ¬ (f + 2 ≤ x) := by omega
                  have h43z := F43_at (x := f + 2) (hi.valid.sorted 1 (by omega)) hl1
                  have h51z := insF_at (x := f + 2) hl1
                  have hnx := hi.low (Nat.zero_le 1) hxf
                  simp only [Zn.fr, List.getD_cons_zero, List.getD_cons_succ] at h43z
                  simp only [show ((2 : Int) ^ 1) = 2 from rfl, Zn.fr, List.getD_cons_zero, List.getD_cons_succ] at hnx
                  repeat' (first | (apply aw_seq_k; intro K hK) | (refine aw_run hc (by first | exact aw_nod | (intro _; rw [ordB_w hw]; kernel_rfl) | (intro _; kernel_rfl)) ?_; simp [List.zipIdx, hxc, h43, h43z, h51, h51z, bits64, callM, giveArg, takeArg, take_irows, one1, -getM, getM_hit, getM_miss, getM_none]; (repeat (simp (disch := first | omega | assumption | fail) only [if_pos, if_neg, wrap64]; try simp [List.zipIdx, hxc, h43, h43z, h51, h51z, bits64, callM, giveArg, takeArg, take_irows, one1, -getM, getM_hit, getM_miss, getM_none])); try (repeat' (refine guardQ_split (fun h => ?_) (fun h => ?_) <;> simp at h <;> (simp [List.zipIdx, hxc, h43, h43z, h51, h51z, bits64, callM, giveArg, takeArg, take_irows, one1, -getM, getM_hit, getM_miss, getM_none]; (repeat (simp (disch := first | omega | assumption | fail) only [if_pos, if_neg, wrap64]; try simp [List.zipIdx, hxc, h43, h43z, h51, h51z, bits64, callM, giveArg, takeArg, take_irows, one1, -getM, getM_hit, getM_miss, getM_none])))))) | (refine aw_cond (b := _) (by exact rfl) (fun h => ?_) (fun h => ?_) <;> (try simp at h)) | (refine aw_block ?_) | (refine aw_skip ?_; simp only [thenQ, blockQ, if_true]) | (refine aw_exit ?_; simp [thenQ, blockQ]) | (refine aw_ret ?_; simp only [thenQ, blockQ]) | (refine aw_round ?_) | (refine hK _ ?_; clear hK) | (clear hK; refine hK _ ?_; clear hK) | (clear hK; clear hK; refine hK _ ?_; clear hK) | (clear hK; clear hK; clear hK; refine hK _ ?_; clear hK))
                  refine ⟨y.set 1 (insI y.f1 (f + 2)), f, 1, ?_, ⟨hnx, by omega⟩, by omega⟩
                  simp only [Zn.set]
                  refine le_turn (s1 := ?tus20) (m1 := ?tum20) [(369, 1296)] [7, 8, 1, 4, 9] [0, 16, 384, 368, 1296, 370, 371, 720] ?tua20 ?tub20 ?tuc20 ?tud20 ?tue20 ?tuf20 ?tug20
                  case tua20 => first | (simp [keepS]; done) | (simp [keepS]; rfl)
                  case tub20 => first | (simp; done) | (simp; rfl)
                  case tuc20 => simp
                  case tud20 => simp
                  case tue20 => simp
                  case tuf20 => simp
                  case tug20 =>
                    simp [swp, vr]
                    exact le_of2 (by simp) (by simp [AVle, AV.under, AV.underL] <;> omega) (by simp [AOle, AO.under, AV.underL, AV.under] <;> omega)
                · have hxc : f + 2 ≤ x := by omega
                  have h43z := F43_at (x := f) (hi.valid.sorted 1 (by omega)) hl1
                  have h51z := insF_at (x := f) hl1
                  have hnx := hi.high (Nat.zero_le 1) hxf
                  simp only [Zn.fr, List.getD_cons_zero, List.getD_cons_succ] at h43z
                  simp only [show ((2 : Int) ^ 1) = 2 from rfl, Zn.fr, List.getD_cons_zero, List.getD_cons_succ] at hnx
                  repeat' (first | (apply aw_seq_k; intro K hK) | (refine aw_run hc (by first | exact aw_nod | (intro _; rw [ordB_w hw]; kernel_rfl) | (intro _; kernel_rfl)) ?_; simp [List.zipIdx, hxc, h43, h43z, h51, h51z, bits64, callM, giveArg, takeArg, take_irows, one1, -getM, getM_hit, getM_miss, getM_none]; (repeat (simp (disch := first | omega | assumption | fail) only [if_pos, if_neg, wrap64]; try simp [List.zipIdx, hxc, h43, h43z, h51, h51z, bits64, callM, giveArg, takeArg, take_irows, one1, -getM, getM_hit, getM_miss, getM_none])); try (repeat' (refine guardQ_split (fun h => ?_) (fun h => ?_) <;> simp at h <;> (simp [List.zipIdx, hxc, h43, h43z, h51, h51z, bits64, callM, giveArg, takeArg, take_irows, one1, -getM, getM_hit, getM_miss, getM_none]; (repeat (simp (disch := first | omega | assumption | fail) only [if_pos, if_neg, wrap64]; try simp [List.zipIdx, hxc, h43, h43z, h51, h51z, bits64, callM, giveArg, takeArg, take_irows, one1, -getM, getM_hit, getM_miss, getM_none])))))) | (refine aw_cond (b := _) (by exact rfl) (fun h => ?_) (fun h => ?_) <;> (try simp at h)) | (refine aw_block ?_) | (refine aw_skip ?_; simp only [thenQ, blockQ, if_true]) | (refine aw_exit ?_; simp [thenQ, blockQ]) | (refine aw_ret ?_; simp only [thenQ, blockQ]) | (refine aw_round ?_) | (refine hK _ ?_; clear hK) | (clear hK; refine hK _ ?_; clear hK) | (clear hK; clear hK; refine hK _ ?_; clear hK) | (clear hK; clear hK; clear hK; refine hK _ ?_; clear hK))
                  refine ⟨y.set 1 (insI y.f1 (f)), f + 2, 1, ?_, ⟨hnx, by omega⟩, by omega⟩
                  simp only [Zn.set]
                  refine le_turn (s1 := ?tus21) (m1 := ?tum21) [(369, 1360)] [7, 8, 1, 4, 9] [0, 16, 384, 368, 1360, 370, 371, 720] ?tua21 ?tub21 ?tuc21 ?tud21 ?tue21 ?tuf21 ?tug21
                  case tua21 => first | (simp [keepS]; done) | (simp [keepS]; rfl)
                  case tub21 => first | (simp; done) | (simp; rfl)
                  case tuc21 => simp
                  case tud21 => simp
                  case tue21 => simp
                  case tuf21 => simp
                  case tug21 =>
                    simp [swp, vr]
                    exact le_of2 (by simp) (by simp [AVle, AV.under, AV.underL] <;> omega) (by simp [AOle, AO.under, AV.underL, AV.under] <;> omega)
              · have hl2 : y.f2.length ≤ 1000000 := by have : y.f2.length ≤ 1000 := hys 2 (by omega); omega
                have hbb := inside_bounds (hi.same.ranges.2 hr) hi.inside
                simp at hbb
                rcases Decidable.em (x < f + 4) with hxf | hxf
                · have hxc : ¬ (f + 4 ≤ x) := by omega
                  have h43z := F43_at (x := f + 4) (hi.valid.sorted 2 (by omega)) hl2
                  have h51z := insF_at (x := f + 4) hl2
                  have hnx := hi.low (Nat.zero_le 2) hxf
                  simp only [Zn.fr, List.getD_cons_zero, List.getD_cons_succ] at h43z
                  simp only [show ((2 : Int) ^ 2) = 4 from rfl, Zn.fr, List.getD_cons_zero, List.getD_cons_succ] at hnx
                  repeat' (first | (apply aw_seq_k; intro K hK) | (refine aw_run hc (by first | exact aw_nod | (intro _; rw [ordB_w hw]; kernel_rfl) | (intro _; kernel_rfl)) ?_; simp [List.zipIdx, hxc, h43, h43z, h51, h51z, bits64, callM, giveArg, takeArg, take_irows, one1, -getM, getM_hit, getM_miss, getM_none]; (repeat (simp (disch := first | omega | assumption | fail) only [if_pos, if_neg, wrap64]; try simp [List.zipIdx, hxc, h43, h43z, h51, h51z, bits64, callM, giveArg, takeArg, take_irows, one1, -getM, getM_hit, getM_miss, getM_none])); try (repeat' (refine guardQ_split (fun h => ?_) (fun h => ?_) <;> simp at h <;> (simp [List.zipIdx, hxc, h43, h43z, h51, h51z, bits64, callM, giveArg, takeArg, take_irows, one1, -getM, getM_hit, getM_miss, getM_none]; (repeat (simp (disch := first | omega | assumption | fail) only [if_pos, if_neg, wrap64]; try simp [List.zipIdx, hxc, h43, h43z, h51, h51z, bits64, callM, giveArg, takeArg, take_irows, one1, -getM, getM_hit, getM_miss, getM_none])))))) | (refine aw_cond (b := _) (by exact rfl) (fun h => ?_) (fun h => ?_) <;> (try simp at h)) | (refine aw_block ?_) | (refine aw_skip ?_; simp only [thenQ, blockQ, if_true]) | (refine aw_exit ?_; simp [thenQ, blockQ]) | (refine aw_ret ?_; simp only [thenQ, blockQ]) | (refine aw_round ?_) | (refine hK _ ?_; clear hK) | (clear hK; refine hK _ ?_; clear hK) | (clear hK; clear hK; refine hK _ ?_; clear hK) | (clear hK; clear hK; clear hK; refine hK _ ?_; clear hK))
                  refine ⟨y.set 2 (insI y.f2 (f + 4)), f, 2, ?_, ⟨hnx, by omega⟩, by omega⟩
                  simp only [Zn.set]
                  refine le_turn (s1 := ?tus22) (m1 := ?tum22) [(370, 1296)] [7, 8, 1, 4, 9] [0, 16, 384, 368, 369, 1296, 371, 720] ?tua22 ?tub22 ?tuc22 ?tud22 ?tue22 ?tuf22 ?tug22
                  case tua22 => first | (simp [keepS]; done) | (simp [keepS]; rfl)
                  case tub22 => first | (simp; done) | (simp; rfl)
                  case tuc22 => simp
                  case tud22 => simp
                  case tue22 => simp
                  case tuf22 => simp
                  case tug22 =>
                    simp [swp, vr]
                    exact le_of2 (by simp) (by simp [AVle, AV.under, AV.underL] <;> omega) (by simp [AOle, AO.under, AV.underL, AV.under] <;> omega)
                · have hxc : f + 4 ≤ x := by omega
                  have h43z := F43_at (x := f) (hi.valid.sorted 2 (by omega)) hl2
                  have h51z := insF_at (x := f) hl2
                  have hnx := hi.high (Nat.zero_le 2) hxf
                  simp only [Zn.fr, List.getD_cons_zero, List.getD_cons_succ] at h43z
                  simp only [show ((2 : Int) ^ 2) = 4 from rfl, Zn.fr, List.getD_cons_zero, List.getD_cons_succ] at hnx
                  repeat' (first | (apply aw_seq_k; intro K hK) | (refine aw_run hc (by first | exact aw_nod | (intro _; rw [ordB_w hw]; kernel_rfl) | (intro _; kernel_rfl)) ?_; simp [List.zipIdx, hxc, h43, h43z, h51, h51z, bits64, callM, giveArg, takeArg, take_irows, one1, -getM, getM_hit, getM_miss, getM_none]; (repeat (simp (disch := first | omega | assumption | fail) only [if_pos, if_neg, wrap64]; try simp [List.zipIdx, hxc, h43, h43z, h51, h51z, bits64, callM, giveArg, takeArg, take_irows, one1, -getM, getM_hit, getM_miss, getM_none])); try (repeat' (refine guardQ_split (fun h => ?_) (fun h => ?_) <;> simp at h <;> (simp [List.zipIdx, hxc, h43, h43z, h51, h51z, bits64, callM, giveArg, takeArg, take_irows, one1, -getM, getM_hit, getM_miss, getM_none]; (repeat (simp (disch := first | omega | assumption | fail) only [if_pos, if_neg, wrap64]; try simp [List.zipIdx, hxc, h43, h43z, h51, h51z, bits64, callM, giveArg, takeArg, take_irows, one1, -getM, getM_hit, getM_miss, getM_none])))))) | (refine aw_cond (b := _) (by exact rfl) (fun h => ?_) (fun h => ?_) <;> (try simp at h)) | (refine aw_block ?_) | (refine aw_skip ?_; simp only [thenQ, blockQ, if_true]) | (refine aw_exit ?_; simp [thenQ, blockQ]) | (refine aw_ret ?_; simp only [thenQ, blockQ]) | (refine aw_round ?_) | (refine hK _ ?_; clear hK) | (clear hK; refine hK _ ?_; clear hK) | (clear hK; clear hK; refine hK _ ?_; clear hK) | (clear hK; clear hK; clear hK; refine hK _ ?_; clear hK))
                  refine ⟨y.set 2 (insI y.f2 (f)), f + 4, 2, ?_, ⟨hnx, by omega⟩, by omega⟩
                  simp only [Zn.set]
                  refine le_turn (s1 := ?tus23) (m1 := ?tum23) [(370, 1360)] [7, 8, 1, 4, 9] [0, 16, 384, 368, 369, 1360, 371, 720] ?tua23 ?tub23 ?tuc23 ?tud23 ?tue23 ?tuf23 ?tug23
                  case tua23 => first | (simp [keepS]; done) | (simp [keepS]; rfl)
                  case tub23 => first | (simp; done) | (simp; rfl)
                  case tuc23 => simp
                  case tud23 => simp
                  case tue23 => simp
                  case tuf23 => simp
                  case tug23 =>
                    simp [swp, vr]
                    exact le_of2 (by simp) (by simp [AVle, AV.under, AV.underL] <;> omega) (by simp [AOle, AO.under, AV.underL, AV.under] <;> omega)
              · have hl3 : y.f3.length ≤ 1000000 := by have : y.f3.length ≤ 1000 := hys 3 (by omega); omega
                have hbb := inside_bounds (hi.same.ranges.2 hr) hi.inside
                simp at hbb
                rcases Decidable.em (x < f + 8) with hxf | hxf
                · have hxc : ¬ (f + 8 ≤ x) := by omega
                  have h43z := F43_at (x := f + 8) (hi.valid.sorted 3 (by omega)) hl3
                  have h51z := insF_at (x := f + 8) hl3
                  have hnx := hi.low (Nat.zero_le 3) hxf
                  simp only [Zn.fr, List.getD_cons_zero, List.getD_cons_succ] at h43z
                  simp only [show ((2 : Int) ^ 3) = 8 from rfl, Zn.fr, List.getD_cons_zero, List.getD_cons_succ] at hnx
                  repeat' (first | (apply aw_seq_k; intro K hK) | (refine aw_run hc (by first | exact aw_nod | (intro _; rw [ordB_w hw]; kernel_rfl) | (intro _; kernel_rfl)) ?_; simp [List.zipIdx, hxc, h43, h43z, h51, h51z, bits64, callM, giveArg, takeArg, take_irows, one1, -getM, getM_hit, getM_miss, getM_none]; (repeat (simp (disch := first | omega | assumption | fail) only [if_pos, if_neg, wrap64]; try simp [List.zipIdx, hxc, h43, h43z, h51, h51z, bits64, callM, giveArg, takeArg, take_irows, one1, -getM, getM_hit, getM_miss, getM_none])); try (repeat' (refine guardQ_split (fun h => ?_) (fun h => ?_) <;> simp at h <;> (simp [List.zipIdx, hxc, h43, h43z, h51, h51z, bits64, callM, giveArg, takeArg, take_irows, one1, -getM, getM_hit, getM_miss, getM_none]; (repeat (simp (disch := first | omega | assumption | fail) only [if_pos, if_neg, wrap64]; try simp [List.zipIdx, hxc, h43, h43z, h51, h51z, bits64, callM, giveArg, takeArg, take_irows, one1, -getM, getM_hit, getM_miss, getM_none])))))) | (refine aw_cond (b := _) (by exact rfl) (fun h => ?_) (fun h => ?_) <;> (try simp at h)) | (refine aw_block ?_) | (refine aw_skip ?_; simp only [thenQ, blockQ, if_true]) | (refine aw_exit ?_; simp [thenQ, blockQ]) | (refine aw_ret ?_; simp only [thenQ, blockQ]) | (refine aw_round ?_) | (refine hK _ ?_; clear hK) | (clear hK; refine hK _ ?_; clear hK) | (clear hK; clear hK; refine hK _ ?_; clear hK) | (clear hK; clear hK; clear hK; refine hK _ ?_; clear hK))
                  refine ⟨y.set 3 (insI y.f3 (f + 8)), f, 3, ?_, ⟨hnx, by omega⟩, by omega⟩
                  simp only [Zn.set]
                  refine le_turn (s1 := ?tus24) (m1 := ?tum24) [(371, 1296)] [7, 8, 1, 4, 9] [0, 16, 384, 368, 369, 370, 1296, 720] ?tua24 ?tub24 ?tuc24 ?tud24 ?tue24 ?tuf24 ?tug24
                  case tua24 => first | (simp [keepS]; done) | (simp [keepS]; rfl)
                  case tub24 => first | (simp; done) | (simp; rfl)
                  case tuc24 => simp
                  case tud24 => simp
                  case tue24 => simp
                  case tuf24 => simp
                  case tug24 =>
                    simp [swp, vr]
                    exact le_of2 (by simp) (by simp [AVle, AV.under, AV.underL] <;> omega) (by simp [AOle, AO.under, AV.underL, AV.under] <;> omega)
                · have hxc : f + 8 ≤ x := by omega
                  have h43z := F43_at (x := f) (hi.valid.sorted 3 (by omega)) hl3
                  have h51z := insF_at (x := f) hl3
                  have hnx := hi.high (Nat.zero_le 3) hxf
                  simp only [Zn.fr, List.getD_cons_zero, List.getD_cons_succ] at h43z
                  simp only [show ((2 : Int) ^ 3) = 8 from rfl, Zn.fr, List.getD_cons_zero, List.getD_cons_succ] at hnx
                  repeat' (first | (apply aw_seq_k; intro K hK) | (refine aw_run hc (by first | exact aw_nod | (intro _; rw [ordB_w hw]; kernel_rfl) | (intro _; kernel_rfl)) ?_; simp [List.zipIdx, hxc, h43, h43z, h51, h51z, bits64, callM, giveArg, takeArg, take_irows, one1, -getM, getM_hit, getM_miss, getM_none]; (repeat (simp (disch := first | omega | assumption | fail) only [if_pos, if_neg, wrap64]; try simp [List.zipIdx, hxc, h43, h43z, h51, h51z, bits64, callM, giveArg, takeArg, take_irows, one1, -getM, getM_hit, getM_miss, getM_none])); try (repeat' (refine guardQ_split (fun h => ?_) (fun h => ?_) <;> simp at h <;> (simp [List.zipIdx, hxc, h43, h43z, h51, h51z, bits64, callM, giveArg, takeArg, take_irows, one1, -getM, getM_hit, getM_miss, getM_none]; (repeat (simp (disch := first | omega | assumption | fail) only [if_pos, if_neg, wrap64]; try simp [List.zipIdx, hxc, h43, h43z, h51, h51z, bits64, callM, giveArg, takeArg, take_irows, one1, -getM, getM_hit, getM_miss, getM_none])))))) | (refine aw_cond (b := _) (by exact rfl) (fun h => ?_) (fun h => ?_) <;> (try simp at h)) | (refine aw_block ?_) | (refine aw_skip ?_; simp only [thenQ, blockQ, if_true]) | (refine aw_exit ?_; simp [thenQ, blockQ]) | (refine aw_ret ?_; simp only [thenQ, blockQ]) | (refine aw_round ?_) | (refine hK _ ?_; clear hK) | (clear hK; refine hK _ ?_; clear hK) | (clear hK; clear hK; refine hK _ ?_; clear hK) | (clear hK; clear hK; clear hK; refine hK _ ?_; clear hK))
                  refine ⟨y.set 3 (insI y.f3 (f)), f + 8, 3, ?_, ⟨hnx, by omega⟩, by omega⟩
                  simp only [Zn.set]
                  refine le_turn (s1 := ?tus25) (m1 := ?tum25) [(371, 1360)] [7, 8, 1, 4, 9] [0, 16, 384, 368, 369, 370, 1360, 720] ?tua25 ?tub25 ?tuc25 ?tud25 ?tue25 ?tuf25 ?tug25
                  case tua25 => first | (simp [keepS]; done) | (simp [keepS]; rfl)
                  case tub25 => first | (simp; done) | (simp; rfl)
                  case tuc25 => simp
                  case tud25 => simp
                  case tue25 => simp
                  case tuf25 => simp
                  case tug25 =>
                    simp [swp, vr]
                    exact le_of2 (by simp) (by simp [AVle, AV.under, AV.underL] <;> omega) (by simp [AOle, AO.under, AV.underL, AV.under] <;> omega)
            · obtain rfl : k = 0 := by omega
              have hd := hi.done
              rw [hd] at hal
              have hys := hi.same
              unfold sameP at hys
              repeat' (first | (apply aw_seq_k; intro K hK) | (refine aw_run hc (by first | exact aw_nod | (intro _; rw [ordB_w hw]; kernel_rfl) | (intro _; kernel_rfl)) ?_; simp [List.zipIdx, -getM, getM_hit, getM_miss, getM_none]; (repeat (simp (disch := first | omega | assumption | fail) only [if_pos, if_neg, wrap64]; try simp [List.zipIdx, -getM, getM_hit, getM_miss, getM_none])); try (repeat' (refine guardQ_split (fun h => ?_) (fun h => ?_) <;> simp at h <;> (simp [List.zipIdx, -getM, getM_hit, getM_miss, getM_none]; (repeat (simp (disch := first | omega | assumption | fail) only [if_pos, if_neg, wrap64]; try simp [List.zipIdx, -getM, getM_hit, getM_miss, getM_none])))))) | (refine aw_cond (b := _) (by exact rfl) (fun h => ?_) (fun h => ?_) <;> (try simp at h)) | (refine aw_block ?_) | (refine aw_skip ?_; simp only [thenQ, blockQ, if_true]) | (refine aw_exit ?_; simp [thenQ, blockQ]) | (refine aw_ret ?_; simp only [thenQ, blockQ]) | (refine aw_round ?_) | (refine hK _ ?_; clear hK) | (clear hK; refine hK _ ?_; clear hK) | (clear hK; clear hK; refine hK _ ?_; clear hK) | (clear hK; clear hK; clear hK; refine hK _ ?_; clear hK))
              refine ⟨by simp, ?_⟩
              simp [leaves_iff, Try.f29, hal, Zn.ocells, take_irows, hys]
              try (first | omega | (refine decide_eq_decide.2 ?_; omega) | (refine decide_eq_false ?_; omega) | (refine decide_eq_true ?_; omega))
    · have h42z : ∀ M n, X.call 42 [.agg z.cells, I x, I 0] M n = some (B false, []) := fun M n => by
        have := h42 z x 0 M n hr (by omega)
        rwa [decide_eq_false hin] at this
      have hal := takeR_range hc0 hin
      repeat' (first | (apply aw_seq_k; intro K hK) | (refine aw_run hc (by first | exact aw_nod | (intro _; rw [ordB_w hw]; kernel_rfl) | (intro _; kernel_rfl)) ?_; simp [List.zipIdx, h16z, hc0, h42z, -getM, getM_hit, getM_miss, getM_none]; (repeat (simp (disch := first | omega | assumption | fail) only [if_pos, if_neg, wrap64]; try simp [List.zipIdx, h16z, hc0, h42z, -getM, getM_hit, getM_miss, getM_none])); try (repeat' (refine guardQ_split (fun h => ?_) (fun h => ?_) <;> simp at h <;> (simp [List.zipIdx, h16z, hc0, h42z, -getM, getM_hit, getM_miss, getM_none]; (repeat (simp (disch := first | omega | assumption | fail) only [if_pos, if_neg, wrap64]; try simp [List.zipIdx, h16z, hc0, h42z, -getM, getM_hit, getM_miss, getM_none])))))) | (refine aw_cond (b := _) (by exact rfl) (fun h => ?_) (fun h => ?_) <;> (try simp at h)) | (refine aw_block ?_) | (refine aw_skip ?_; simp only [thenQ, blockQ, if_true]) | (refine aw_exit ?_; simp [thenQ, blockQ]) | (refine aw_ret ?_; simp only [thenQ, blockQ]) | (refine aw_round ?_) | (refine hK _ ?_; clear hK) | (clear hK; refine hK _ ?_; clear hK) | (clear hK; clear hK; refine hK _ ?_; clear hK) | (clear hK; clear hK; clear hK; refine hK _ ?_; clear hK))
      refine ⟨by simp, ?_⟩
      simp [leaves_iff, Try.f29, hal, zeroZ, Zn.ocells, irows]
      try (first | omega | (refine decide_eq_decide.2 ?_; omega) | (refine decide_eq_false ?_; omega) | (refine decide_eq_true ?_; omega))
  · have hal := takeR_bad (f := x) hc0
    repeat' (first | (apply aw_seq_k; intro K hK) | (refine aw_run hc (by first | exact aw_nod | (intro _; rw [ordB_w hw]; kernel_rfl) | (intro _; kernel_rfl)) ?_; simp [List.zipIdx, h16z, hc0, -getM, getM_hit, getM_miss, getM_none]; (repeat (simp (disch := first | omega | assumption | fail) only [if_pos, if_neg, wrap64]; try simp [List.zipIdx, h16z, hc0, -getM, getM_hit, getM_miss, getM_none])); try (repeat' (refine guardQ_split (fun h => ?_) (fun h => ?_) <;> simp at h <;> (simp [List.zipIdx, h16z, hc0, -getM, getM_hit, getM_miss, getM_none]; (repeat (simp (disch := first | omega | assumption | fail) only [if_pos, if_neg, wrap64]; try simp [List.zipIdx, h16z, hc0, -getM, getM_hit, getM_miss, getM_none])))))) | (refine aw_cond (b := _) (by exact rfl) (fun h => ?_) (fun h => ?_) <;> (try simp at h)) | (refine aw_block ?_) | (refine aw_skip ?_; simp only [thenQ, blockQ, if_true]) | (refine aw_exit ?_; simp [thenQ, blockQ]) | (refine aw_ret ?_; simp only [thenQ, blockQ]) | (refine aw_round ?_) | (refine hK _ ?_; clear hK) | (clear hK; refine hK _ ?_; clear hK) | (clear hK; clear hK; refine hK _ ?_; clear hK) | (clear hK; clear hK; clear hK; refine hK _ ?_; clear hK))
    refine ⟨by simp, ?_⟩
    simp [leaves_iff, Try.f29, hal, zeroZ, Zn.ocells, irows]
    try (first | omega | (refine decide_eq_decide.2 ?_; omega) | (refine decide_eq_false ?_; omega) | (refine decide_eq_true ?_; omega))
end Go.AM
