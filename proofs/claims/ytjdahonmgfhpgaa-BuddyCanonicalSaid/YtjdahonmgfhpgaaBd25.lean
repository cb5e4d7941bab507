/- ref.Alloc, ref.Free, ref.Take, ref.IsFree. -/
import Derived.Test.YtjdahonmgfhpgaaBd22
import Derived.Test.YtjdahonmgfhpgaaBdR
import Derived.Test.YtjdahonmgfhpgaaBd14
set_option linter.all false

namespace Go.AM
open Go Go.Proofs

theorem F49n_at {z : Zn} {s : List Int} (hz : rangesZ z) (hs : s.length = 256) : F49n [.agg z.cells, .rd 1 (irows s)] = some (.agg (canon z (setOf s)).ocells) := F49_at hz hs
theorem check_form {z : Zn} (h : checkZ z = 0) : formErr z = 0 := by
  have hr := (check_parts h).1
  unfold checkZ at h
  rw [if_neg (by simpa using hr)] at h
  split at h
  · exact h
  · rename_i h2; exact Decidable.of_not_not h2
theorem canon_up0 {z : Zn} (hr : rangesZ z) (hv : Valid z) {R : Int → Prop} : canon z (setOf (upS (cnts (coverL z 5)) R 0)) = canon z fun y => free z y ∧ ¬ R y :=
  canon_congr fun x => by rw [setOf_up0 (cnts_len _), setOf_cnts hr hv]
theorem canon_up1 {z : Zn} (hr : rangesZ z) (hv : Valid z) {R : Int → Prop} (hR : ∀ x, R x → 0 ≤ x ∧ x < 256) : canon z (setOf (upS (cnts (coverL z 5)) R 1)) = canon z fun y => free z y ∨ R y :=
  canon_congr fun x => by rw [setOf_up1 (cnts_len _) hR, setOf_cnts hr hv]
theorem set_up {s : List Int} (hs : s.length = 256) {y : Nat} {v : Int} : (irows s).set y [I v] = irows (upS s (fun x => x = (y : Int)) v) := by
  conv => lhs; rw [← upS_none (R := fun _ => False) (v := v) hs (fun _ h => h)]
  rw [upS_set]
  exact congrArg irows (upS_congr fun x => by simp)
theorem upS_next {s : List Int} {f i : Nat} {v : Int} : (irows (upS s (fun x => (f : Int) ≤ x ∧ x < (f : Int) + i) v)).set (f + i) [I v] = irows (upS s (fun x => (f : Int) ≤ x ∧ x < (f : Int) + (i + 1 : Nat)) v) := by
  rw [upS_set]
  exact congrArg irows (upS_congr fun x => by omega)

theorem s22 (X : AX) (hX : XOK Try.prog X) (hw : X.W wT) (h17 : ∀ z M n, small z → X.call 17 [.agg z.cells] M n = some (I (checkZ z), []))
    (h46 : ∀ z M n, rangesZ z → formErr z = 0 → small z → X.call 46 [.agg z.cells] M n = some (.sl n 1 1 0 256, [(n, .vec 1 1 false (irows (cnts (coverL z 5))))])) (h49 : X.call 49 = callP F49n) :
    PSound Try.prog 22 (specF (ι := {x : Zn × Int // small x.1}) (fun x => [.agg x.1.1.cells, I x.1.2]) fun x => retOf [.agg (allocR x.1.1 x.1.2).1.ocells, I (allocR x.1.1 x.1.2).2.1, I (allocR x.1.1 x.1.2).2.2]) := by
  refine psound_spec hX mixed Try.func22 rfl fun ⟨⟨z, o⟩, hz⟩ w0 G => ⟨by show 2 ≤ 62; decide, rfl, ?_⟩
  show AW ⟨Try.prog, X, 62, w0, .pure G⟩ _ _ _
  have hc : Cx.OK ⟨Try.prog, X, 62, w0, .pure G⟩ := ⟨hX, mixed⟩
  simp only at hz ⊢
  have h17z := fun M n => h17 z M n hz
  rcases Decidable.em (checkZ z = 0) with hc0 | hc0
  · obtain ⟨hr, hv⟩ := check_parts hc0
    have h46z := fun M n => h46 z M n hr (check_form hc0) hz
    rcases Decidable.em (0 ≤ o ∧ o ≤ 4) with ho | ho
    · obtain ⟨o, rfl⟩ := Int.eq_ofNat_of_zero_le ho.1
      have ho4 : o ≤ 4 := by omega
      have ho1 : ¬ (4 : Int) < (o : Int) := by omega
      have ho2 : ¬ (o : Int) < 0 := by omega
      repeat' (first | (apply aw_seq_k; intro K hK) | (refine aw_run hc (by first | exact aw_nod | (intro _; rw [ordB_w hw]; kernel_rfl) | (intro _; kernel_rfl)) ?_; simp [List.zipIdx, h17z, hc0, ho1, ho2, -getM, getM_hit, getM_miss, getM_none]; (repeat (simp (disch := first | omega | assumption | fail) only [if_pos, if_neg, wrap64]; try simp [List.zipIdx, h17z, hc0, ho1, ho2, -getM, getM_hit, getM_miss, getM_none])); try (repeat' (refine guardQ_split (fun h => ?_) (fun h => ?_) <;> simp at h <;> (simp [List.zipIdx, h17z, hc0, ho1, ho2, -getM, getM_hit, getM_miss, getM_none]; (repeat (simp (disch := first | omega | assumption | fail) only [if_pos, if_neg, wrap64]; try simp [List.zipIdx, h17z, hc0, ho1, ho2, -getM, getM_hit, getM_miss, getM_none])))))) | (refine aw_cond (b := _) (by exact rfl) (fun h => ?_) (fun h => ?_) <;> (try simp at h)) | (refine aw_block ?_) | (refine aw_skip ?_; simp only [thenQ, blockQ, if_true]) | (refine aw_exit ?_; simp [thenQ, blockQ]) | (refine aw_ret ?_; simp only [thenQ, blockQ]) | (refine aw_round ?_) | (refine hK _ ?_; clear hK) | (clear hK; refine hK _ ?_; clear hK) | (clear hK; clear hK; refine hK _ ?_; clear hK) | (clear hK; clear hK; clear hK; refine hK _ ?_; clear hK))
      refine aw_loopK (s0 := ?lps1) (m0 := ?lpm1) (ι := {k : Nat // o ≤ k ∧ k ≤ 5 ∧ ∀ j, o ≤ j → j < k → z.fr j = []}) [1, 2, 4] (fun k => [(8, I k.1)]) (fun _ => []) (fun k => 5 - k.1) ⟨o, by omega, by omega, fun j h1 h2 => by omega⟩ ?lhs1 ?lhm1 ?_ ?_
      case lhs1 => first | (simp [keepS]; done) | (simp [keepS]; rfl)
      case lhm1 => first | rfl | (simp; done) | (simp; rfl)
      · exact le_of2 (by simp) (by simp [AVle, AV.under, AV.underL] <;> omega) (by simp [AOle, AO.under, AV.underL, AV.under] <;> omega)
      · rintro ⟨k, hok, hk, hlow⟩
        simp only
        rcases Decidable.em (k ≤ 4) with hk4 | hk4
        · have hki : (k : Int) ≤ 4 := by omega
          rcases Decidable.em (0 < (z.fr k).length) with hlen | hlen
          · have hne : z.fr k ≠ [] := by intro e; rw [e] at hlen; simp at hlen
            have hal := allocR_at hc0 ⟨hok, hk4, hne, hlow⟩
            simp only [hal]
            have hb := inside_bounds hr (hv.inside k (gi (z.fr k) 0) hk4 (gi_mem hlen))
            have hbo : (2 : Int) ^ o ≤ 2 ^ k := by
              rcases le4 hk4 with rfl | rfl | rfl | rfl | rfl <;> (have := le4 ho4; rcases this with rfl | rfl | rfl | rfl | rfl <;> first | (exfalso; omega) | simp)
            have hg := irows_gi (l := z.fr k) (n := 0) hlen
            obtain ⟨f, hf⟩ := Int.eq_ofNat_of_zero_le hb.1
            have hg0 : ∀ h, (irows (z.fr k))[0]'h = [I (gi (z.fr k) 0)] := fun h => by
              rw [List.getElem?_eq_getElem h] at hg; exact Option.some.inj hg
            rw [hf] at hb hg hg0 ⊢
            obtain ⟨w, hw1, hw2⟩ : ∃ w : Nat, (2 : Int) ^ o = w ∧ 2 ^ o = w := ⟨2 ^ o, by simp, rfl⟩
            rw [hw1] at hbo ⊢
            have hlenI : (0 : Int) < ((z.fr k).length : Int) := by omega
            have hw5 : w ≤ 16 := by
              rw [← hw2]
              rcases le4 ho4 with rfl | rfl | rfl | rfl | rfl <;> simp
            have hw0 : 1 ≤ w := by rw [← hw2]; exact Nat.one_le_two_pow
            repeat' (first | (apply aw_seq_k; intro K hK) | (refine aw_run hc (by first | exact aw_nod | (intro _; rw [ordB_w hw]; kernel_rfl) | (intro _; kernel_rfl)) ?_; simp [List.zipIdx, Zn.cf hk4, hki, hlen, hg, hg0, h46z, -getM, getM_hit, getM_miss, getM_none]; (repeat (simp (disch := first | omega | assumption | fail) only [if_pos, if_neg, wrap64]; try simp [List.zipIdx, Zn.cf hk4, hki, hlen, hg, hg0, h46z, -getM, getM_hit, getM_miss, getM_none])); try (repeat' (refine guardQ_split (fun h => ?_) (fun h => ?_) <;> simp at h <;> (simp [List.zipIdx, Zn.cf hk4, hki, hlen, hg, hg0, h46z, -getM, getM_hit, getM_miss, getM_none]; (repeat (simp (disch := first | omega | assumption | fail) only [if_pos, if_neg, wrap64]; try simp [List.zipIdx, Zn.cf hk4, hki, hlen, hg, hg0, h46z, -getM, getM_hit, getM_miss, getM_none])))))) | (refine aw_cond (b := _) (by exact rfl) (fun h => ?_) (fun h => ?_) <;> (try simp at h)) | (refine aw_block ?_) | (refine aw_skip ?_; simp only [thenQ, blockQ, if_true]) | (refine aw_exit ?_; simp [thenQ, blockQ]) | (refine aw_ret ?_; simp only [thenQ, blockQ]) | (refine aw_round ?_) | (refine hK _ ?_; clear hK) | (clear hK; refine hK _ ?_; clear hK) | (clear hK; clear hK; refine hK _ ?_; clear hK) | (clear hK; clear hK; clear hK; refine hK _ ?_; clear hK))
            have hs0 : upS (cnts (coverL z 5)) (fun x => (f : Int) ≤ x ∧ x < (f : Int) + (0 : Nat)) 0 = cnts (coverL z 5) := upS_none (cnts_len _) fun x hx => by omega
            refine aw_loopK (s0 := ?lps2) (m0 := ?lpm2) (ι := {i : Nat // i ≤ w}) [1, 2, 4, 9, 10] (fun i => [(11, I ((f : Int) + (i.1 : Int)))]) (fun i => [(528, .vec 1 1 false (irows (upS (cnts (coverL z 5)) (fun x => (f : Int) ≤ x ∧ x < (f : Int) + (i.1 : Nat)) 0)))]) (fun i => w - i.1) ⟨0, by omega⟩ ?lhs2 ?lhm2 ?_ ?_
            case lhs2 => first | (simp [keepS]; done) | (simp [keepS]; rfl)
            case lhm2 => first | rfl | (simp; done) | (simp; rfl)
            · simp only [hs0]
              exact le_of2 (by simp) (by simp [AVle, AV.under, AV.underL] <;> omega) (by simp [AOle, AO.under, AV.underL, AV.under] <;> omega)
            · rintro ⟨i, hi⟩
              simp only
              have hto : ((f : Int) + (i : Int)).toNat = f + i := by omega
              have hst := upS_next (s := cnts (coverL z 5)) (f := f) (i := i) (v := 0)
              have hsh : min o 64 = o := Nat.min_eq_left (by omega)
              have hwp := wrap_pow (show o ≤ 62 by omega)
              rcases Decidable.em (i < w) with hiw | hiw
              · have hiwI : (i : Int) < (w : Int) := by omega
                have hg := irows_gi (l := upS (cnts (coverL z 5)) (fun x => (f : Int) ≤ x ∧ x < (f : Int) + (i : Nat)) 0) (n := f + i) (by simp; omega)
                repeat' (first | (apply aw_seq_k; intro K hK) | (refine aw_run hc (by first | exact aw_nod | (intro _; rw [ordB_w hw]; kernel_rfl) | (intro _; kernel_rfl)) ?_; simp [List.zipIdx, hiwI, hto, hst, hg, hsh, hwp, hw1, bits64, -getM, getM_hit, getM_miss, getM_none]; (repeat (simp (disch := first | omega | assumption | fail) only [if_pos, if_neg, wrap64, wrapU64]; try simp [List.zipIdx, hiwI, hto, hst, hg, hsh, hwp, hw1, bits64, -getM, getM_hit, getM_miss, getM_none])); try (repeat' (refine guardQ_split (fun h => ?_) (fun h => ?_) <;> simp at h <;> (simp [List.zipIdx, hiwI, hto, hst, hg, hsh, hwp, hw1, bits64, -getM, getM_hit, getM_miss, getM_none]; (repeat (simp (disch := first | omega | assumption | fail) only [if_pos, if_neg, wrap64, wrapU64]; try simp [List.zipIdx, hiwI, hto, hst, hg, hsh, hwp, hw1, bits64, -getM, getM_hit, getM_miss, getM_none])))))) | (refine aw_cond (b := _) (by exact rfl) (fun h => ?_) (fun h => ?_) <;> (try simp at h)) | (refine aw_block ?_) | (refine aw_skip ?_; simp only [thenQ, blockQ, if_true]) | (refine aw_exit ?_; simp [thenQ, blockQ]) | (refine aw_ret ?_; simp only [thenQ, blockQ]) | (refine aw_round ?_) | (refine hK _ ?_; clear hK) | (clear hK; refine hK _ ?_; clear hK) | (clear hK; clear hK; refine hK _ ?_; clear hK) | (clear hK; clear hK; clear hK; refine hK _ ?_; clear hK))
                refine ⟨i + 1, ?_, by omega, by omega⟩
                exact le_of2 (by simp) (by simp [AVle, AV.under, AV.underL] <;> omega) (by simp [AOle, AO.under, AV.underL, AV.under] <;> omega)
              · obtain rfl : i = w := by omega
                obtain ⟨y, hy⟩ : ∃ y, y = canon z fun y => free z y ∧ ¬ ((f : Int) ≤ y ∧ y < (f : Int) + (i : Nat)) := ⟨_, rfl⟩
                have h49z := F49n_at hr (upS_len (cnts (coverL z 5)) (fun x => (f : Int) ≤ x ∧ x < (f : Int) + (i : Nat)) 0)
                rw [canon_up0 hr hv, ← hy] at h49z
                have htk : List.take 256 (irows (upS (cnts (coverL z 5)) (fun x => (f : Int) ≤ x ∧ x < (f : Int) + (i : Nat)) 0)) = irows (upS (cnts (coverL z 5)) (fun x => (f : Int) ≤ x ∧ x < (f : Int) + (i : Nat)) 0) := List.take_of_length_le (by simp)
                repeat' (first | (apply aw_seq_k; intro K hK) | (refine aw_run hc (by first | exact aw_nod | (intro _; rw [ordB_w hw]; kernel_rfl) | (intro _; kernel_rfl)) ?_; simp [List.zipIdx, hto, hst, hsh, hwp, hw1, bits64, h49, h49z, htk, Zn.ocells, -getM, getM_hit, getM_miss, getM_none]; (repeat (simp (disch := first | omega | assumption | fail) only [if_pos, if_neg, wrap64, wrapU64]; try simp [List.zipIdx, hto, hst, hsh, hwp, hw1, bits64, h49, h49z, htk, Zn.ocells, -getM, getM_hit, getM_miss, getM_none])); try (repeat' (refine guardQ_split (fun h => ?_) (fun h => ?_) <;> simp at h <;> (simp [List.zipIdx, hto, hst, hsh, hwp, hw1, bits64, h49, h49z, htk, Zn.ocells, -getM, getM_hit, getM_miss, getM_none]; (repeat (simp (disch := first | omega | assumption | fail) only [if_pos, if_neg, wrap64, wrapU64]; try simp [List.zipIdx, hto, hst, hsh, hwp, hw1, bits64, h49, h49z, htk, Zn.ocells, -getM, getM_hit, getM_miss, getM_none])))))) | (refine aw_cond (b := _) (by exact rfl) (fun h => ?_) (fun h => ?_) <;> (try simp at h)) | (refine aw_block ?_) | (refine aw_skip ?_; simp only [thenQ, blockQ, if_true]) | (refine aw_exit ?_; simp [thenQ, blockQ]) | (refine aw_ret ?_; simp only [thenQ, blockQ]) | (refine aw_round ?_) | (refine hK _ ?_; clear hK) | (clear hK; refine hK _ ?_; clear hK) | (clear hK; clear hK; refine hK _ ?_; clear hK) | (clear hK; clear hK; clear hK; refine hK _ ?_; clear hK))
                rw [← hy]
                refine ⟨by simp, ?_⟩
                simp [leaves_iff, Try.f22, Zn.ocells, take_irows]
                try (first | omega | (refine decide_eq_decide.2 ?_; omega) | (refine decide_eq_false ?_; omega) | (refine decide_eq_true ?_; omega))
          · have hlen0 : z.fr k = [] := List.eq_nil_of_length_eq_zero (by omega)
            have hlenI : (z.fr k).length = 0 := by omega
            repeat' (first | (apply aw_seq_k; intro K hK) | (refine aw_run hc (by first | exact aw_nod | (intro _; rw [ordB_w hw]; kernel_rfl) | (intro _; kernel_rfl)) ?_; simp [List.zipIdx, Zn.cf hk4, hki, hlenI, -getM, getM_hit, getM_miss, getM_none]; (repeat (simp (disch := first | omega | assumption | fail) only [if_pos, if_neg, wrap64]; try simp [List.zipIdx, Zn.cf hk4, hki, hlenI, -getM, getM_hit, getM_miss, getM_none])); try (repeat' (refine guardQ_split (fun h => ?_) (fun h => ?_) <;> simp at h <;> (simp [List.zipIdx, Zn.cf hk4, hki, hlenI, -getM, getM_hit, getM_miss, getM_none]; (repeat (simp (disch := first | omega | assumption | fail) only [if_pos, if_neg, wrap64]; try simp [List.zipIdx, Zn.cf hk4, hki, hlenI, -getM, getM_hit, getM_miss, getM_none])))))) | (refine aw_cond (b := _) (by exact rfl) (fun h => ?_) (fun h => ?_) <;> (try simp at h)) | (refine aw_block ?_) | (refine aw_skip ?_; simp only [thenQ, blockQ, if_true]) | (refine aw_exit ?_; simp [thenQ, blockQ]) | (refine aw_ret ?_; simp only [thenQ, blockQ]) | (refine aw_round ?_) | (refine hK _ ?_; clear hK) | (clear hK; refine hK _ ?_; clear hK) | (clear hK; clear hK; refine hK _ ?_; clear hK) | (clear hK; clear hK; clear hK; refine hK _ ?_; clear hK))
            refine ⟨k + 1, ?_, ⟨by omega, by omega, fun j h1 h2 => ?_⟩, by omega⟩
            · exact le_of2 (by simp) (by simp [AVle, AV.under, AV.underL] <;> omega) (by simp [AOle, AO.under, AV.underL, AV.under] <;> omega)
            · by_cases e : j = k
              · rw [e]; exact hlen0
              · exact hlow j h1 (by omega)
        · obtain rfl : k = 5 := by omega
          have hal := allocR_none hc0 ho4 fun j h1 h2 => hlow j h1 (by omega)
          repeat' (first | (apply aw_seq_k; intro K hK) | (refine aw_run hc (by first | exact aw_nod | (intro _; rw [ordB_w hw]; kernel_rfl) | (intro _; kernel_rfl)) ?_; simp [List.zipIdx, -getM, getM_hit, getM_miss, getM_none]; (repeat (simp (disch := first | omega | assumption | fail) only [if_pos, if_neg, wrap64]; try simp [List.zipIdx, -getM, getM_hit, getM_miss, getM_none])); try (repeat' (refine guardQ_split (fun h => ?_) (fun h => ?_) <;> simp at h <;> (simp [List.zipIdx, -getM, getM_hit, getM_miss, getM_none]; (repeat (simp (disch := first | omega | assumption | fail) only [if_pos, if_neg, wrap64]; try simp [List.zipIdx, -getM, getM_hit, getM_miss, getM_none])))))) | (refine aw_cond (b := _) (by exact rfl) (fun h => ?_) (fun h => ?_) <;> (try simp at h)) | (refine aw_block ?_) | (refine aw_skip ?_; simp only [thenQ, blockQ, if_true]) | (refine aw_exit ?_; simp [thenQ, blockQ]) | (refine aw_ret ?_; simp only [thenQ, blockQ]) | (refine aw_round ?_) | (refine hK _ ?_; clear hK) | (clear hK; refine hK _ ?_; clear hK) | (clear hK; clear hK; refine hK _ ?_; clear hK) | (clear hK; clear hK; clear hK; refine hK _ ?_; clear hK))
          refine ⟨by simp, ?_⟩
          simp [leaves_iff, Try.f22, hal, zeroZ, Zn.ocells, irows]
          try (first | omega | (refine decide_eq_decide.2 ?_; omega) | (refine decide_eq_false ?_; omega) | (refine decide_eq_true ?_; omega))
    · have hal := allocR_order hc0 ho
      simp only [hal]
      rcases Decidable.em (o < 0) with ho1 | ho1
      · repeat' (first | (apply aw_seq_k; intro K hK) | (refine aw_run hc (by first | exact aw_nod | (intro _; rw [ordB_w hw]; kernel_rfl) | (intro _; kernel_rfl)) ?_; simp [List.zipIdx, h17z, hc0, ho1, -getM, getM_hit, getM_miss, getM_none]; (repeat (simp (disch := first | omega | assumption | fail) only [if_pos, if_neg, wrap64]; try simp [List.zipIdx, h17z, hc0, ho1, -getM, getM_hit, getM_miss, getM_none])); try (repeat' (refine guardQ_split (fun h => ?_) (fun h => ?_) <;> simp at h <;> (simp [List.zipIdx, h17z, hc0, ho1, -getM, getM_hit, getM_miss, getM_none]; (repeat (simp (disch := first | omega | assumption | fail) only [if_pos, if_neg, wrap64]; try simp [List.zipIdx, h17z, hc0, ho1, -getM, getM_hit, getM_miss, getM_none])))))) | (refine aw_cond (b := _) (by exact rfl) (fun h => ?_) (fun h => ?_) <;> (try simp at h)) | (refine aw_block ?_) | (refine aw_skip ?_; simp only [thenQ, blockQ, if_true]) | (refine aw_exit ?_; simp [thenQ, blockQ]) | (refine aw_ret ?_; simp only [thenQ, blockQ]) | (refine aw_round ?_) | (refine hK _ ?_; clear hK) | (clear hK; refine hK _ ?_; clear hK) | (clear hK; clear hK; refine hK _ ?_; clear hK) | (clear hK; clear hK; clear hK; refine hK _ ?_; clear hK))
        refine ⟨by simp, ?_⟩
        simp [leaves_iff, Try.f22, zeroZ, Zn.ocells, irows]
        try (first | omega | (refine decide_eq_decide.2 ?_; omega) | (refine decide_eq_false ?_; omega) | (refine decide_eq_true ?_; omega))
      · have ho2 : 4 < o := by omega
        repeat' (first | (apply aw_seq_k; intro K hK) | (refine aw_run hc (by first | exact aw_nod | (intro _; rw [ordB_w hw]; kernel_rfl) | (intro _; kernel_rfl)) ?_; simp [List.zipIdx, h17z, hc0, ho1, ho2, -getM, getM_hit, getM_miss, getM_none]; (repeat (simp (disch := first | omega | assumption | fail) only [if_pos, if_neg, wrap64]; try simp [List.zipIdx, h17z, hc0, ho1, ho2, -getM, getM_hit, getM_miss, getM_none])); try (repeat' (refine guardQ_split (fun h => ?_) (fun h => ?_) <;> simp at h <;> (simp [List.zipIdx, h17z, hc0, ho1, ho2, -getM, getM_hit, getM_miss, getM_none]; (repeat (simp (disch := first | omega | assumption | fail) only [if_pos, if_neg, wrap64]; try simp [List.zipIdx, h17z, hc0, ho1, ho2, -getM, getM_hit, getM_miss, getM_none])))))) | (refine aw_cond (b := _) (by exact rfl) (fun h => ?_) (fun h => ?_) <;> (try simp at h)) | (refine aw_block ?_) | (refine aw_skip ?_; simp only [thenQ, blockQ, if_true]) | (refine aw_exit ?_; simp [thenQ, blockQ]) | (refine aw_ret ?_; simp only [thenQ, blockQ]) | (refine aw_round ?_) | (refine hK _ ?_; clear hK) | (clear hK; refine hK _ ?_; clear hK) | (clear hK; clear hK; refine hK _ ?_; clear hK) | (clear hK; clear hK; clear hK; refine hK _ ?_; clear hK))
        refine ⟨by simp, ?_⟩
        simp [leaves_iff, Try.f22, zeroZ, Zn.ocells, irows]
        try (first | omega | (refine decide_eq_decide.2 ?_; omega) | (refine decide_eq_false ?_; omega) | (refine decide_eq_true ?_; omega))
  · have hal := allocR_bad (o := o) hc0
    simp only [hal]
    repeat' (first | (apply aw_seq_k; intro K hK) | (refine aw_run hc (by first | exact aw_nod | (intro _; rw [ordB_w hw]; kernel_rfl) | (intro _; kernel_rfl)) ?_; simp [List.zipIdx, h17z, hc0, -getM, getM_hit, getM_miss, getM_none]; (repeat (simp (disch := first | omega | assumption | fail) only [if_pos, if_neg, wrap64]; try simp [List.zipIdx, h17z, hc0, -getM, getM_hit, getM_miss, getM_none])); try (repeat' (refine guardQ_split (fun h => ?_) (fun h => ?_) <;> simp at h <;> (simp [List.zipIdx, h17z, hc0, -getM, getM_hit, getM_miss, getM_none]; (repeat (simp (disch := first | omega | assumption | fail) only [if_pos, if_neg, wrap64]; try simp [List.zipIdx, h17z, hc0, -getM, getM_hit, getM_miss, getM_none])))))) | (refine aw_cond (b := _) (by exact rfl) (fun h => ?_) (fun h => ?_) <;> (try simp at h)) | (refine aw_block ?_) | (refine aw_skip ?_; simp only [thenQ, blockQ, if_true]) | (refine aw_exit ?_; simp [thenQ, blockQ]) | (refine aw_ret ?_; simp only [thenQ, blockQ]) | (refine aw_round ?_) | (refine hK _ ?_; clear hK) | (clear hK; refine hK _ ?_; clear hK) | (clear hK; clear hK; refine hK _ ?_; clear hK) | (clear hK; clear hK; clear hK; refine hK _ ?_; clear hK))
    refine ⟨by simp, ?_⟩
    simp [leaves_iff, Try.f22, zeroZ, Zn.ocells, irows]
    try (first | omega | (refine decide_eq_decide.2 ?_; omega) | (refine decide_eq_false ?_; omega) | (refine decide_eq_true ?_; omega))
end Go.AM

/- ref.Free, ref.Take, ref.IsFree. -/
namespace Go.AM
open Go Go.Proofs

theorem cnts_pos {z : Zn} {y : Nat} (hy : y < 256) : 0 < gi (cnts (coverL z 5)) y ↔ free z y := by
  rw [cnts_gi hy, free_cover]
  constructor
  · intro h; exact List.count_pos_iff.1 (by omega)
  · intro h; have := List.count_pos_iff.2 h; omega
theorem cnts_zero {z : Zn} {y : Nat} (hy : y < 256) (h : ¬ free z y) : gi (cnts (coverL z 5)) y = 0 := by
  have h1 := mt (cnts_pos hy).1 h
  rw [cnts_gi hy] at h1 ⊢
  omega

theorem s24 (X : AX) (hX : XOK Try.prog X) (hw : X.W wT) (h17 : ∀ z M n, small z → X.call 17 [.agg z.cells] M n = some (I (checkZ z), []))
    (h46 : ∀ z M n, rangesZ z → formErr z = 0 → small z → X.call 46 [.agg z.cells] M n = some (.sl n 1 1 0 256, [(n, .vec 1 1 false (irows (cnts (coverL z 5))))]))
    (h47 : ∀ z f o M n, rangesZ z → X.call 47 [.agg z.cells, I f, I o] M n = some (B (0 ≤ o ∧ o ≤ 4 ∧ insideZ z f o.toNat), [])) (h49 : X.call 49 = callP F49n) :
    PSound Try.prog 24 (specF (ι := {x : Zn × Int × Int // small x.1}) (fun x => [.agg x.1.1.cells, I x.1.2.1, I x.1.2.2]) fun x => retOf [.agg (freeR x.1.1 x.1.2.1 x.1.2.2).1.ocells, I (freeR x.1.1 x.1.2.1 x.1.2.2).2]) := by
  refine psound_spec hX mixed Try.func24 rfl fun ⟨⟨z, g, o⟩, hz⟩ w0 G => ⟨by show 3 ≤ 47; decide, rfl, ?_⟩
  show AW ⟨Try.prog, X, 47, w0, .pure G⟩ _ _ _
  have hc : Cx.OK ⟨Try.prog, X, 47, w0, .pure G⟩ := ⟨hX, mixed⟩
  simp only at hz ⊢
  have h17z := fun M n => h17 z M n hz
  rcases Decidable.em (checkZ z = 0) with hc0 | hc0
  · obtain ⟨hr, hv⟩ := check_parts hc0
    have h46z := fun M n => h46 z M n hr (check_form hc0) hz
    rcases Decidable.em (0 ≤ o ∧ o ≤ 4 ∧ insideZ z g o.toNat) with ho | ho
    · have h47z : ∀ M n, X.call 47 [.agg z.cells, I g, I o] M n = some (B true, []) := fun M n => by rw [h47 z g o M n hr, decide_eq_true ho]
      obtain ⟨o, rfl⟩ := Int.eq_ofNat_of_zero_le ho.1
      have ho4 : o ≤ 4 := by omega
      have hin : insideZ z g o := by have := ho.2.2; rwa [Int.toNat_natCast] at this
      have hb := inside_bounds hr hin
      obtain ⟨f, rfl⟩ := Int.eq_ofNat_of_zero_le hb.1
      obtain ⟨w, hw1, hw2⟩ : ∃ w : Nat, (2 : Int) ^ o = w ∧ 2 ^ o = w := ⟨2 ^ o, by simp, rfl⟩
      have hw5 : w ≤ 16 := by
        rw [← hw2]
        rcases le4 ho4 with rfl | rfl | rfl | rfl | rfl <;> simp
      have hw0 : 1 ≤ w := by rw [← hw2]; exact Nat.one_le_two_pow
      rw [hw1] at hb
      have hs0 : upS (cnts (coverL z 5)) (fun x => (f : Int) ≤ x ∧ x < (f : Int) + (0 : Nat)) 1 = cnts (coverL z 5) := upS_none (cnts_len _) fun x hx => by omega
      have hsh : min o 64 = o := Nat.min_eq_left (by omega)
      have hwp := wrap_pow (show o ≤ 62 by omega)
      repeat' (first | (apply aw_seq_k; intro K hK) | (refine aw_run hc (by first | exact aw_nod | (intro _; rw [ordB_w hw]; kernel_rfl) | (intro _; kernel_rfl)) ?_; simp [List.zipIdx, h17z, hc0, h47z, h46z, -getM, getM_hit, getM_miss, getM_none]; (repeat (simp (disch := first | omega | assumption | fail) only [if_pos, if_neg, wrap64]; try simp [List.zipIdx, h17z, hc0, h47z, h46z, -getM, getM_hit, getM_miss, getM_none])); try (repeat' (refine guardQ_split (fun h => ?_) (fun h => ?_) <;> simp at h <;> (simp [List.zipIdx, h17z, hc0, h47z, h46z, -getM, getM_hit, getM_miss, getM_none]; (repeat (simp (disch := first | omega | assumption | fail) only [if_pos, if_neg, wrap64]; try simp [List.zipIdx, h17z, hc0, h47z, h46z, -getM, getM_hit, getM_miss, getM_none])))))) | (refine aw_cond (b := _) (by exact rfl) (fun h => ?_) (fun h => ?_) <;> (try simp at h)) | (refine aw_block ?_) | (refine aw_skip ?_; simp only [thenQ, blockQ, if_true]) | (refine aw_exit ?_; simp [thenQ, blockQ]) | (refine aw_ret ?_; simp only [thenQ, blockQ]) | (refine aw_round ?_) | (refine hK _ ?_; clear hK) | (clear hK; refine hK _ ?_; clear hK) | (clear hK; clear hK; refine hK _ ?_; clear hK) | (clear hK; clear hK; clear hK; refine hK _ ?_; clear hK))
      refine aw_loopK (s0 := ?lps1) (m0 := ?lpm1) (ι := {i : Nat // i ≤ w ∧ ∀ y : Int, (f : Int) ≤ y → y < (f : Int) + (i : Nat) → ¬ free z y}) [1, 2, 3, 6, 9] (fun i => [(10, I ((f : Int) + (i.1 : Int)))]) (fun i => [(224, .vec 1 1 false (irows (upS (cnts (coverL z 5)) (fun x => (f : Int) ≤ x ∧ x < (f : Int) + (i.1 : Nat)) 1)))]) (fun i => w - i.1) ⟨0, by omega, by intro y h1 h2; omega⟩ ?lhs1 ?lhm1 ?_ ?_
      case lhs1 => first | (simp [keepS]; done) | (simp [keepS]; rfl)
      case lhm1 => first | rfl | (simp; done) | (simp; rfl)
      · simp only [hs0]
        exact le_of2 (by simp) (by simp [AVle, AV.under, AV.underL] <;> omega) (by simp [AOle, AO.under, AV.underL, AV.under] <;> omega)
      · rintro ⟨i, hi, hnf⟩
        simp only
        have hto : ((f : Int) + (i : Int)).toNat = f + i := by omega
        have hst := upS_next (s := cnts (coverL z 5)) (f := f) (i := i) (v := 1)
        rcases Decidable.em (i < w) with hiw | hiw
        · have hiwI : (i : Int) < (w : Int) := by omega
          have hg := irows_gi (l := upS (cnts (coverL z 5)) (fun x => (f : Int) ≤ x ∧ x < (f : Int) + (i : Nat)) 1) (n := f + i) (by simp; omega)
          have hgi := upS_gi (s := cnts (coverL z 5)) (R := fun x => (f : Int) ≤ x ∧ x < (f : Int) + (i : Nat)) (v := 1) (y := f + i) (by omega)
          rw [if_neg (by omega)] at hgi
          rw [hgi] at hg
          by_cases hfr : free z ((f + i : Nat) : Int)
          · have hpos := (cnts_pos (show f + i < 256 by omega)).2 hfr
            have hal := freeR_some hc0 ho4 hin (y := ((f + i : Nat) : Int)) (by omega) hfr
            repeat' (first | (apply aw_seq_k; intro K hK) | (refine aw_run hc (by first | exact aw_nod | (intro _; rw [ordB_w hw]; kernel_rfl) | (intro _; kernel_rfl)) ?_; simp [List.zipIdx, hiwI, hto, hst, hg, hpos, hsh, hwp, hw1, bits64, -getM, getM_hit, getM_miss, getM_none]; (repeat (simp (disch := first | omega | assumption | fail) only [if_pos, if_neg, wrap64, wrapU64]; try simp [List.zipIdx, hiwI, hto, hst, hg, hpos, hsh, hwp, hw1, bits64, -getM, getM_hit, getM_miss, getM_none])); try (repeat' (refine guardQ_split (fun h => ?_) (fun h => ?_) <;> simp at h <;> (simp [List.zipIdx, hiwI, hto, hst, hg, hpos, hsh, hwp, hw1, bits64, -getM, getM_hit, getM_miss, getM_none]; (repeat (simp (disch := first | omega | assumption | fail) only [if_pos, if_neg, wrap64, wrapU64]; try simp [List.zipIdx, hiwI, hto, hst, hg, hpos, hsh, hwp, hw1, bits64, -getM, getM_hit, getM_miss, getM_none])))))) | (refine aw_cond (b := _) (by exact rfl) (fun h => ?_) (fun h => ?_) <;> (try simp at h)) | (refine aw_block ?_) | (refine aw_skip ?_; simp only [thenQ, blockQ, if_true]) | (refine aw_exit ?_; simp [thenQ, blockQ]) | (refine aw_ret ?_; simp only [thenQ, blockQ]) | (refine aw_round ?_) | (refine hK _ ?_; clear hK) | (clear hK; refine hK _ ?_; clear hK) | (clear hK; clear hK; refine hK _ ?_; clear hK) | (clear hK; clear hK; clear hK; refine hK _ ?_; clear hK))
            refine ⟨by simp, ?_⟩
            simp [leaves_iff, Try.f24, hal, zeroZ, Zn.ocells, irows]
            try (first | omega | (refine decide_eq_decide.2 ?_; omega) | (refine decide_eq_false ?_; omega) | (refine decide_eq_true ?_; omega))
          · have hz0 := cnts_zero (show f + i < 256 by omega) hfr
            rw [hz0] at hg
            repeat' (first | (apply aw_seq_k; intro K hK) | (refine aw_run hc (by first | exact aw_nod | (intro _; rw [ordB_w hw]; kernel_rfl) | (intro _; kernel_rfl)) ?_; simp [List.zipIdx, hiwI, hto, hst, hg, hsh, hwp, hw1, bits64, -getM, getM_hit, getM_miss, getM_none]; (repeat (simp (disch := first | omega | assumption | fail) only [if_pos, if_neg, wrap64, wrapU64]; try simp [List.zipIdx, hiwI, hto, hst, hg, hsh, hwp, hw1, bits64, -getM, getM_hit, getM_miss, getM_none])); try (repeat' (refine guardQ_split (fun h => ?_) (fun h => ?_) <;> simp at h <;> (simp [List.zipIdx, hiwI, hto, hst, hg, hsh, hwp, hw1, bits64, -getM, getM_hit, getM_miss, getM_none]; (repeat (simp (disch := first | omega | assumption | fail) only [if_pos, if_neg, wrap64, wrapU64]; try simp [List.zipIdx, hiwI, hto, hst, hg, hsh, hwp, hw1, bits64, -getM, getM_hit, getM_miss, getM_none])))))) | (refine aw_cond (b := _) (by exact rfl) (fun h => ?_) (fun h => ?_) <;> (try simp at h)) | (refine aw_block ?_) | (refine aw_skip ?_; simp only [thenQ, blockQ, if_true]) | (refine aw_exit ?_; simp [thenQ, blockQ]) | (refine aw_ret ?_; simp only [thenQ, blockQ]) | (refine aw_round ?_) | (refine hK _ ?_; clear hK) | (clear hK; refine hK _ ?_; clear hK) | (clear hK; clear hK; refine hK _ ?_; clear hK) | (clear hK; clear hK; clear hK; refine hK _ ?_; clear hK))
            refine ⟨i + 1, ?_, ⟨by omega, fun y h1 h2 => ?_⟩, by omega⟩
            · exact le_of2 (by simp) (by simp [AVle, AV.under, AV.underL] <;> omega) (by simp [AOle, AO.under, AV.underL, AV.under] <;> omega)
            · by_cases e : y = ((f + i : Nat) : Int)
              · rw [e]; exact hfr
              · exact hnf y h1 (by omega)
        · obtain rfl : i = w := by omega
          have hal := freeR_ok hc0 ho4 hin (by rw [hw1]; exact hnf)
          rw [hw1] at hal
          obtain ⟨y, hy⟩ : ∃ y, y = canon z fun y => free z y ∨ ((f : Int) ≤ y ∧ y < (f : Int) + (i : Nat)) := ⟨_, rfl⟩
          have h49z := F49n_at hr (upS_len (cnts (coverL z 5)) (fun x => (f : Int) ≤ x ∧ x < (f : Int) + (i : Nat)) 1)
          rw [canon_up1 hr hv (fun x hx => by omega), ← hy] at h49z
          rw [← hy] at hal
          have htk : List.take 256 (irows (upS (cnts (coverL z 5)) (fun x => (f : Int) ≤ x ∧ x < (f : Int) + (i : Nat)) 1)) = irows (upS (cnts (coverL z 5)) (fun x => (f : Int) ≤ x ∧ x < (f : Int) + (i : Nat)) 1) := List.take_of_length_le (by simp)
          repeat' (first | (apply aw_seq_k; intro K hK) | (refine aw_run hc (by first | exact aw_nod | (intro _; rw [ordB_w hw]; kernel_rfl) | (intro _; kernel_rfl)) ?_; simp [List.zipIdx, hto, hst, hsh, hwp, hw1, bits64, h49, h49z, htk, Zn.ocells, -getM, getM_hit, getM_miss, getM_none]; (repeat (simp (disch := first | omega | assumption | fail) only [if_pos, if_neg, wrap64, wrapU64]; try simp [List.zipIdx, hto, hst, hsh, hwp, hw1, bits64, h49, h49z, htk, Zn.ocells, -getM, getM_hit, getM_miss, getM_none])); try (repeat' (refine guardQ_split (fun h => ?_) (fun h => ?_) <;> simp at h <;> (simp [List.zipIdx, hto, hst, hsh, hwp, hw1, bits64, h49, h49z, htk, Zn.ocells, -getM, getM_hit, getM_miss, getM_none]; (repeat (simp (disch := first | omega | assumption | fail) only [if_pos, if_neg, wrap64, wrapU64]; try simp [List.zipIdx, hto, hst, hsh, hwp, hw1, bits64, h49, h49z, htk, Zn.ocells, -getM, getM_hit, getM_miss, getM_none])))))) | (refine aw_cond (b := _) (by exact rfl) (fun h => ?_) (fun h => ?_) <;> (try simp at h)) | (refine aw_block ?_) | (refine aw_skip ?_; simp only [thenQ, blockQ, if_true]) | (refine aw_exit ?_; simp [thenQ, blockQ]) | (refine aw_ret ?_; simp only [thenQ, blockQ]) | (refine aw_round ?_) | (refine hK _ ?_; clear hK) | (clear hK; refine hK _ ?_; clear hK) | (clear hK; clear hK; refine hK _ ?_; clear hK) | (clear hK; clear hK; clear hK; refine hK _ ?_; clear hK))
          refine ⟨by simp, ?_⟩
          simp [leaves_iff, Try.f24, hal, Zn.ocells, take_irows]
          try (first | omega | (refine decide_eq_decide.2 ?_; omega) | (refine decide_eq_false ?_; omega) | (refine decide_eq_true ?_; omega))
    · have h47z : ∀ M n, X.call 47 [.agg z.cells, I g, I o] M n = some (B false, []) := fun M n => by rw [h47 z g o M n hr, decide_eq_false ho]
      have hal := freeR_range hc0 ho
      repeat' (first | (apply aw_seq_k; intro K hK) | (refine aw_run hc (by first | exact aw_nod | (intro _; rw [ordB_w hw]; kernel_rfl) | (intro _; kernel_rfl)) ?_; simp [List.zipIdx, h17z, hc0, h47z, -getM, getM_hit, getM_miss, getM_none]; (repeat (simp (disch := first | omega | assumption | fail) only [if_pos, if_neg, wrap64]; try simp [List.zipIdx, h17z, hc0, h47z, -getM, getM_hit, getM_miss, getM_none])); try (repeat' (refine guardQ_split (fun h => ?_) (fun h => ?_) <;> simp at h <;> (simp [List.zipIdx, h17z, hc0, h47z, -getM, getM_hit, getM_miss, getM_none]; (repeat (simp (disch := first | omega | assumption | fail) only [if_pos, if_neg, wrap64]; try simp [List.zipIdx, h17z, hc0, h47z, -getM, getM_hit, getM_miss, getM_none])))))) | (refine aw_cond (b := _) (by exact rfl) (fun h => ?_) (fun h => ?_) <;> (try simp at h)) | (refine aw_block ?_) | (refine aw_skip ?_; simp only [thenQ, blockQ, if_true]) | (refine aw_exit ?_; simp [thenQ, blockQ]) | (refine aw_ret ?_; simp only [thenQ, blockQ]) | (refine aw_round ?_) | (refine hK _ ?_; clear hK) | (clear hK; refine hK _ ?_; clear hK) | (clear hK; clear hK; refine hK _ ?_; clear hK) | (clear hK; clear hK; clear hK; refine hK _ ?_; clear hK))
      refine ⟨by simp, ?_⟩
      simp [leaves_iff, Try.f24, hal, zeroZ, Zn.ocells, irows]
      try (first | omega | (refine decide_eq_decide.2 ?_; omega) | (refine decide_eq_false ?_; omega) | (refine decide_eq_true ?_; omega))
  · have hal := freeR_bad (f := g) (o := o) hc0
    repeat' (first | (apply aw_seq_k; intro K hK) | (refine aw_run hc (by first | exact aw_nod | (intro _; rw [ordB_w hw]; kernel_rfl) | (intro _; kernel_rfl)) ?_; simp [List.zipIdx, h17z, hc0, -getM, getM_hit, getM_miss, getM_none]; (repeat (simp (disch := first | omega | assumption | fail) only [if_pos, if_neg, wrap64]; try simp [List.zipIdx, h17z, hc0, -getM, getM_hit, getM_miss, getM_none])); try (repeat' (refine guardQ_split (fun h => ?_) (fun h => ?_) <;> simp at h <;> (simp [List.zipIdx, h17z, hc0, -getM, getM_hit, getM_miss, getM_none]; (repeat (simp (disch := first | omega | assumption | fail) only [if_pos, if_neg, wrap64]; try simp [List.zipIdx, h17z, hc0, -getM, getM_hit, getM_miss, getM_none])))))) | (refine aw_cond (b := _) (by exact rfl) (fun h => ?_) (fun h => ?_) <;> (try simp at h)) | (refine aw_block ?_) | (refine aw_skip ?_; simp only [thenQ, blockQ, if_true]) | (refine aw_exit ?_; simp [thenQ, blockQ]) | (refine aw_ret ?_; simp only [thenQ, blockQ]) | (refine aw_round ?_) | (refine hK _ ?_; clear hK) | (clear hK; refine hK _ ?_; clear hK) | (clear hK; clear hK; refine hK _ ?_; clear hK) | (clear hK; clear hK; clear hK; refine hK _ ?_; clear hK))
    refine ⟨by simp, ?_⟩
    simp [leaves_iff, Try.f24, hal, zeroZ, Zn.ocells, irows]
    try (first | omega | (refine decide_eq_decide.2 ?_; omega) | (refine decide_eq_false ?_; omega) | (refine decide_eq_true ?_; omega))

theorem s30 (X : AX) (hX : XOK Try.prog X) (hw : X.W wT) (h17 : ∀ z M n, small z → X.call 17 [.agg z.cells] M n = some (I (checkZ z), []))
    (h46 : ∀ z M n, rangesZ z → formErr z = 0 → small z → X.call 46 [.agg z.cells] M n = some (.sl n 1 1 0 256, [(n, .vec 1 1 false (irows (cnts (coverL z 5))))]))
    (h47 : ∀ z f o M n, rangesZ z → X.call 47 [.agg z.cells, I f, I o] M n = some (B (0 ≤ o ∧ o ≤ 4 ∧ insideZ z f o.toNat), [])) (h49 : X.call 49 = callP F49n) :
    PSound Try.prog 30 (specF (ι := {x : Zn × Int // small x.1}) (fun x => [.agg x.1.1.cells, I x.1.2]) fun x => retOf [.agg (takeR x.1.1 x.1.2).1.ocells, I (takeR x.1.1 x.1.2).2]) := by
  refine psound_spec hX mixed Try.func30 rfl fun ⟨⟨z, g⟩, hz⟩ w0 G => ⟨by show 2 ≤ 33; decide, rfl, ?_⟩
  show AW ⟨Try.prog, X, 33, w0, .pure G⟩ _ _ _
  have hc : Cx.OK ⟨Try.prog, X, 33, w0, .pure G⟩ := ⟨hX, mixed⟩
  simp only at hz ⊢
  have h17z := fun M n => h17 z M n hz
  rcases Decidable.em (checkZ z = 0) with hc0 | hc0
  · obtain ⟨hr, hv⟩ := check_parts hc0
    have h46z := fun M n => h46 z M n hr (check_form hc0) hz
    rcases Decidable.em (insideZ z g 0) with hin | hin
    · have h47z : ∀ M n, X.call 47 [.agg z.cells, I g, I 0] M n = some (B true, []) := fun M n => by rw [h47 z g 0 M n hr, decide_eq_true ⟨by decide, by decide, hin⟩]
      have hb := inside_bounds hr hin
      obtain ⟨f, rfl⟩ := Int.eq_ofNat_of_zero_le hb.1
      have hf : f < 256 := by have := hb.2; simp at this; omega
      have hg := irows_gi (l := cnts (coverL z 5)) (n := f) (by rw [cnts_len]; exact hf)
      have hst := set_up (v := 0) (cnts_len (coverL z 5)) (y := f)
      by_cases hfr : free z (f : Int)
      · have hpos := (cnts_pos hf).2 hfr
        have hne : ¬ gi (cnts (coverL z 5)) f = 0 := by omega
        have hal := takeR_ok hc0 hin hfr
        obtain ⟨y, hy⟩ : ∃ y, y = canon z fun y => free z y ∧ y ≠ (f : Int) := ⟨_, rfl⟩
        have h49z := F49n_at hr (upS_len (cnts (coverL z 5)) (fun x => x = (f : Int)) 0)
        rw [canon_up0 hr hv, ← hy] at h49z
        rw [← hy] at hal
        have htk : List.take 256 (irows (upS (cnts (coverL z 5)) (fun x => x = (f : Int)) 0)) = irows (upS (cnts (coverL z 5)) (fun x => x = (f : Int)) 0) := List.take_of_length_le (by simp)
        repeat' (first | (apply aw_seq_k; intro K hK) | (refine aw_run hc (by first | exact aw_nod | (intro _; rw [ordB_w hw]; kernel_rfl) | (intro _; kernel_rfl)) ?_; simp [List.zipIdx, h17z, hc0, h47z, h46z, hg, hst, hne, h49, h49z, htk, Zn.ocells, -getM, getM_hit, getM_miss, getM_none]; (repeat (simp (disch := first | omega | assumption | fail) only [if_pos, if_neg, wrap64]; try simp [List.zipIdx, h17z, hc0, h47z, h46z, hg, hst, hne, h49, h49z, htk, Zn.ocells, -getM, getM_hit, getM_miss, getM_none])); try (repeat' (refine guardQ_split (fun h => ?_) (fun h => ?_) <;> simp at h <;> (simp [List.zipIdx, h17z, hc0, h47z, h46z, hg, hst, hne, h49, h49z, htk, Zn.ocells, -getM, getM_hit, getM_miss, getM_none]; (repeat (simp (disch := first | omega | assumption | fail) only [if_pos, if_neg, wrap64]; try simp [List.zipIdx, h17z, hc0, h47z, h46z, hg, hst, hne, h49, h49z, htk, Zn.ocells, -getM, getM_hit, getM_miss, getM_none])))))) | (refine aw_cond (b := _) (by exact rfl) (fun h => ?_) (fun h => ?_) <;> (try simp at h)) | (refine aw_block ?_) | (refine aw_skip ?_; simp only [thenQ, blockQ, if_true]) | (refine aw_exit ?_; simp [thenQ, blockQ]) | (refine aw_ret ?_; simp only [thenQ, blockQ]) | (refine aw_round ?_) | (refine hK _ ?_; clear hK) | (clear hK; refine hK _ ?_; clear hK) | (clear hK; clear hK; refine hK _ ?_; clear hK) | (clear hK; clear hK; clear hK; refine hK _ ?_; clear hK))
        refine ⟨by simp, ?_⟩
        simp [leaves_iff, Try.f30, hal, Zn.ocells, take_irows]
        try (first | omega | (refine decide_eq_decide.2 ?_; omega) | (refine decide_eq_false ?_; omega) | (refine decide_eq_true ?_; omega))
      · have hz0 := cnts_zero hf hfr
        rw [hz0] at hg
        have hal := takeR_none hc0 hin hfr
        repeat' (first | (apply aw_seq_k; intro K hK) | (refine aw_run hc (by first | exact aw_nod | (intro _; rw [ordB_w hw]; kernel_rfl) | (intro _; kernel_rfl)) ?_; simp [List.zipIdx, h17z, hc0, h47z, h46z, hg, hst, -getM, getM_hit, getM_miss, getM_none]; (repeat (simp (disch := first | omega | assumption | fail) only [if_pos, if_neg, wrap64]; try simp [List.zipIdx, h17z, hc0, h47z, h46z, hg, hst, -getM, getM_hit, getM_miss, getM_none])); try (repeat' (refine guardQ_split (fun h => ?_) (fun h => ?_) <;> simp at h <;> (simp [List.zipIdx, h17z, hc0, h47z, h46z, hg, hst, -getM, getM_hit, getM_miss, getM_none]; (repeat (simp (disch := first | omega | assumption | fail) only [if_pos, if_neg, wrap64]; try simp [List.zipIdx, h17z, hc0, h47z, h46z, hg, hst, -getM, getM_hit, getM_miss, getM_none])))))) | (refine aw_cond (b := _) (by exact rfl) (fun h => ?_) (fun h => ?_) <;> (try simp at h)) | (refine aw_block ?_) | (refine aw_skip ?_; simp only [thenQ, blockQ, if_true]) | (refine aw_exit ?_; simp [thenQ, blockQ]) | (refine aw_ret ?_; simp only [thenQ, blockQ]) | (refine aw_round ?_) | (refine hK _ ?_; clear hK) | (clear hK; refine hK _ ?_; clear hK) | (clear hK; clear hK; refine hK _ ?_; clear hK) | (clear hK; clear hK; clear hK; refine hK _ ?_; clear hK))
        refine ⟨by simp, ?_⟩
        simp [leaves_iff, Try.f30, hal, zeroZ, Zn.ocells, irows]
        try (first | omega | (refine decide_eq_decide.2 ?_; omega) | (refine decide_eq_false ?_; omega) | (refine decide_eq_true ?_; omega))
    · have h47z : ∀ M n, X.call 47 [.agg z.cells, I g, I 0] M n = some (B false, []) := fun M n => by rw [h47 z g 0 M n hr, decide_eq_false fun h => hin h.2.2]
      have hal := takeR_range hc0 hin
      repeat' (first | (apply aw_seq_k; intro K hK) | (refine aw_run hc (by first | exact aw_nod | (intro _; rw [ordB_w hw]; kernel_rfl) | (intro _; kernel_rfl)) ?_; simp [List.zipIdx, h17z, hc0, h47z, -getM, getM_hit, getM_miss, getM_none]; (repeat (simp (disch := first | omega | assumption | fail) only [if_pos, if_neg, wrap64]; try simp [List.zipIdx, h17z, hc0, h47z, -getM, getM_hit, getM_miss, getM_none])); try (repeat' (refine guardQ_split (fun h => ?_) (fun h => ?_) <;> simp at h <;> (simp [List.zipIdx, h17z, hc0, h47z, -getM, getM_hit, getM_miss, getM_none]; (repeat (simp (disch := first | omega | assumption | fail) only [if_pos, if_neg, wrap64]; try simp [List.zipIdx, h17z, hc0, h47z, -getM, getM_hit, getM_miss, getM_none])))))) | (refine aw_cond (b := _) (by exact rfl) (fun h => ?_) (fun h => ?_) <;> (try simp at h)) | (refine aw_block ?_) | (refine aw_skip ?_; simp only [thenQ, blockQ, if_true]) | (refine aw_exit ?_; simp [thenQ, blockQ]) | (refine aw_ret ?_; simp only [thenQ, blockQ]) | (refine aw_round ?_) | (refine hK _ ?_; clear hK) | (clear hK; refine hK _ ?_; clear hK) | (clear hK; clear hK; refine hK _ ?_; clear hK) | (clear hK; clear hK; clear hK; refine hK _ ?_; clear hK))
      refine ⟨by simp, ?_⟩
      simp [leaves_iff, Try.f30, hal, zeroZ, Zn.ocells, irows]
      try (first | omega | (refine decide_eq_decide.2 ?_; omega) | (refine decide_eq_false ?_; omega) | (refine decide_eq_true ?_; omega))
  · have hal := takeR_bad (f := g) hc0
    repeat' (first | (apply aw_seq_k; intro K hK) | (refine aw_run hc (by first | exact aw_nod | (intro _; rw [ordB_w hw]; kernel_rfl) | (intro _; kernel_rfl)) ?_; simp [List.zipIdx, h17z, hc0, -getM, getM_hit, getM_miss, getM_none]; (repeat (simp (disch := first | omega | assumption | fail) only [if_pos, if_neg, wrap64]; try simp [List.zipIdx, h17z, hc0, -getM, getM_hit, getM_miss, getM_none])); try (repeat' (refine guardQ_split (fun h => ?_) (fun h => ?_) <;> simp at h <;> (simp [List.zipIdx, h17z, hc0, -getM, getM_hit, getM_miss, getM_none]; (repeat (simp (disch := first | omega | assumption | fail) only [if_pos, if_neg, wrap64]; try simp [List.zipIdx, h17z, hc0, -getM, getM_hit, getM_miss, getM_none])))))) | (refine aw_cond (b := _) (by exact rfl) (fun h => ?_) (fun h => ?_) <;> (try simp at h)) | (refine aw_block ?_) | (refine aw_skip ?_; simp only [thenQ, blockQ, if_true]) | (refine aw_exit ?_; simp [thenQ, blockQ]) | (refine aw_ret ?_; simp only [thenQ, blockQ]) | (refine aw_round ?_) | (refine hK _ ?_; clear hK) | (clear hK; refine hK _ ?_; clear hK) | (clear hK; clear hK; refine hK _ ?_; clear hK) | (clear hK; clear hK; clear hK; refine hK _ ?_; clear hK))
    refine ⟨by simp, ?_⟩
    simp [leaves_iff, Try.f30, hal, zeroZ, Zn.ocells, irows]
    try (first | omega | (refine decide_eq_decide.2 ?_; omega) | (refine decide_eq_false ?_; omega) | (refine decide_eq_true ?_; omega))

open Classical in
theorem s31 (X : AX) (hX : XOK Try.prog X) (hw : X.W wT) (h17 : ∀ z M n, small z → X.call 17 [.agg z.cells] M n = some (I (checkZ z), []))
    (h46 : ∀ z M n, rangesZ z → formErr z = 0 → small z → X.call 46 [.agg z.cells] M n = some (.sl n 1 1 0 256, [(n, .vec 1 1 false (irows (cnts (coverL z 5))))]))
    (h47 : ∀ z f o M n, rangesZ z → X.call 47 [.agg z.cells, I f, I o] M n = some (B (0 ≤ o ∧ o ≤ 4 ∧ insideZ z f o.toNat), [])) :
    PSound Try.prog 31 (specF (ι := {x : Zn × Int // small x.1}) (fun x => [.agg x.1.1.cells, I x.1.2]) fun x => retOf [B (decide (checkZ x.1.1 = 0 ∧ free x.1.1 x.1.2))]) := by
  refine psound_spec hX mixed Try.func31 rfl fun ⟨⟨z, g⟩, hz⟩ w0 G => ⟨by show 2 ≤ 21; decide, rfl, ?_⟩
  show AW ⟨Try.prog, X, 21, w0, .pure G⟩ _ _ _
  have hc : Cx.OK ⟨Try.prog, X, 21, w0, .pure G⟩ := ⟨hX, mixed⟩
  simp only at hz ⊢
  have h17z := fun M n => h17 z M n hz
  rcases Decidable.em (checkZ z = 0) with hc0 | hc0
  · obtain ⟨hr, hv⟩ := check_parts hc0
    have h46z := fun M n => h46 z M n hr (check_form hc0) hz
    rcases Decidable.em (insideZ z g 0) with hin | hin
    · have h47z : ∀ M n, X.call 47 [.agg z.cells, I g, I 0] M n = some (B true, []) := fun M n => by rw [h47 z g 0 M n hr, decide_eq_true ⟨by decide, by decide, hin⟩]
      have hb := inside_bounds hr hin
      obtain ⟨f, rfl⟩ := Int.eq_ofNat_of_zero_le hb.1
      have hf : f < 256 := by have := hb.2; simp at this; omega
      have hg := irows_gi (l := cnts (coverL z 5)) (n := f) (by rw [cnts_len]; exact hf)
      by_cases hfr : free z (f : Int)
      · have hpos := (cnts_pos hf).2 hfr
        repeat' (first | (apply aw_seq_k; intro K hK) | (refine aw_run hc (by first | exact aw_nod | (intro _; rw [ordB_w hw]; kernel_rfl) | (intro _; kernel_rfl)) ?_; simp [List.zipIdx, h17z, hc0, h47z, h46z, hg, hpos, -getM, getM_hit, getM_miss, getM_none]; (repeat (simp (disch := first | omega | assumption | fail) only [if_pos, if_neg, wrap64]; try simp [List.zipIdx, h17z, hc0, h47z, h46z, hg, hpos, -getM, getM_hit, getM_miss, getM_none])); try (repeat' (refine guardQ_split (fun h => ?_) (fun h => ?_) <;> simp at h <;> (simp [List.zipIdx, h17z, hc0, h47z, h46z, hg, hpos, -getM, getM_hit, getM_miss, getM_none]; (repeat (simp (disch := first | omega | assumption | fail) only [if_pos, if_neg, wrap64]; try simp [List.zipIdx, h17z, hc0, h47z, h46z, hg, hpos, -getM, getM_hit, getM_miss, getM_none])))))) | (refine aw_cond (b := _) (by exact rfl) (fun h => ?_) (fun h => ?_) <;> (try simp at h)) | (refine aw_block ?_) | (refine aw_skip ?_; simp only [thenQ, blockQ, if_true]) | (refine aw_exit ?_; simp [thenQ, blockQ]) | (refine aw_ret ?_; simp only [thenQ, blockQ]) | (refine aw_round ?_) | (refine hK _ ?_; clear hK) | (clear hK; refine hK _ ?_; clear hK) | (clear hK; clear hK; refine hK _ ?_; clear hK) | (clear hK; clear hK; clear hK; refine hK _ ?_; clear hK))
        refine ⟨by simp, ?_⟩
        simp [leaves_iff, Try.f31, hfr, hc0]
        try (first | omega | (refine decide_eq_decide.2 ?_; omega) | (refine decide_eq_false ?_; omega) | (refine decide_eq_true ?_; omega))
      · have hz0 := cnts_zero hf hfr
        rw [hz0] at hg
        repeat' (first | (apply aw_seq_k; intro K hK) | (refine aw_run hc (by first | exact aw_nod | (intro _; rw [ordB_w hw]; kernel_rfl) | (intro _; kernel_rfl)) ?_; simp [List.zipIdx, h17z, hc0, h47z, h46z, hg, -getM, getM_hit, getM_miss, getM_none]; (repeat (simp (disch := first | omega | assumption | fail) only [if_pos, if_neg, wrap64]; try simp [List.zipIdx, h17z, hc0, h47z, h46z, hg, -getM, getM_hit, getM_miss, getM_none])); try (repeat' (refine guardQ_split (fun h => ?_) (fun h => ?_) <;> simp at h <;> (simp [List.zipIdx, h17z, hc0, h47z, h46z, hg, -getM, getM_hit, getM_miss, getM_none]; (repeat (simp (disch := first | omega | assumption | fail) only [if_pos, if_neg, wrap64]; try simp [List.zipIdx, h17z, hc0, h47z, h46z, hg, -getM, getM_hit, getM_miss, getM_none])))))) | (refine aw_cond (b := _) (by exact rfl) (fun h => ?_) (fun h => ?_) <;> (try simp at h)) | (refine aw_block ?_) | (refine aw_skip ?_; simp only [thenQ, blockQ, if_true]) | (refine aw_exit ?_; simp [thenQ, blockQ]) | (refine aw_ret ?_; simp only [thenQ, blockQ]) | (refine aw_round ?_) | (refine hK _ ?_; clear hK) | (clear hK; refine hK _ ?_; clear hK) | (clear hK; clear hK; refine hK _ ?_; clear hK) | (clear hK; clear hK; clear hK; refine hK _ ?_; clear hK))
        refine ⟨by simp, ?_⟩
        simp [leaves_iff, Try.f31, hfr, hc0]
        try (first | omega | (refine decide_eq_decide.2 ?_; omega) | (refine decide_eq_false ?_; omega) | (refine decide_eq_true ?_; omega))
    · have h47z : ∀ M n, X.call 47 [.agg z.cells, I g, I 0] M n = some (B false, []) := fun M n => by rw [h47 z g 0 M n hr, decide_eq_false fun h => hin h.2.2]
      have hfr : ¬ free z g := fun h => hin ((inside0 hr).2 (hv.inz g h))
      repeat' (first | (apply aw_seq_k; intro K hK) | (refine aw_run hc (by first | exact aw_nod | (intro _; rw [ordB_w hw]; kernel_rfl) | (intro _; kernel_rfl)) ?_; simp [List.zipIdx, h17z, hc0, h47z, -getM, getM_hit, getM_miss, getM_none]; (repeat (simp (disch := first | omega | assumption | fail) only [if_pos, if_neg, wrap64]; try simp [List.zipIdx, h17z, hc0, h47z, -getM, getM_hit, getM_miss, getM_none])); try (repeat' (refine guardQ_split (fun h => ?_) (fun h => ?_) <;> simp at h <;> (simp [List.zipIdx, h17z, hc0, h47z, -getM, getM_hit, getM_miss, getM_none]; (repeat (simp (disch := first | omega | assumption | fail) only [if_pos, if_neg, wrap64]; try simp [List.zipIdx, h17z, hc0, h47z, -getM, getM_hit, getM_miss, getM_none])))))) | (refine aw_cond (b := _) (by exact rfl) (fun h => ?_) (fun h => ?_) <;> (try simp at h)) | (refine aw_block ?_) | (refine aw_skip ?_; simp only [thenQ, blockQ, if_true]) | (refine aw_exit ?_; simp [thenQ, blockQ]) | (refine aw_ret ?_; simp only [thenQ, blockQ]) | (refine aw_round ?_) | (refine hK _ ?_; clear hK) | (clear hK; refine hK _ ?_; clear hK) | (clear hK; clear hK; refine hK _ ?_; clear hK) | (clear hK; clear hK; clear hK; refine hK _ ?_; clear hK))
      refine ⟨by simp, ?_⟩
      simp [leaves_iff, Try.f31, hfr]
      try (first | omega | (refine decide_eq_decide.2 ?_; omega) | (refine decide_eq_false ?_; omega) | (refine decide_eq_true ?_; omega))
  · repeat' (first | (apply aw_seq_k; intro K hK) | (refine aw_run hc (by first | exact aw_nod | (intro _; rw [ordB_w hw]; kernel_rfl) | (intro _; kernel_rfl)) ?_; simp [List.zipIdx, h17z, hc0, -getM, getM_hit, getM_miss, getM_none]; (repeat (simp (disch := first | omega | assumption | fail) only [if_pos, if_neg, wrap64]; try simp [List.zipIdx, h17z, hc0, -getM, getM_hit, getM_miss, getM_none])); try (repeat' (refine guardQ_split (fun h => ?_) (fun h => ?_) <;> simp at h <;> (simp [List.zipIdx, h17z, hc0, -getM, getM_hit, getM_miss, getM_none]; (repeat (simp (disch := first | omega | assumption | fail) only [if_pos, if_neg, wrap64]; try simp [List.zipIdx, h17z, hc0, -getM, getM_hit, getM_miss, getM_none])))))) | (refine aw_cond (b := _) (by exact rfl) (fun h => ?_) (fun h => ?_) <;> (try simp at h)) | (refine aw_block ?_) | (refine aw_skip ?_; simp only [thenQ, blockQ, if_true]) | (refine aw_exit ?_; simp [thenQ, blockQ]) | (refine aw_ret ?_; simp only [thenQ, blockQ]) | (refine aw_round ?_) | (refine hK _ ?_; clear hK) | (clear hK; refine hK _ ?_; clear hK) | (clear hK; clear hK; refine hK _ ?_; clear hK) | (clear hK; clear hK; clear hK; refine hK _ ?_; clear hK))
    refine ⟨by simp, ?_⟩
    simp [leaves_iff, Try.f31, hc0]
    try (first | omega | (refine decide_eq_decide.2 ?_; omega) | (refine decide_eq_false ?_; omega) | (refine decide_eq_true ?_; omega))
end Go.AM
