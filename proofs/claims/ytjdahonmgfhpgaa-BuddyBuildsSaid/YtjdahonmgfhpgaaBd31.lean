/- ref.Build, buddy.Build. -/
import Derived.Test.YtjdahonmgfhpgaaBdT
import Derived.Test.YtjdahonmgfhpgaaBd22
import Derived.Test.YtjdahonmgfhpgaaBd25
set_option linter.all false

namespace Go.AM
open Go Go.Proofs

theorem F44n_at (z : Zn) : F44n [.agg z.cells] = some (B (rangesZ z)) := F41_at z
theorem F41n_at (z : Zn) : F41n [.agg z.cells] = some (B (rangesZ z)) := F41_at z

theorem s28 (X : AX) (hX : XOK Try.prog X) (hw : X.W wT) (h44 : X.call 44 = callP F44n) (h49 : X.call 49 = callP F49n) :
    PSound Try.prog 28 (specF (ι := {x : Zn × List Int // x.2.length ≤ 300}) (fun x => [.agg x.1.1.cells, .rd 1 (irows x.1.2)]) fun x => retOf [.agg (buildR x.1.1 x.1.2).1.ocells, I (buildR x.1.1 x.1.2).2]) := by
  refine psound_spec hX mixed Try.func28 rfl fun ⟨⟨z, l⟩, hl⟩ w0 G => ⟨by show 2 ≤ 63; decide, rfl, ?_⟩
  show AW ⟨Try.prog, X, 63, w0, .pure G⟩ _ _ _
  have hc : Cx.OK ⟨Try.prog, X, 63, w0, .pure G⟩ := ⟨hX, mixed⟩
  simp only at hl ⊢
  have h44z := F44n_at z
  have hrep : List.replicate 256 [AV.v (.int .i64 0)] = irows zs256 := repI 256
  rcases Decidable.em (rangesZ z) with hr | hr
  · rw [decide_eq_true hr] at h44z
    have hrr := hr
    unfold rangesZ at hrr
    repeat' (first
      | (apply aw_seq_k; intro K hK)
      | (refine aw_run hc (by first | exact aw_nod | (intro _; rw [ordB_w hw]; kernel_rfl) | (intro _; kernel_rfl)) ?_; simp [List.zipIdx, h44, h44z, hrep, -List.reduceReplicate, -getM, getM_hit, getM_miss, getM_none]; (repeat (simp (disch := first | omega | assumption | fail) only [if_pos, if_neg, wrap64]; try simp [List.zipIdx, h44, h44z, hrep, -List.reduceReplicate, -getM, getM_hit, getM_miss, getM_none])); try (repeat' (refine guardQ_split (fun h => ?_) (fun h => ?_) <;> simp at h <;> (simp [List.zipIdx, h44, h44z, hrep, -List.reduceReplicate, -getM, getM_hit, getM_miss, getM_none]; (repeat (simp (disch := first | omega | assumption | fail) only [if_pos, if_neg, wrap64]; try simp [List.zipIdx, h44, h44z, hrep, -List.reduceReplicate, -getM, getM_hit, getM_miss, getM_none]))))))
      | (refine aw_cond (b := _) (by exact rfl) (fun h => ?_) (fun h => ?_) <;> (try simp at h))
      | (refine aw_block ?_)
      | (refine aw_skip ?_; simp only [thenQ, blockQ, if_true])
      | (refine aw_exit ?_; simp [thenQ, blockQ])
      | (refine aw_ret ?_; simp only [thenQ, blockQ])
      | (refine aw_round ?_)
      | (refine hK _ ?_; clear hK)
      | (clear hK; refine hK _ ?_; clear hK)
      | (clear hK; clear hK; refine hK _ ?_; clear hK)
      | (clear hK; clear hK; clear hK; refine hK _ ?_; clear hK))
    refine aw_loopK (s0 := ?lps1) (m0 := ?lpm1) (ι := {i : Nat // i ≤ l.length ∧ ∀ j, j < i → badB z l j = 0}) [1, 2, 4, 6] (fun i => [(7, I i.1)]) (fun i => [(96, .vec 1 1 false (irows (upS zs256 (fun x => x ∈ l.take i.1) 1)))]) (fun i => l.length - i.1) ⟨0, by omega, by intro j hj; omega⟩ ?lhs1 ?lhm1 ?_ ?_
    case lhs1 => first | (simp [keepS]; done) | (simp [keepS]; rfl)
    case lhm1 => first | rfl | (simp; done) | (simp; rfl)
    · rw [upS_none zs_len (fun x hx => by simp at hx)]
      exact le_of2 (by simp) (by simp [AVle, AV.under, AV.underL] <;> omega) (by simp [AOle, AO.under, AV.underL, AV.under] <;> omega)
    · rintro ⟨i, hi, hgood⟩
      simp only
      rcases Decidable.em (i < l.length) with hil | hil
      · have hilI : (i : Int) < (l.length : Int) := by omega
        have hgl := irows_gi (l := l) (n := i) hil
        rcases Decidable.em (insideZ z (gi l i) 0) with hin | hin
        · have hbd := (inside0 hr).1 hin
          obtain ⟨f, hf⟩ := Int.eq_ofNat_of_zero_le (show 0 ≤ gi l i by omega)
          have hst := upS_take (s := zs256) hil hf
          have hg := irows_gi (l := upS zs256 (fun x => x ∈ l.take i) 1) (n := f) (by simp; omega)
          have hb1 : ¬ ((f : Int) < z.start) := by omega
          have hb2 : ¬ (z.start + z.count ≤ (f : Int)) := by omega
          rw [hf] at hgl
          rcases Decidable.em (0 < i) with hi0 | hi0
          · have hi0I : (0 : Int) < (i : Int) := by omega
            have hto : ((i : Int) - 1).toNat = i - 1 := by omega
            have hgp := irows_gi (l := l) (n := i - 1) (by omega)
            rcases Decidable.em (gi l i ≤ gi l (i - 1)) with ho | ho
            · have hbad := badB_order hin hi0 ho
              have hal := buildR_bad hr (l := l) (i := i) ⟨hil, by rw [hbad]; decide, hgood⟩
              rw [hbad] at hal
              rw [hf] at ho
              repeat' (first
                | (apply aw_seq_k; intro K hK)
                | (refine aw_run hc (by first | exact aw_nod | (intro _; rw [ordB_w hw]; kernel_rfl) | (intro _; kernel_rfl)) ?_; simp [List.zipIdx, hilI, hgl, hb1, hb2, hi0I, hi0, hto, hgp, ho, -List.reduceReplicate, -getM, getM_hit, getM_miss, getM_none]; (repeat (simp (disch := first | omega | assumption | fail) only [if_pos, if_neg, wrap64]; try simp [List.zipIdx, hilI, hgl, hb1, hb2, hi0I, hi0, hto, hgp, ho, -List.reduceReplicate, -getM, getM_hit, getM_miss, getM_none])); try (repeat' (refine guardQ_split (fun h => ?_) (fun h => ?_) <;> simp at h <;> (simp [List.zipIdx, hilI, hgl, hb1, hb2, hi0I, hi0, hto, hgp, ho, -List.reduceReplicate, -getM, getM_hit, getM_miss, getM_none]; (repeat (simp (disch := first | omega | assumption | fail) only [if_pos, if_neg, wrap64]; try simp [List.zipIdx, hilI, hgl, hb1, hb2, hi0I, hi0, hto, hgp, ho, -List.reduceReplicate, -getM, getM_hit, getM_miss, getM_none]))))))
                | (refine aw_cond (b := _) (by exact rfl) (fun h => ?_) (fun h => ?_) <;> (try simp at h))
                | (refine aw_block ?_)
                | (refine aw_skip ?_; simp only [thenQ, blockQ, if_true])
                | (refine aw_exit ?_; simp [thenQ, blockQ])
                | (refine aw_ret ?_; simp only [thenQ, blockQ])
                | (refine aw_round ?_)
                | (refine hK _ ?_; clear hK)
                | (clear hK; refine hK _ ?_; clear hK)
                | (clear hK; clear hK; refine hK _ ?_; clear hK)
                | (clear hK; clear hK; clear hK; refine hK _ ?_; clear hK))
              refine ⟨by simp, ?_⟩
              simp [leaves_iff, Try.f28, hal, zeroZ, Zn.ocells, irows]
              try (first | omega | (refine decide_eq_decide.2 ?_; omega) | (refine decide_eq_false ?_; omega) | (refine decide_eq_true ?_; omega))
            · have hok := badB_ok hin fun _ => by omega
              rw [hf] at ho
              repeat' (first
                | (apply aw_seq_k; intro K hK)
                | (refine aw_run hc (by first | exact aw_nod | (intro _; rw [ordB_w hw]; kernel_rfl) | (intro _; kernel_rfl)) ?_; simp [List.zipIdx, hilI, hgl, hb1, hb2, hi0I, hi0, hto, hgp, ho, hst, hg, -List.reduceReplicate, -getM, getM_hit, getM_miss, getM_none]; (repeat (simp (disch := first | omega | assumption | fail) only [if_pos, if_neg, wrap64]; try simp [List.zipIdx, hilI, hgl, hb1, hb2, hi0I, hi0, hto, hgp, ho, hst, hg, -List.reduceReplicate, -getM, getM_hit, getM_miss, getM_none])); try (repeat' (refine guardQ_split (fun h => ?_) (fun h => ?_) <;> simp at h <;> (simp [List.zipIdx, hilI, hgl, hb1, hb2, hi0I, hi0, hto, hgp, ho, hst, hg, -List.reduceReplicate, -getM, getM_hit, getM_miss, getM_none]; (repeat (simp (disch := first | omega | assumption | fail) only [if_pos, if_neg, wrap64]; try simp [List.zipIdx, hilI, hgl, hb1, hb2, hi0I, hi0, hto, hgp, ho, hst, hg, -List.reduceReplicate, -getM, getM_hit, getM_miss, getM_none]))))))
                | (refine aw_cond (b := _) (by exact rfl) (fun h => ?_) (fun h => ?_) <;> (try simp at h))
                | (refine aw_block ?_)
                | (refine aw_skip ?_; simp only [thenQ, blockQ, if_true])
                | (refine aw_exit ?_; simp [thenQ, blockQ])
                | (refine aw_ret ?_; simp only [thenQ, blockQ])
                | (refine aw_round ?_)
                | (refine hK _ ?_; clear hK)
                | (clear hK; refine hK _ ?_; clear hK)
                | (clear hK; clear hK; refine hK _ ?_; clear hK)
                | (clear hK; clear hK; clear hK; refine hK _ ?_; clear hK))
              refine ⟨i + 1, ?_, ⟨by omega, fun j hj => ?_⟩, by omega⟩
              · exact le_of2 (by simp) (by simp [AVle, AV.under, AV.underL] <;> omega) (by simp [AOle, AO.under, AV.underL, AV.under] <;> omega)
              · by_cases e : j = i
                · rw [e]; exact hok
                · exact hgood j (by omega)
          · have hok := badB_ok hin fun h => absurd h hi0
            have hi0I : ¬ (0 : Int) < (i : Int) := by omega
            repeat' (first
              | (apply aw_seq_k; intro K hK)
              | (refine aw_run hc (by first | exact aw_nod | (intro _; rw [ordB_w hw]; kernel_rfl) | (intro _; kernel_rfl)) ?_; simp [List.zipIdx, hilI, hgl, hb1, hb2, hi0I, hi0, hst, hg, -List.reduceReplicate, -getM, getM_hit, getM_miss, getM_none]; (repeat (simp (disch := first | omega | assumption | fail) only [if_pos, if_neg, wrap64]; try simp [List.zipIdx, hilI, hgl, hb1, hb2, hi0I, hi0, hst, hg, -List.reduceReplicate, -getM, getM_hit, getM_miss, getM_none])); try (repeat' (refine guardQ_split (fun h => ?_) (fun h => ?_) <;> simp at h <;> (simp [List.zipIdx, hilI, hgl, hb1, hb2, hi0I, hi0, hst, hg, -List.reduceReplicate, -getM, getM_hit, getM_miss, getM_none]; (repeat (simp (disch := first | omega | assumption | fail) only [if_pos, if_neg, wrap64]; try simp [List.zipIdx, hilI, hgl, hb1, hb2, hi0I, hi0, hst, hg, -List.reduceReplicate, -getM, getM_hit, getM_miss, getM_none]))))))
              | (refine aw_cond (b := _) (by exact rfl) (fun h => ?_) (fun h => ?_) <;> (try simp at h))
              | (refine aw_block ?_)
              | (refine aw_skip ?_; simp only [thenQ, blockQ, if_true])
              | (refine aw_exit ?_; simp [thenQ, blockQ])
              | (refine aw_ret ?_; simp only [thenQ, blockQ])
              | (refine aw_round ?_)
              | (refine hK _ ?_; clear hK)
              | (clear hK; refine hK _ ?_; clear hK)
              | (clear hK; clear hK; refine hK _ ?_; clear hK)
              | (clear hK; clear hK; clear hK; refine hK _ ?_; clear hK))
            refine ⟨i + 1, ?_, ⟨by omega, fun j hj => ?_⟩, by omega⟩
            · exact le_of2 (by simp) (by simp [AVle, AV.under, AV.underL] <;> omega) (by simp [AOle, AO.under, AV.underL, AV.under] <;> omega)
            · by_cases e : j = i
              · rw [e]; exact hok
              · exact hgood j (by omega)
        · have hbad := badB_out hin
          have hal := buildR_bad hr (l := l) (i := i) ⟨hil, by rw [hbad]; decide, hgood⟩
          rw [hbad] at hal
          have hbd := mt (inside0 hr).2 hin
          rcases Decidable.em (gi l i < z.start) with hb1 | hb1
          · repeat' (first
              | (apply aw_seq_k; intro K hK)
              | (refine aw_run hc (by first | exact aw_nod | (intro _; rw [ordB_w hw]; kernel_rfl) | (intro _; kernel_rfl)) ?_; simp [List.zipIdx, hilI, hgl, hb1, -List.reduceReplicate, -getM, getM_hit, getM_miss, getM_none]; (repeat (simp (disch := first | omega | assumption | fail) only [if_pos, if_neg, wrap64]; try simp [List.zipIdx, hilI, hgl, hb1, -List.reduceReplicate, -getM, getM_hit, getM_miss, getM_none])); try (repeat' (refine guardQ_split (fun h => ?_) (fun h => ?_) <;> simp at h <;> (simp [List.zipIdx, hilI, hgl, hb1, -List.reduceReplicate, -getM, getM_hit, getM_miss, getM_none]; (repeat (simp (disch := first | omega | assumption | fail) only [if_pos, if_neg, wrap64]; try simp [List.zipIdx, hilI, hgl, hb1, -List.reduceReplicate, -getM, getM_hit, getM_miss, getM_none]))))))
              | (refine aw_cond (b := _) (by exact rfl) (fun h => ?_) (fun h => ?_) <;> (try simp at h))
              | (refine aw_block ?_)
              | (refine aw_skip ?_; simp only [thenQ, blockQ, if_true])
              | (refine aw_exit ?_; simp [thenQ, blockQ])
              | (refine aw_ret ?_; simp only [thenQ, blockQ])
              | (refine aw_round ?_)
              | (refine hK _ ?_; clear hK)
              | (clear hK; refine hK _ ?_; clear hK)
              | (clear hK; clear hK; refine hK _ ?_; clear hK)
              | (clear hK; clear hK; clear hK; refine hK _ ?_; clear hK))
            refine ⟨by simp, ?_⟩
            simp [leaves_iff, Try.f28, hal, zeroZ, Zn.ocells, irows]
            try (first | omega | (refine decide_eq_decide.2 ?_; omega) | (refine decide_eq_false ?_; omega) | (refine decide_eq_true ?_; omega))
          · have hb2 : z.start + z.count ≤ gi l i := by omega
            repeat' (first
              | (apply aw_seq_k; intro K hK)
              | (refine aw_run hc (by first | exact aw_nod | (intro _; rw [ordB_w hw]; kernel_rfl) | (intro _; kernel_rfl)) ?_; simp [List.zipIdx, hilI, hgl, hb1, hb2, -List.reduceReplicate, -getM, getM_hit, getM_miss, getM_none]; (repeat (simp (disch := first | omega | assumption | fail) only [if_pos, if_neg, wrap64]; try simp [List.zipIdx, hilI, hgl, hb1, hb2, -List.reduceReplicate, -getM, getM_hit, getM_miss, getM_none])); try (repeat' (refine guardQ_split (fun h => ?_) (fun h => ?_) <;> simp at h <;> (simp [List.zipIdx, hilI, hgl, hb1, hb2, -List.reduceReplicate, -getM, getM_hit, getM_miss, getM_none]; (repeat (simp (disch := first | omega | assumption | fail) only [if_pos, if_neg, wrap64]; try simp [List.zipIdx, hilI, hgl, hb1, hb2, -List.reduceReplicate, -getM, getM_hit, getM_miss, getM_none]))))))
              | (refine aw_cond (b := _) (by exact rfl) (fun h => ?_) (fun h => ?_) <;> (try simp at h))
              | (refine aw_block ?_)
              | (refine aw_skip ?_; simp only [thenQ, blockQ, if_true])
              | (refine aw_exit ?_; simp [thenQ, blockQ])
              | (refine aw_ret ?_; simp only [thenQ, blockQ])
              | (refine aw_round ?_)
              | (refine hK _ ?_; clear hK)
              | (clear hK; refine hK _ ?_; clear hK)
              | (clear hK; clear hK; refine hK _ ?_; clear hK)
              | (clear hK; clear hK; clear hK; refine hK _ ?_; clear hK))
            refine ⟨by simp, ?_⟩
            simp [leaves_iff, Try.f28, hal, zeroZ, Zn.ocells, irows]
            try (first | omega | (refine decide_eq_decide.2 ?_; omega) | (refine decide_eq_false ?_; omega) | (refine decide_eq_true ?_; omega))
      · obtain rfl : i = l.length := by omega
        have hal := buildR_ok hr hgood
        obtain ⟨y, hy⟩ : ∃ y, y = canon z (· ∈ l) := ⟨_, rfl⟩
        have h49z := F49n_at hr (upS_len zs256 (· ∈ l) 1)
        rw [canon_list hr hgood, ← hy] at h49z
        rw [← hy] at hal
        have htk : List.take 256 (irows (upS zs256 (· ∈ l) 1)) = irows (upS zs256 (· ∈ l) 1) := List.take_of_length_le (by simp)
        simp only [List.take_length]
        repeat' (first
          | (apply aw_seq_k; intro K hK)
          | (refine aw_run hc (by first | exact aw_nod | (intro _; rw [ordB_w hw]; kernel_rfl) | (intro _; kernel_rfl)) ?_; simp [List.zipIdx, h49, h49z, htk, Zn.ocells, -List.reduceReplicate, -getM, getM_hit, getM_miss, getM_none]; (repeat (simp (disch := first | omega | assumption | fail) only [if_pos, if_neg, wrap64]; try simp [List.zipIdx, h49, h49z, htk, Zn.ocells, -List.reduceReplicate, -getM, getM_hit, getM_miss, getM_none])); try (repeat' (refine guardQ_split (fun h => ?_) (fun h => ?_) <;> simp at h <;> (simp [List.zipIdx, h49, h49z, htk, Zn.ocells, -List.reduceReplicate, -getM, getM_hit, getM_miss, getM_none]; (repeat (simp (disch := first | omega | assumption | fail) only [if_pos, if_neg, wrap64]; try simp [List.zipIdx, h49, h49z, htk, Zn.ocells, -List.reduceReplicate, -getM, getM_hit, getM_miss, getM_none]))))))
          | (refine aw_cond (b := _) (by exact rfl) (fun h => ?_) (fun h => ?_) <;> (try simp at h))
          | (refine aw_block ?_)
          | (refine aw_skip ?_; simp only [thenQ, blockQ, if_true])
          | (refine aw_exit ?_; simp [thenQ, blockQ])
          | (refine aw_ret ?_; simp only [thenQ, blockQ])
          | (refine aw_round ?_)
          | (refine hK _ ?_; clear hK)
          | (clear hK; refine hK _ ?_; clear hK)
          | (clear hK; clear hK; refine hK _ ?_; clear hK)
          | (clear hK; clear hK; clear hK; refine hK _ ?_; clear hK))
        refine ⟨by simp, ?_⟩
        simp [leaves_iff, Try.f28, hal, Zn.ocells, take_irows]
        try (first | omega | (refine decide_eq_decide.2 ?_; omega) | (refine decide_eq_false ?_; omega) | (refine decide_eq_true ?_; omega))
  · rw [decide_eq_false hr] at h44z
    have hal := buildR_range (l := l) hr
    repeat' (first
      | (apply aw_seq_k; intro K hK)
      | (refine aw_run hc (by first | exact aw_nod | (intro _; rw [ordB_w hw]; kernel_rfl) | (intro _; kernel_rfl)) ?_; simp [List.zipIdx, h44, h44z, -getM, getM_hit, getM_miss, getM_none]; (repeat (simp (disch := first | omega | assumption | fail) only [if_pos, if_neg, wrap64]; try simp [List.zipIdx, h44, h44z, -getM, getM_hit, getM_miss, getM_none])); try (repeat' (refine guardQ_split (fun h => ?_) (fun h => ?_) <;> simp at h <;> (simp [List.zipIdx, h44, h44z, -getM, getM_hit, getM_miss, getM_none]; (repeat (simp (disch := first | omega | assumption | fail) only [if_pos, if_neg, wrap64]; try simp [List.zipIdx, h44, h44z, -getM, getM_hit, getM_miss, getM_none]))))))
      | (refine aw_cond (b := _) (by exact rfl) (fun h => ?_) (fun h => ?_) <;> (try simp at h))
      | (refine aw_block ?_)
      | (refine aw_skip ?_; simp only [thenQ, blockQ, if_true])
      | (refine aw_exit ?_; simp [thenQ, blockQ])
      | (refine aw_ret ?_; simp only [thenQ, blockQ])
      | (refine aw_round ?_)
      | (refine hK _ ?_; clear hK)
      | (clear hK; refine hK _ ?_; clear hK)
      | (clear hK; clear hK; refine hK _ ?_; clear hK)
      | (clear hK; clear hK; clear hK; refine hK _ ?_; clear hK))
    refine ⟨by simp, ?_⟩
    simp [leaves_iff, Try.f28, hal, zeroZ, Zn.ocells, irows]
    try (first | omega | (refine decide_eq_decide.2 ?_; omega) | (refine decide_eq_false ?_; omega) | (refine decide_eq_true ?_; omega))
end Go.AM
