/- ref.New. -/
import Derived.Test.YtjdahonmgfhpgaaBd21
import Derived.Test.YtjdahonmgfhpgaaBd19
set_option linter.all false

namespace Go.AM
open Go Go.Proofs

noncomputable def F49 : List AV → Option AV := specF (ι := {x : Zn × List Int // rangesZ x.1 ∧ x.2.length = 256}) (fun x => [.agg x.1.1.cells, .rd 1 (irows x.1.2)]) fun x => retOf [.agg (canon x.1.1 (setOf x.1.2)).ocells]
noncomputable def F49n (avs : List AV) : Option AV := F49 (avs.map (nilV 1))
noncomputable def F44n (avs : List AV) : Option AV := F44 (avs.map (nilV 1))
theorem F49_at {z : Zn} {s : List Int} (hz : rangesZ z) (hs : s.length = 256) : F49 [.agg z.cells, .rd 1 (irows s)] = some (.agg (canon z (setOf s)).ocells) :=
  specF_eq (ι := {x : Zn × List Int // rangesZ x.1 ∧ x.2.length = 256}) (A := fun x => [.agg x.1.1.cells, .rd 1 (irows x.1.2)]) (R := fun x => retOf [.agg (canon x.1.1 (setOf x.1.2)).ocells]) ⟨(z, s), hz, hs⟩ (by
    rintro ⟨⟨a, b⟩, h⟩ e
    simp [Zn.cells_inj, irows_inj] at e
    obtain ⟨rfl, rfl⟩ := e; rfl)

/-- A list of ones from start on. -/
def onesL (a n : Nat) : List Int := (List.range 256).map fun x => if a ≤ x ∧ x < a + n then 1 else 0
@[simp] theorem onesL_len {a n : Nat} : (onesL a n).length = 256 := by simp [onesL]
theorem onesL_zero {a : Nat} : onesL a 0 = List.replicate 256 0 := by
  unfold onesL
  rw [List.eq_replicate_iff]
  refine ⟨by simp, fun b hb => ?_⟩
  simp only [List.mem_map] at hb
  obtain ⟨x, _, rfl⟩ := hb
  rw [if_neg (by omega)]
theorem onesL_gi {a n x : Nat} (hx : x < 256) : gi (onesL a n) x = if a ≤ x ∧ x < a + n then 1 else 0 := by
  rw [gi_eq (by simpa using hx)]
  simp [onesL]
theorem onesL_set {a n : Nat} : (irows (onesL a n)).set (a + n) [I 1] = irows (onesL a (n + 1)) := by
  rw [irows_set]
  congr 1
  apply List.ext_getElem?
  intro x
  rw [List.getElem?_set]
  by_cases e : a + n = x
  · subst e
    by_cases h : a + n < 256
    · simp [onesL, h]
    · simp [onesL, h]
  · rw [if_neg e]
    by_cases hx : x < 256
    · simp [onesL, hx]
      by_cases h2 : a ≤ x ∧ x < a + n
      · rw [if_pos h2, if_pos (by omega)]
      · rw [if_neg h2, if_neg (by omega)]
    · simp [onesL, hx]
theorem setOf_ones {z : Zn} (hz : rangesZ z) : canon (noL z) (setOf (onesL z.start.toNat z.count.toNat)) = newZ z z.count.toNat := by
  unfold rangesZ at hz
  rw [canon_same (noL_same z)]
  unfold newZ
  refine canon_congr fun x => ?_
  unfold setOf
  constructor
  · rintro ⟨h0, h1⟩
    by_cases hx : x.toNat < 256
    · rw [onesL_gi hx] at h1
      split at h1
      · omega
      · exact absurd rfl h1
    · exfalso; apply h1
      unfold gi
      rw [List.getD_eq_getElem?_getD, List.getElem?_eq_none (by simp; omega)]; rfl
  · rintro ⟨h0, h1⟩
    refine ⟨by omega, ?_⟩
    rw [onesL_gi (by omega), if_pos (by omega)]
    decide

theorem s19 (X : AX) (hX : XOK Try.prog X) (hw : X.W wT) (h44 : X.call 44 = callP F44n) (h49 : X.call 49 = callP F49n) :
    PSound Try.prog 19 (specF (ι := Int × Int × Int × Int × Int) (fun x => [I x.1, I x.2.1, I x.2.2.1, I x.2.2.2.1, I x.2.2.2.2]) fun x => retOf [.agg (newR (mkZ x.1 x.2.1 x.2.2.1 x.2.2.2.1 x.2.2.2.2)).ocells, I (newE (mkZ x.1 x.2.1 x.2.2.1 x.2.2.2.1 x.2.2.2.2))]) := by
  refine psound_spec hX mixed Try.func19 rfl fun ⟨a, b, c, d, e⟩ w0 G => ⟨by show 5 ≤ 40; decide, rfl, ?_⟩
  show AW ⟨Try.prog, X, 40, w0, .pure G⟩ _ _ _
  have hc : Cx.OK ⟨Try.prog, X, 40, w0, .pure G⟩ := ⟨hX, mixed⟩
  obtain ⟨z, hz⟩ : ∃ z, z = mkZ a b c d e := ⟨_, rfl⟩
  rw [← hz]
  have ha : a = z.node := by rw [hz]; rfl
  have hb : b = z.kind := by rw [hz]; rfl
  have hcc : c = z.start := by rw [hz]; rfl
  have hd : d = z.count := by rw [hz]; rfl
  have he : e = z.least := by rw [hz]; rfl
  have h44z : F44n [.agg [I z.node, I z.kind, I z.start, I z.count, I z.least, .v (.slice none 0 0), .v (.slice none 0 0), .v (.slice none 0 0), .v (.slice none 0 0), .v (.slice none 0 0)]] = some (B (rangesZ z)) :=
    (F41_at (noL z)).trans (by simp only [(noL_same z).ranges])
  have h49z := fun h : rangesZ z => F49_at (z := noL z) (s := onesL z.start.toNat z.count.toNat) ((noL_same z).ranges.2 h) (by simp)
  have h49y : ∀ h : rangesZ z, F49n [.agg [I z.node, I z.kind, I z.start, I z.count, I z.least, .v (.slice none 0 0), .v (.slice none 0 0), .v (.slice none 0 0), .v (.slice none 0 0), .v (.slice none 0 0)], .rd 1 (irows (onesL z.start.toNat z.count.toNat))] = some (.agg (newZ z z.count.toNat).ocells) := fun h => by
    rw [← setOf_ones h]; exact h49z h
  have hrep : List.replicate 256 [AV.v (.int .i64 0)] = irows (onesL z.start.toNat 0) := by rw [onesL_zero]; exact repI 256
  subst ha hb hcc hd he
  repeat' (first | (apply aw_seq_k; intro K hK) | (refine aw_run hc (by first | exact aw_nod | (intro _; rw [ordB_w hw]; kernel_rfl) | (intro _; kernel_rfl)) ?_; simp [List.zipIdx, h44, h44z, hrep, -List.reduceReplicate, -getM, getM_hit, getM_miss, getM_none]; (repeat (simp (disch := first | omega | assumption | fail) only [if_pos, if_neg, wrap64]; try simp [List.zipIdx, h44, h44z, hrep, -List.reduceReplicate, -getM, getM_hit, getM_miss, getM_none])); try (repeat' (refine guardQ_split (fun h => ?_) (fun h => ?_) <;> simp at h <;> (simp [List.zipIdx, h44, h44z, hrep, -List.reduceReplicate, -getM, getM_hit, getM_miss, getM_none]; (repeat (simp (disch := first | omega | assumption | fail) only [if_pos, if_neg, wrap64]; try simp [List.zipIdx, h44, h44z, hrep, -List.reduceReplicate, -getM, getM_hit, getM_miss, getM_none])))))) | (refine aw_cond (b := _) (by exact rfl) (fun h => ?_) (fun h => ?_) <;> (try simp at h)) | (refine aw_block ?_) | (refine aw_skip ?_; simp only [thenQ, blockQ, if_true]) | (refine aw_exit ?_; simp [thenQ, blockQ]) | (refine aw_ret ?_; simp only [thenQ, blockQ]) | (refine aw_round ?_) | (refine hK _ ?_; clear hK) | (clear hK; refine hK _ ?_; clear hK) | (clear hK; clear hK; refine hK _ ?_; clear hK) | (clear hK; clear hK; clear hK; refine hK _ ?_; clear hK))
  · rename_i h
    simp only [newR, newE, if_neg h]
    refine ⟨by simp, ?_⟩
    simp [leaves_iff, Try.f19, zeroZ, Zn.ocells, irows]
    try (first | omega | (refine decide_eq_decide.2 ?_; omega) | (refine decide_eq_false ?_; omega) | (refine decide_eq_true ?_; omega))
  · have hr := ‹rangesZ z›
    refine aw_loopK (s0 := ?lps1) (m0 := ?lpm1) (ι := {i : Nat // (i : Int) ≤ z.count}) [2, 3, 10, 12, 13] (fun i => [(14, I (z.start + i.1))]) (fun i => [(208, .vec 1 1 false (irows (onesL z.start.toNat i.1)))]) (fun i => z.count.toNat - i.1) ⟨0, by unfold rangesZ at hr; omega⟩ ?lhs1 ?lhm1 ?_ ?_
    case lhs1 => first | (simp [keepS]; done) | (simp [keepS]; rfl)
    case lhm1 => first | rfl | (simp; done) | (simp; rfl)
    · exact le_of2 (by simp) (by simp [AVle, AV.under, AV.underL] <;> omega) (by simp [AOle, AO.under, AV.underL, AV.under] <;> omega)
    · rintro ⟨i, hi⟩
      have hrr := hr
      unfold rangesZ at hrr
      simp only
      have hst := onesL_set (a := z.start.toNat) (n := i)
      have hto : (z.start + (i : Int)).toNat = z.start.toNat + i := by omega
      rcases Decidable.em ((i : Int) < z.count) with hic | hic
      · have hg := irows_gi (l := onesL z.start.toNat i) (n := z.start.toNat + i) (by simp; omega)
        repeat' (first | (apply aw_seq_k; intro K hK) | (refine aw_run hc (by first | exact aw_nod | (intro _; rw [ordB_w hw]; kernel_rfl) | (intro _; kernel_rfl)) ?_; simp [List.zipIdx, hic, hto, hst, hg, -getM, getM_hit, getM_miss, getM_none]; (repeat (simp (disch := first | omega | assumption | fail) only [if_pos, if_neg, wrap64]; try simp [List.zipIdx, hic, hto, hst, hg, -getM, getM_hit, getM_miss, getM_none])); try (repeat' (refine guardQ_split (fun h => ?_) (fun h => ?_) <;> simp at h <;> (simp [List.zipIdx, hic, hto, hst, hg, -getM, getM_hit, getM_miss, getM_none]; (repeat (simp (disch := first | omega | assumption | fail) only [if_pos, if_neg, wrap64]; try simp [List.zipIdx, hic, hto, hst, hg, -getM, getM_hit, getM_miss, getM_none])))))) | (refine aw_cond (b := _) (by exact rfl) (fun h => ?_) (fun h => ?_) <;> (try simp at h)) | (refine aw_block ?_) | (refine aw_skip ?_; simp only [thenQ, blockQ, if_true]) | (refine aw_exit ?_; simp [thenQ, blockQ]) | (refine aw_ret ?_; simp only [thenQ, blockQ]) | (refine aw_round ?_) | (refine hK _ ?_; clear hK) | (clear hK; refine hK _ ?_; clear hK) | (clear hK; clear hK; refine hK _ ?_; clear hK) | (clear hK; clear hK; clear hK; refine hK _ ?_; clear hK))
        refine ⟨i + 1, ?_, by omega, by omega⟩
        exact le_of2 (by simp) (by simp [AVle, AV.under, AV.underL] <;> omega) (by simp [AOle, AO.under, AV.underL, AV.under] <;> omega)
      · obtain rfl : i = z.count.toNat := by omega
        have hcn : ((z.count.toNat : Nat) : Int) = z.count := by omega
        have htk : List.take 256 (irows (onesL z.start.toNat z.count.toNat)) = irows (onesL z.start.toNat z.count.toNat) := List.take_of_length_le (by simp)
        simp only [hcn]
        repeat' (first | (apply aw_seq_k; intro K hK) | (refine aw_run hc (by first | exact aw_nod | (intro _; rw [ordB_w hw]; kernel_rfl) | (intro _; kernel_rfl)) ?_; simp [List.zipIdx, h49, h49y hr, htk, Zn.ocells, -getM, getM_hit, getM_miss, getM_none]; (repeat (simp (disch := first | omega | assumption | fail) only [if_pos, if_neg, wrap64]; try simp [List.zipIdx, h49, h49y hr, htk, Zn.ocells, -getM, getM_hit, getM_miss, getM_none])); try (repeat' (refine guardQ_split (fun h => ?_) (fun h => ?_) <;> simp at h <;> (simp [List.zipIdx, h49, h49y hr, htk, Zn.ocells, -getM, getM_hit, getM_miss, getM_none]; (repeat (simp (disch := first | omega | assumption | fail) only [if_pos, if_neg, wrap64]; try simp [List.zipIdx, h49, h49y hr, htk, Zn.ocells, -getM, getM_hit, getM_miss, getM_none])))))) | (refine aw_cond (b := _) (by exact rfl) (fun h => ?_) (fun h => ?_) <;> (try simp at h)) | (refine aw_block ?_) | (refine aw_skip ?_; simp only [thenQ, blockQ, if_true]) | (refine aw_exit ?_; simp [thenQ, blockQ]) | (refine aw_ret ?_; simp only [thenQ, blockQ]) | (refine aw_round ?_) | (refine hK _ ?_; clear hK) | (clear hK; refine hK _ ?_; clear hK) | (clear hK; clear hK; refine hK _ ?_; clear hK) | (clear hK; clear hK; clear hK; refine hK _ ?_; clear hK))
        simp only [newR, newE, if_pos hr]
        refine ⟨by simp, ?_⟩
        simp [leaves_iff, Try.f19, Zn.ocells, take_irows]
        try (first | omega | (refine decide_eq_decide.2 ?_; omega) | (refine decide_eq_false ?_; omega) | (refine decide_eq_true ?_; omega))
end Go.AM
