/- buddy.New. -/
import Derived.Test.YtjdahonmgfhpgaaBd18
import Derived.Test.YtjdahonmgfhpgaaAmZb
set_option linter.all false

namespace Go.AM
open Go Go.Proofs

open Classical in
noncomputable def newR (z : Zn) : Zn := if rangesZ z then newZ z z.count.toNat else zeroZ
open Classical in
noncomputable def newE (z : Zn) : Int := if rangesZ z then 0 else 2

@[simp] theorem irows_e : irows [] = [] := rfl

def mkZ (a b c d e : Int) : Zn := ⟨a, b, c, d, e, [], [], [], [], []⟩

theorem F41_at (z : Zn) : F41 [.agg z.cells] = some (B (rangesZ z)) := specF_eq (A := fun z : Zn => [.agg z.cells]) (R := fun z => retOf [B (rangesZ z)]) z (by
  intro y e
  simp [Zn.cells_inj] at e
  subst e; rfl)
noncomputable def F41n (avs : List AV) : Option AV := F41 (avs.map (nilV 1))

theorem s18 (X : AX) (hX : XOK Try.prog X) (hw : X.W wT) (h41 : X.call 41 = callP F41n) (h48 : X.call 48 = callM false one1 F48) :
    PSound Try.prog 18 (specF (ι := Int × Int × Int × Int × Int) (fun x => [I x.1, I x.2.1, I x.2.2.1, I x.2.2.2.1, I x.2.2.2.2]) fun x => retOf [.agg (newR (mkZ x.1 x.2.1 x.2.2.1 x.2.2.2.1 x.2.2.2.2)).ocells, I (newE (mkZ x.1 x.2.1 x.2.2.1 x.2.2.2.1 x.2.2.2.2))]) := by
  refine psound_spec hX mixed Try.func18 rfl fun ⟨a, b, c, d, e⟩ w0 G => ⟨by show 5 ≤ 35; decide, rfl, ?_⟩
  show AW ⟨Try.prog, X, 35, w0, .pure G⟩ _ _ _
  have hc : Cx.OK ⟨Try.prog, X, 35, w0, .pure G⟩ := ⟨hX, mixed⟩
  obtain ⟨z, hz⟩ : ∃ z, z = mkZ a b c d e := ⟨_, rfl⟩
  rw [← hz]
  have ha : a = z.node := by rw [hz]; rfl
  have hb : b = z.kind := by rw [hz]; rfl
  have hcc : c = z.start := by rw [hz]; rfl
  have hd : d = z.count := by rw [hz]; rfl
  have he : e = z.least := by rw [hz]; rfl
  have h41z : F41n [.agg [I z.node, I z.kind, I z.start, I z.count, I z.least, .v (.slice none 0 0), .v (.slice none 0 0), .v (.slice none 0 0), .v (.slice none 0 0), .v (.slice none 0 0)]] = some (B (rangesZ z)) :=
    (F41_at (noL z)).trans (by simp only [(noL_same z).ranges])
  subst ha hb hcc hd he
  repeat' (first | (apply aw_seq_k; intro K hK) | (refine aw_run hc (by first | exact aw_nod | (intro _; rw [ordB_w hw]; kernel_rfl) | (intro _; kernel_rfl)) ?_; simp [List.zipIdx, h41, h41z, -getM, getM_hit, getM_miss, getM_none]; (repeat (simp (disch := first | omega | assumption | fail) only [if_pos, if_neg, wrap64]; try simp [List.zipIdx, h41, h41z, -getM, getM_hit, getM_miss, getM_none])); try (repeat' (refine guardQ_split (fun h => ?_) (fun h => ?_) <;> simp at h <;> (simp [List.zipIdx, h41, h41z, -getM, getM_hit, getM_miss, getM_none]; (repeat (simp (disch := first | omega | assumption | fail) only [if_pos, if_neg, wrap64]; try simp [List.zipIdx, h41, h41z, -getM, getM_hit, getM_miss, getM_none])))))) | (refine aw_cond (b := _) (by exact rfl) (fun h => ?_) (fun h => ?_) <;> (try simp at h)) | (refine aw_block ?_) | (refine aw_skip ?_; simp only [thenQ, blockQ, if_true]) | (refine aw_exit ?_; simp [thenQ, blockQ]) | (refine aw_ret ?_; simp only [thenQ, blockQ]) | (refine aw_round ?_) | (refine hK _ ?_; clear hK) | (clear hK; refine hK _ ?_; clear hK) | (clear hK; clear hK; refine hK _ ?_; clear hK) | (clear hK; clear hK; clear hK; refine hK _ ?_; clear hK))
  · rename_i h
    simp only [newR, newE, if_neg h]
    refine ⟨by simp, ?_⟩
    simp [leaves_iff, Try.f18, zeroZ, Zn.ocells, irows]
    try (first | omega | (refine decide_eq_decide.2 ?_; omega) | (refine decide_eq_false ?_; omega) | (refine decide_eq_true ?_; omega))
  · have hr := ‹rangesZ z›
    refine aw_weaken (le_nilcell (b := 128) (i := 5) (sz := 1) rfl rfl) ?_
    refine aw_weaken (le_nilcell (b := 128) (i := 6) (sz := 1) rfl rfl) ?_
    refine aw_weaken (le_nilcell (b := 128) (i := 7) (sz := 1) rfl rfl) ?_
    refine aw_weaken (le_nilcell (b := 128) (i := 8) (sz := 1) rfl rfl) ?_
    refine aw_weaken (le_nilcell (b := 128) (i := 9) (sz := 1) rfl rfl) ?_
    refine aw_loopK (s0 := ?lps1) (m0 := ?lpm1) (ι := {i : Nat // (i : Int) ≤ z.count}) [2, 3, 10, 12] (fun i => [(13, I (z.start + i.1))]) (fun i => [(128, .box [I z.node, I z.kind, I z.start, I z.count, I z.least, .sl 240 1 1 0 (newZ z i.1).f0.length, .sl 241 1 1 0 (newZ z i.1).f1.length, .sl 242 1 1 0 (newZ z i.1).f2.length, .sl 243 1 1 0 (newZ z i.1).f3.length, .sl 244 1 1 0 (newZ z i.1).f4.length]), (240, .vec 1 1 false (irows (newZ z i.1).f0)), (241, .vec 1 1 false (irows (newZ z i.1).f1)), (242, .vec 1 1 false (irows (newZ z i.1).f2)), (243, .vec 1 1 false (irows (newZ z i.1).f3)), (244, .vec 1 1 false (irows (newZ z i.1).f4))]) (fun i => z.count.toNat - i.1) ⟨0, by unfold rangesZ at hr; omega⟩ ?lhs1 ?lhm1 ?_ ?_
    case lhs1 => first | (simp [keepS]; done) | (simp [keepS]; rfl)
    case lhm1 => first | rfl | (simp; done) | (simp; rfl)
    · simp only [newZ_zero, noL]
      exact le_of2 (by simp) (by simp [AVle, AV.under, AV.underL] <;> omega) (by simp [AOle, AO.under, AV.underL, AV.under] <;> omega)
    · rintro ⟨i, hi⟩
      have hrr := hr
      unfold rangesZ at hrr
      have h48z := fun h => F48_new (z := z) (n := i) hr h
      simp only
      repeat' (first | (apply aw_seq_k; intro K hK) | (refine aw_run hc (by first | exact aw_nod | (intro _; rw [ordB_w hw]; kernel_rfl) | (intro _; kernel_rfl)) ?_; simp [List.zipIdx, h48, callM, giveArg, takeArg, take_irows, one1, -getM, getM_hit, getM_miss, getM_none]; (repeat (simp (disch := first | omega | assumption | fail) only [if_pos, if_neg, wrap64, h48z]; try simp [List.zipIdx, h48, callM, giveArg, takeArg, take_irows, one1, -getM, getM_hit, getM_miss, getM_none])); try (repeat' (refine guardQ_split (fun h => ?_) (fun h => ?_) <;> simp at h <;> (simp [List.zipIdx, h48, callM, giveArg, takeArg, take_irows, one1, -getM, getM_hit, getM_miss, getM_none]; (repeat (simp (disch := first | omega | assumption | fail) only [if_pos, if_neg, wrap64, h48z]; try simp [List.zipIdx, h48, callM, giveArg, takeArg, take_irows, one1, -getM, getM_hit, getM_miss, getM_none])))))) | (refine aw_cond (b := _) (by exact rfl) (fun h => ?_) (fun h => ?_) <;> (try simp at h)) | (refine aw_block ?_) | (refine aw_skip ?_; simp only [thenQ, blockQ, if_true]) | (refine aw_exit ?_; simp [thenQ, blockQ]) | (refine aw_ret ?_; simp only [thenQ, blockQ]) | (refine aw_round ?_) | (refine hK _ ?_; clear hK) | (clear hK; refine hK _ ?_; clear hK) | (clear hK; clear hK; refine hK _ ?_; clear hK) | (clear hK; clear hK; clear hK; refine hK _ ?_; clear hK))
      · refine ⟨i + 1, ?_, by omega, by omega⟩
        refine le_turn (s1 := ?tus2) (m1 := ?tum2) [(240, 341), (241, 342), (242, 343), (243, 344), (244, 345)] [13, 2, 3, 10, 12] [0, 128, 341, 342, 343, 344, 345] ?tua2 ?tub2 ?tuc2 ?tud2 ?tue2 ?tuf2 ?tug2
        case tua2 => first | (simp [keepS]; done) | (simp [keepS]; rfl)
        case tub2 => first | (simp; done) | (simp; rfl)
        case tuc2 => simp
        case tud2 => simp
        case tue2 => simp
        case tuf2 => simp
        case tug2 =>
          simp [swp, vr]
          exact le_of2 (by simp) (by simp [AVle, AV.under, AV.underL] <;> omega) (by simp [AOle, AO.under, AV.underL, AV.under] <;> omega)
      · obtain rfl : i = z.count.toNat := by omega
        simp only [newR, newE, if_pos hr]
        refine ⟨by simp, ?_⟩
        simp [leaves_iff, Try.f18, Zn.ocells, take_irows]
        try (first | omega | (refine decide_eq_decide.2 ?_; omega) | (refine decide_eq_false ?_; omega) | (refine decide_eq_true ?_; omega))
        exact newZ_same z _
end Go.AM
