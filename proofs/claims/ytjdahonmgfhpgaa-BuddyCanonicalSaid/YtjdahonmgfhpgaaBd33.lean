/- The table of Alloc, Free, Take, IsFree, Build; laws Allocs, Frees, Takes, Builds. -/
import Derived.Test.YtjdahonmgfhpgaaBd23
import Derived.Test.YtjdahonmgfhpgaaBd25
import Derived.Test.YtjdahonmgfhpgaaBd29
import Derived.Test.YtjdahonmgfhpgaaBd31
import Derived.Test.YtjdahonmgfhpgaaBd24
set_option linter.all false

namespace Go.AM
open Go Go.Proofs

noncomputable def F52 : List AV → Option AV := specF (ι := {x : Zn × Int // (∀ k, k ≤ 4 → Sorted (x.1.fr k)) ∧ small x.1 ∧ 0 ≤ x.2 ∧ x.2 < 256}) (fun x => [.agg x.1.1.cells, I x.1.2]) fun x => retOf [I (blkR x.1.1 x.1.2).1, I (blkR x.1.1 x.1.2).2]
noncomputable def F21 : List AV → Option AV := specF (ι := {x : Zn × Int // small x.1}) (fun x => [.agg x.1.1.cells, I x.1.2]) fun x => retOf [.agg (allocR x.1.1 x.1.2).1.ocells, I (allocR x.1.1 x.1.2).2.1, I (allocR x.1.1 x.1.2).2.2]
noncomputable def F22 : List AV → Option AV := specF (ι := {x : Zn × Int // small x.1}) (fun x => [.agg x.1.1.cells, I x.1.2]) fun x => retOf [.agg (allocR x.1.1 x.1.2).1.ocells, I (allocR x.1.1 x.1.2).2.1, I (allocR x.1.1 x.1.2).2.2]
noncomputable def F23 : List AV → Option AV := specF (ι := {x : Zn × Int × Int // small x.1}) (fun x => [.agg x.1.1.cells, I x.1.2.1, I x.1.2.2]) fun x => retOf [.agg (freeR x.1.1 x.1.2.1 x.1.2.2).1.ocells, I (freeR x.1.1 x.1.2.1 x.1.2.2).2]
noncomputable def F24 : List AV → Option AV := specF (ι := {x : Zn × Int × Int // small x.1}) (fun x => [.agg x.1.1.cells, I x.1.2.1, I x.1.2.2]) fun x => retOf [.agg (freeR x.1.1 x.1.2.1 x.1.2.2).1.ocells, I (freeR x.1.1 x.1.2.1 x.1.2.2).2]
noncomputable def F29 : List AV → Option AV := specF (ι := {x : Zn × Int // small x.1}) (fun x => [.agg x.1.1.cells, I x.1.2]) fun x => retOf [.agg (takeR x.1.1 x.1.2).1.ocells, I (takeR x.1.1 x.1.2).2]
noncomputable def F30 : List AV → Option AV := specF (ι := {x : Zn × Int // small x.1}) (fun x => [.agg x.1.1.cells, I x.1.2]) fun x => retOf [.agg (takeR x.1.1 x.1.2).1.ocells, I (takeR x.1.1 x.1.2).2]
noncomputable def F27 : List AV → Option AV := specF (ι := {x : Zn × List Int // x.2.length ≤ 300}) (fun x => [.agg x.1.1.cells, .rd 1 (irows x.1.2)]) fun x => retOf [.agg (buildR x.1.1 x.1.2).1.ocells, I (buildR x.1.1 x.1.2).2]
noncomputable def F28 : List AV → Option AV := specF (ι := {x : Zn × List Int // x.2.length ≤ 300}) (fun x => [.agg x.1.1.cells, .rd 1 (irows x.1.2)]) fun x => retOf [.agg (buildR x.1.1 x.1.2).1.ocells, I (buildR x.1.1 x.1.2).2]
open Classical in
noncomputable def F26 : List AV → Option AV := specF (ι := {x : Zn × Int // small x.1}) (fun x => [.agg x.1.1.cells, I x.1.2]) fun x => retOf [B (decide (checkZ x.1.1 = 0 ∧ free x.1.1 x.1.2))]
open Classical in
noncomputable def F31 : List AV → Option AV := specF (ι := {x : Zn × Int // small x.1}) (fun x => [.agg x.1.1.cells, I x.1.2]) fun x => retOf [B (decide (checkZ x.1.1 = 0 ∧ free x.1.1 x.1.2))]
theorem F21_at {z : Zn} (hz : small z) (o : Int) : F21 [.agg z.cells, I o] = some (.tup [.agg (allocR z o).1.ocells, I (allocR z o).2.1, I (allocR z o).2.2]) :=
  specF_eq (ι := {x : Zn × Int // small x.1}) (A := fun x => [.agg x.1.1.cells, I x.1.2]) (R := fun x => retOf [.agg (allocR x.1.1 x.1.2).1.ocells, I (allocR x.1.1 x.1.2).2.1, I (allocR x.1.1 x.1.2).2.2]) ⟨(z, o), hz⟩ (by
    rintro ⟨⟨a, b⟩, h⟩ e
    simp [Zn.cells_inj] at e
    obtain ⟨rfl, rfl⟩ := e; rfl)
theorem F22_at {z : Zn} (hz : small z) (o : Int) : F22 [.agg z.cells, I o] = some (.tup [.agg (allocR z o).1.ocells, I (allocR z o).2.1, I (allocR z o).2.2]) := F21_at hz o
theorem F29_at {z : Zn} (hz : small z) (o : Int) : F29 [.agg z.cells, I o] = some (.tup [.agg (takeR z o).1.ocells, I (takeR z o).2]) :=
  specF_eq (ι := {x : Zn × Int // small x.1}) (A := fun x => [.agg x.1.1.cells, I x.1.2]) (R := fun x => retOf [.agg (takeR x.1.1 x.1.2).1.ocells, I (takeR x.1.1 x.1.2).2]) ⟨(z, o), hz⟩ (by
    rintro ⟨⟨a, b⟩, h⟩ e
    simp [Zn.cells_inj] at e
    obtain ⟨rfl, rfl⟩ := e; rfl)
theorem F30_at {z : Zn} (hz : small z) (o : Int) : F30 [.agg z.cells, I o] = some (.tup [.agg (takeR z o).1.ocells, I (takeR z o).2]) := F29_at hz o
open Classical in
theorem F26_at {z : Zn} (hz : small z) (o : Int) : F26 [.agg z.cells, I o] = some (B (decide (checkZ z = 0 ∧ free z o))) :=
  specF_eq (ι := {x : Zn × Int // small x.1}) (A := fun x => [.agg x.1.1.cells, I x.1.2]) (R := fun x => retOf [B (decide (checkZ x.1.1 = 0 ∧ free x.1.1 x.1.2))]) ⟨(z, o), hz⟩ (by
    rintro ⟨⟨a, b⟩, h⟩ e
    simp [Zn.cells_inj] at e
    obtain ⟨rfl, rfl⟩ := e; rfl)
open Classical in
theorem F31_at {z : Zn} (hz : small z) (o : Int) : F31 [.agg z.cells, I o] = some (B (decide (checkZ z = 0 ∧ free z o))) := F26_at hz o
theorem F23_at {z : Zn} (hz : small z) (f o : Int) : F23 [.agg z.cells, I f, I o] = some (.tup [.agg (freeR z f o).1.ocells, I (freeR z f o).2]) :=
  specF_eq (ι := {x : Zn × Int × Int // small x.1}) (A := fun x => [.agg x.1.1.cells, I x.1.2.1, I x.1.2.2]) (R := fun x => retOf [.agg (freeR x.1.1 x.1.2.1 x.1.2.2).1.ocells, I (freeR x.1.1 x.1.2.1 x.1.2.2).2]) ⟨(z, f, o), hz⟩ (by
    rintro ⟨⟨a, b, c⟩, h⟩ e
    simp [Zn.cells_inj] at e
    obtain ⟨rfl, rfl, rfl⟩ := e; rfl)
theorem F24_at {z : Zn} (hz : small z) (f o : Int) : F24 [.agg z.cells, I f, I o] = some (.tup [.agg (freeR z f o).1.ocells, I (freeR z f o).2]) := F23_at hz f o
theorem F27_at (z : Zn) {l : List Int} (hl : l.length ≤ 300) : F27 [.agg z.cells, .rd 1 (irows l)] = some (.tup [.agg (buildR z l).1.ocells, I (buildR z l).2]) :=
  specF_eq (ι := {x : Zn × List Int // x.2.length ≤ 300}) (A := fun x => [.agg x.1.1.cells, .rd 1 (irows x.1.2)]) (R := fun x => retOf [.agg (buildR x.1.1 x.1.2).1.ocells, I (buildR x.1.1 x.1.2).2]) ⟨(z, l), hl⟩ (by
    rintro ⟨⟨a, b⟩, h⟩ e
    simp [Zn.cells_inj, irows_inj] at e
    obtain ⟨rfl, rfl⟩ := e; rfl)
theorem F28_at (z : Zn) {l : List Int} (hl : l.length ≤ 300) : F28 [.agg z.cells, .rd 1 (irows l)] = some (.tup [.agg (buildR z l).1.ocells, I (buildR z l).2]) := F27_at z hl
theorem cf52 (z : Zn) (x : Int) (M : Nat → AO) (n : Nat) (hv : Valid z) (hz : small z) (h0 : 0 ≤ x) (h1 : x < 256) : callP F52 [.agg z.cells, I x] M n = some (.tup [I (blkR z x).1, I (blkR z x).2], []) :=
  callP_spec (ι := {x : Zn × Int // (∀ k, k ≤ 4 → Sorted (x.1.fr k)) ∧ small x.1 ∧ 0 ≤ x.2 ∧ x.2 < 256}) (A := fun x => [.agg x.1.1.cells, I x.1.2]) (R := fun x => retOf [I (blkR x.1.1 x.1.2).1, I (blkR x.1.1 x.1.2).2]) ⟨(z, x), fun k hk => hv.sorted k hk, hz, h0, h1⟩ (by simp) (by
    rintro ⟨⟨a, b⟩, h⟩ e
    simp [Zn.cells_inj] at e
    obtain ⟨rfl, rfl⟩ := e; rfl) (by simp)

noncomputable def U50 : AX := U14.add 50 (callP F50)
theorem u50 : XOK Try.prog U50 := xok_spec u14 (s50 U14 u14 (AX.W.start _) rfl) (fun _ => flat_zone) Try.func50 (by kernel_rfl)
noncomputable def U52 : AX := U50.add 52 (callP F52)
theorem u52 : XOK Try.prog U52 := xok_spec u50 (s52 U50 u50 (AX.W.start _) rfl) (fun _ => flat_int2) Try.func52 (by kernel_rfl)
noncomputable def U21 : AX := U52.add 21 (callP F21)
theorem u21 : XOK Try.prog U21 := xok_spec u52 (s21 U52 u52 (AX.W.start _) (fun z M n h => cf16 z M n h) rfl rfl rfl) (fun _ => flat_zone2) Try.func21 (by kernel_rfl)
noncomputable def U22 : AX := U21.add 22 (callP F22)
theorem u22 : XOK Try.prog U22 := xok_spec u21 (s22 U21 u21 (AX.W.start _) (fun z M n h => cf17 z M n h) (fun z M n h h3 h2 => cf46 z M n h h3 h2) rfl) (fun _ => flat_zone2) Try.func22 (by kernel_rfl)
noncomputable def U23 : AX := U22.add 23 (callP F23)
theorem u23 : XOK Try.prog U23 := xok_spec u22 (s23 U22 u22 (AX.W.start _) (fun z M n h => cf16 z M n h) (fun z f k M n h hk => cf42 z f k M n h hk) rfl rfl (fun z x M n hv hz h0 h1 => cf52 z x M n hv hz h0 h1)) (fun _ => flat_zone1) Try.func23 (by kernel_rfl)
noncomputable def U24 : AX := U23.add 24 (callP F24)
theorem u24 : XOK Try.prog U24 := xok_spec u23 (s24 U23 u23 (AX.W.start _) (fun z M n h => cf17 z M n h) (fun z M n h h3 h2 => cf46 z M n h h3 h2) (fun z f o M n h => cf47 z f o M n h) rfl) (fun _ => flat_zone1) Try.func24 (by kernel_rfl)
noncomputable def U26 : AX := U24.add 26 (callP F26)
theorem u26 : XOK Try.prog U26 := xok_spec u24 (s26 U24 u24 (AX.W.start _) (fun z M n h => cf16 z M n h) (fun z f k M n h hk => cf42 z f k M n h hk) (fun z x M n hv hz h0 h1 => cf52 z x M n hv hz h0 h1)) (fun _ => flat_bool) Try.func26 (by kernel_rfl)
noncomputable def U31 : AX := U26.add 31 (callP F31)
theorem u31 : XOK Try.prog U31 := xok_spec u26 (s31 U26 u26 (AX.W.start _) (fun z M n h => cf17 z M n h) (fun z M n h h3 h2 => cf46 z M n h h3 h2) (fun z f o M n h => cf47 z f o M n h)) (fun _ => flat_bool) Try.func31 (by kernel_rfl)
noncomputable def U29 : AX := U31.add 29 (callP F29)
theorem u29 : XOK Try.prog U29 := xok_spec u31 (s29 U31 u31 (AX.W.start _) (fun z M n h => cf16 z M n h) (fun z f k M n h hk => cf42 z f k M n h hk) rfl rfl rfl (fun z x M n hv hz h0 h1 => cf52 z x M n hv hz h0 h1) rfl) (fun _ => flat_zone1) Try.func29 (by kernel_rfl)
noncomputable def U30 : AX := U29.add 30 (callP F30)
theorem u30 : XOK Try.prog U30 := xok_spec u29 (s30 U29 u29 (AX.W.start _) (fun z M n h => cf17 z M n h) (fun z M n h h3 h2 => cf46 z M n h h3 h2) (fun z f o M n h => cf47 z f o M n h) rfl) (fun _ => flat_zone1) Try.func30 (by kernel_rfl)
noncomputable def U27 : AX := U30.add 27 (callP F27)
theorem u27 : XOK Try.prog U27 := xok_spec u30 (s27 U30 u30 (AX.W.start _) rfl rfl rfl) (fun _ => flat_zone1) Try.func27 (by kernel_rfl)
noncomputable def U28 : AX := U27.add 28 (callP F28)
theorem u28 : XOK Try.prog U28 := xok_spec u27 (s28 U27 u27 (AX.W.start _) rfl rfl) (fun _ => flat_zone1) Try.func28 (by kernel_rfl)

theorem irows_same {y : Zn} (h : small y) : F20 [.agg [I y.node, I y.kind, I y.start, I y.count, I y.least, .rd 1 (irows y.f0), .rd 1 (irows y.f1), .rd 1 (irows y.f2), .rd 1 (irows y.f3), .rd 1 (irows y.f4)], .agg [I y.node, I y.kind, I y.start, I y.count, I y.least, .rd 1 (irows y.f0), .rd 1 (irows y.f1), .rd 1 (irows y.f2), .rd 1 (irows y.f3), .rd 1 (irows y.f4)]] = some (B true) := F20_same h

theorem s5 (X : AX) (hX : XOK Try.prog X) (hw : X.W wT) (h14 : ∀ M n, X.call 14 [] M n = some (B true, [])) (h15 : ∀ z M n, X.call 15 [.agg z.cells] M n = some (B (fewZ z), [])) (h20 : X.call 20 = callP F20) (ha : X.call 21 = callP F21) (hb : X.call 22 = callP F22) :
    PSound Try.prog 5 (specF (ι := Zn × Int) (fun x => [.agg x.1.cells, I x.2]) fun _ => retOf [B true]) := by
  refine psound_spec hX mixed Try.func5 rfl fun ⟨z, o⟩ w0 G => ⟨by show 2 ≤ 46; decide, rfl, ?_⟩
  show AW ⟨Try.prog, X, 46, w0, .pure G⟩ _ _ _
  have hc : Cx.OK ⟨Try.prog, X, 46, w0, .pure G⟩ := ⟨hX, mixed⟩
  rcases Decidable.em (fewZ z) with hf | hf
  · have hz := hf.small
    obtain ⟨y, hy⟩ : ∃ y, y = (allocR z o).1 := ⟨_, rfl⟩
    have hys := F20_same (hy ▸ allocR_small z o : small y)
    have haz := F21_at hz o
    have hbz := F22_at hz o
    rw [← hy] at haz hbz
    repeat' (first | (apply aw_seq_k; intro K hK) | (refine aw_run hc (by first | exact aw_nod | (intro _; rw [ordB_w hw]; kernel_rfl) | (intro _; kernel_rfl)) ?_; simp [List.zipIdx, h14, h15, hf, ha, haz, hb, hbz, h20, hys, Zn.ocells, take_irows, -getM, getM_hit, getM_miss, getM_none]; (repeat (simp (disch := first | omega | assumption | fail) only [if_pos, if_neg, wrap64]; try simp [List.zipIdx, h14, h15, hf, ha, haz, hb, hbz, h20, hys, Zn.ocells, take_irows, -getM, getM_hit, getM_miss, getM_none])); try (repeat' (refine guardQ_split (fun h => ?_) (fun h => ?_) <;> simp at h <;> (simp [List.zipIdx, h14, h15, hf, ha, haz, hb, hbz, h20, hys, Zn.ocells, take_irows, -getM, getM_hit, getM_miss, getM_none]; (repeat (simp (disch := first | omega | assumption | fail) only [if_pos, if_neg, wrap64]; try simp [List.zipIdx, h14, h15, hf, ha, haz, hb, hbz, h20, hys, Zn.ocells, take_irows, -getM, getM_hit, getM_miss, getM_none])))))) | (refine aw_cond (b := _) (by exact rfl) (fun h => ?_) (fun h => ?_) <;> (try simp at h)) | (refine aw_block ?_) | (refine aw_skip ?_; simp only [thenQ, blockQ, if_true]) | (refine aw_exit ?_; simp [thenQ, blockQ]) | (refine aw_ret ?_; simp only [thenQ, blockQ]) | (refine aw_round ?_) | (refine hK _ ?_; clear hK) | (clear hK; refine hK _ ?_; clear hK) | (clear hK; clear hK; refine hK _ ?_; clear hK) | (clear hK; clear hK; clear hK; refine hK _ ?_; clear hK))
    refine ⟨by simp, ?_⟩
    simp [leaves_iff, Try.f5]
    try (first | omega | (refine decide_eq_decide.2 ?_; omega) | (refine decide_eq_false ?_; omega) | (refine decide_eq_true ?_; omega))
  · repeat' (first | (apply aw_seq_k; intro K hK) | (refine aw_run hc (by first | exact aw_nod | (intro _; rw [ordB_w hw]; kernel_rfl) | (intro _; kernel_rfl)) ?_; simp [List.zipIdx, h14, h15, hf, -getM, getM_hit, getM_miss, getM_none]; (repeat (simp (disch := first | omega | assumption | fail) only [if_pos, if_neg, wrap64]; try simp [List.zipIdx, h14, h15, hf, -getM, getM_hit, getM_miss, getM_none])); try (repeat' (refine guardQ_split (fun h => ?_) (fun h => ?_) <;> simp at h <;> (simp [List.zipIdx, h14, h15, hf, -getM, getM_hit, getM_miss, getM_none]; (repeat (simp (disch := first | omega | assumption | fail) only [if_pos, if_neg, wrap64]; try simp [List.zipIdx, h14, h15, hf, -getM, getM_hit, getM_miss, getM_none])))))) | (refine aw_cond (b := _) (by exact rfl) (fun h => ?_) (fun h => ?_) <;> (try simp at h)) | (refine aw_block ?_) | (refine aw_skip ?_; simp only [thenQ, blockQ, if_true]) | (refine aw_exit ?_; simp [thenQ, blockQ]) | (refine aw_ret ?_; simp only [thenQ, blockQ]) | (refine aw_round ?_) | (refine hK _ ?_; clear hK) | (clear hK; refine hK _ ?_; clear hK) | (clear hK; clear hK; refine hK _ ?_; clear hK) | (clear hK; clear hK; clear hK; refine hK _ ?_; clear hK))
    refine ⟨by simp, ?_⟩
    simp [leaves_iff, Try.f5]
    try (first | omega | (refine decide_eq_decide.2 ?_; omega) | (refine decide_eq_false ?_; omega) | (refine decide_eq_true ?_; omega))
theorem s6 (X : AX) (hX : XOK Try.prog X) (hw : X.W wT) (h14 : ∀ M n, X.call 14 [] M n = some (B true, [])) (h15 : ∀ z M n, X.call 15 [.agg z.cells] M n = some (B (fewZ z), [])) (h20 : X.call 20 = callP F20) (ha : X.call 23 = callP F23) (hb : X.call 24 = callP F24) :
    PSound Try.prog 6 (specF (ι := Zn × Int × Int) (fun x => [.agg x.1.cells, I x.2.1, I x.2.2]) fun _ => retOf [B true]) := by
  refine psound_spec hX mixed Try.func6 rfl fun ⟨z, f, o⟩ w0 G => ⟨by show 3 ≤ 41; decide, rfl, ?_⟩
  show AW ⟨Try.prog, X, 41, w0, .pure G⟩ _ _ _
  have hc : Cx.OK ⟨Try.prog, X, 41, w0, .pure G⟩ := ⟨hX, mixed⟩
  rcases Decidable.em (fewZ z) with hf | hf
  · have hz := hf.small
    obtain ⟨y, hy⟩ : ∃ y, y = (freeR z f o).1 := ⟨_, rfl⟩
    have hys := F20_same (hy ▸ freeR_small z f o : small y)
    have haz := F23_at hz f o
    have hbz := F24_at hz f o
    rw [← hy] at haz hbz
    repeat' (first | (apply aw_seq_k; intro K hK) | (refine aw_run hc (by first | exact aw_nod | (intro _; rw [ordB_w hw]; kernel_rfl) | (intro _; kernel_rfl)) ?_; simp [List.zipIdx, h14, h15, hf, ha, haz, hb, hbz, h20, hys, Zn.ocells, take_irows, -getM, getM_hit, getM_miss, getM_none]; (repeat (simp (disch := first | omega | assumption | fail) only [if_pos, if_neg, wrap64]; try simp [List.zipIdx, h14, h15, hf, ha, haz, hb, hbz, h20, hys, Zn.ocells, take_irows, -getM, getM_hit, getM_miss, getM_none])); try (repeat' (refine guardQ_split (fun h => ?_) (fun h => ?_) <;> simp at h <;> (simp [List.zipIdx, h14, h15, hf, ha, haz, hb, hbz, h20, hys, Zn.ocells, take_irows, -getM, getM_hit, getM_miss, getM_none]; (repeat (simp (disch := first | omega | assumption | fail) only [if_pos, if_neg, wrap64]; try simp [List.zipIdx, h14, h15, hf, ha, haz, hb, hbz, h20, hys, Zn.ocells, take_irows, -getM, getM_hit, getM_miss, getM_none])))))) | (refine aw_cond (b := _) (by exact rfl) (fun h => ?_) (fun h => ?_) <;> (try simp at h)) | (refine aw_block ?_) | (refine aw_skip ?_; simp only [thenQ, blockQ, if_true]) | (refine aw_exit ?_; simp [thenQ, blockQ]) | (refine aw_ret ?_; simp only [thenQ, blockQ]) | (refine aw_round ?_) | (refine hK _ ?_; clear hK) | (clear hK; refine hK _ ?_; clear hK) | (clear hK; clear hK; refine hK _ ?_; clear hK) | (clear hK; clear hK; clear hK; refine hK _ ?_; clear hK))
    refine ⟨by simp, ?_⟩
    simp [leaves_iff, Try.f6]
    try (first | omega | (refine decide_eq_decide.2 ?_; omega) | (refine decide_eq_false ?_; omega) | (refine decide_eq_true ?_; omega))
  · repeat' (first | (apply aw_seq_k; intro K hK) | (refine aw_run hc (by first | exact aw_nod | (intro _; rw [ordB_w hw]; kernel_rfl) | (intro _; kernel_rfl)) ?_; simp [List.zipIdx, h14, h15, hf, -getM, getM_hit, getM_miss, getM_none]; (repeat (simp (disch := first | omega | assumption | fail) only [if_pos, if_neg, wrap64]; try simp [List.zipIdx, h14, h15, hf, -getM, getM_hit, getM_miss, getM_none])); try (repeat' (refine guardQ_split (fun h => ?_) (fun h => ?_) <;> simp at h <;> (simp [List.zipIdx, h14, h15, hf, -getM, getM_hit, getM_miss, getM_none]; (repeat (simp (disch := first | omega | assumption | fail) only [if_pos, if_neg, wrap64]; try simp [List.zipIdx, h14, h15, hf, -getM, getM_hit, getM_miss, getM_none])))))) | (refine aw_cond (b := _) (by exact rfl) (fun h => ?_) (fun h => ?_) <;> (try simp at h)) | (refine aw_block ?_) | (refine aw_skip ?_; simp only [thenQ, blockQ, if_true]) | (refine aw_exit ?_; simp [thenQ, blockQ]) | (refine aw_ret ?_; simp only [thenQ, blockQ]) | (refine aw_round ?_) | (refine hK _ ?_; clear hK) | (clear hK; refine hK _ ?_; clear hK) | (clear hK; clear hK; refine hK _ ?_; clear hK) | (clear hK; clear hK; clear hK; refine hK _ ?_; clear hK))
    refine ⟨by simp, ?_⟩
    simp [leaves_iff, Try.f6]
    try (first | omega | (refine decide_eq_decide.2 ?_; omega) | (refine decide_eq_false ?_; omega) | (refine decide_eq_true ?_; omega))
theorem s11 (X : AX) (hX : XOK Try.prog X) (hw : X.W wT) (h14 : ∀ M n, X.call 14 [] M n = some (B true, [])) (h15 : ∀ z M n, X.call 15 [.agg z.cells] M n = some (B (fewZ z), [])) (h20 : X.call 20 = callP F20) (ha : X.call 29 = callP F29) (hb : X.call 30 = callP F30) (h26 : X.call 26 = callP F26) (h31 : X.call 31 = callP F31) :
    PSound Try.prog 11 (specF (ι := Zn × Int) (fun x => [.agg x.1.cells, I x.2]) fun _ => retOf [B true]) := by
  refine psound_spec hX mixed Try.func11 rfl fun ⟨z, o⟩ w0 G => ⟨by show 2 ≤ 46; decide, rfl, ?_⟩
  show AW ⟨Try.prog, X, 46, w0, .pure G⟩ _ _ _
  have hc : Cx.OK ⟨Try.prog, X, 46, w0, .pure G⟩ := ⟨hX, mixed⟩
  rcases Decidable.em (fewZ z) with hf | hf
  · have hz := hf.small
    obtain ⟨y, hy⟩ : ∃ y, y = (takeR z o).1 := ⟨_, rfl⟩
    have hys := F20_same (hy ▸ takeR_small z o : small y)
    have haz := F29_at hz o
    have hbz := F30_at hz o
    rw [← hy] at haz hbz
    repeat' (first | (apply aw_seq_k; intro K hK) | (refine aw_run hc (by first | exact aw_nod | (intro _; rw [ordB_w hw]; kernel_rfl) | (intro _; kernel_rfl)) ?_; simp [List.zipIdx, h14, h15, hf, ha, haz, hb, hbz, h20, hys, h26, h31, F26_at hz o, F31_at hz o, Zn.ocells, take_irows, -getM, getM_hit, getM_miss, getM_none]; (repeat (simp (disch := first | omega | assumption | fail) only [if_pos, if_neg, wrap64]; try simp [List.zipIdx, h14, h15, hf, ha, haz, hb, hbz, h20, hys, h26, h31, F26_at hz o, F31_at hz o, Zn.ocells, take_irows, -getM, getM_hit, getM_miss, getM_none])); try (repeat' (refine guardQ_split (fun h => ?_) (fun h => ?_) <;> simp at h <;> (simp [List.zipIdx, h14, h15, hf, ha, haz, hb, hbz, h20, hys, h26, h31, F26_at hz o, F31_at hz o, Zn.ocells, take_irows, -getM, getM_hit, getM_miss, getM_none]; (repeat (simp (disch := first | omega | assumption | fail) only [if_pos, if_neg, wrap64]; try simp [List.zipIdx, h14, h15, hf, ha, haz, hb, hbz, h20, hys, h26, h31, F26_at hz o, F31_at hz o, Zn.ocells, take_irows, -getM, getM_hit, getM_miss, getM_none])))))) | (refine aw_cond (b := _) (by exact rfl) (fun h => ?_) (fun h => ?_) <;> (try simp at h)) | (refine aw_block ?_) | (refine aw_skip ?_; simp only [thenQ, blockQ, if_true]) | (refine aw_exit ?_; simp [thenQ, blockQ]) | (refine aw_ret ?_; simp only [thenQ, blockQ]) | (refine aw_round ?_) | (refine hK _ ?_; clear hK) | (clear hK; refine hK _ ?_; clear hK) | (clear hK; clear hK; refine hK _ ?_; clear hK) | (clear hK; clear hK; clear hK; refine hK _ ?_; clear hK))
    refine ⟨by simp, ?_⟩
    simp [leaves_iff, Try.f11]
    try (first | omega | (refine decide_eq_decide.2 ?_; omega) | (refine decide_eq_false ?_; omega) | (refine decide_eq_true ?_; omega))
  · repeat' (first | (apply aw_seq_k; intro K hK) | (refine aw_run hc (by first | exact aw_nod | (intro _; rw [ordB_w hw]; kernel_rfl) | (intro _; kernel_rfl)) ?_; simp [List.zipIdx, h14, h15, hf, -getM, getM_hit, getM_miss, getM_none]; (repeat (simp (disch := first | omega | assumption | fail) only [if_pos, if_neg, wrap64]; try simp [List.zipIdx, h14, h15, hf, -getM, getM_hit, getM_miss, getM_none])); try (repeat' (refine guardQ_split (fun h => ?_) (fun h => ?_) <;> simp at h <;> (simp [List.zipIdx, h14, h15, hf, -getM, getM_hit, getM_miss, getM_none]; (repeat (simp (disch := first | omega | assumption | fail) only [if_pos, if_neg, wrap64]; try simp [List.zipIdx, h14, h15, hf, -getM, getM_hit, getM_miss, getM_none])))))) | (refine aw_cond (b := _) (by exact rfl) (fun h => ?_) (fun h => ?_) <;> (try simp at h)) | (refine aw_block ?_) | (refine aw_skip ?_; simp only [thenQ, blockQ, if_true]) | (refine aw_exit ?_; simp [thenQ, blockQ]) | (refine aw_ret ?_; simp only [thenQ, blockQ]) | (refine aw_round ?_) | (refine hK _ ?_; clear hK) | (clear hK; refine hK _ ?_; clear hK) | (clear hK; clear hK; refine hK _ ?_; clear hK) | (clear hK; clear hK; clear hK; refine hK _ ?_; clear hK))
    refine ⟨by simp, ?_⟩
    simp [leaves_iff, Try.f11]
    try (first | omega | (refine decide_eq_decide.2 ?_; omega) | (refine decide_eq_false ?_; omega) | (refine decide_eq_true ?_; omega))
theorem s10 (X : AX) (hX : XOK Try.prog X) (hw : X.W wT) (h14 : ∀ M n, X.call 14 [] M n = some (B true, [])) (h15 : ∀ z M n, X.call 15 [.agg z.cells] M n = some (B (fewZ z), [])) (h20 : X.call 20 = callP F20) (ha : X.call 27 = callP F27) (hb : X.call 28 = callP F28) :
    PSound Try.prog 10 (specF (ι := {x : Zn × List Int // x.2.length ≤ maxLen}) (fun x => [.agg x.1.1.cells, .rd 1 (irows x.1.2)]) fun _ => retOf [B true]) := by
  refine psound_spec hX mixed Try.func10 rfl fun ⟨⟨z, l⟩, hlm⟩ w0 G => ⟨by show 2 ≤ 42; decide, rfl, ?_⟩
  show AW ⟨Try.prog, X, 42, w0, .pure G⟩ _ _ _
  have hc : Cx.OK ⟨Try.prog, X, 42, w0, .pure G⟩ := ⟨hX, mixed⟩
  simp only at hlm ⊢
  rcases Decidable.em (fewZ z) with hf | hf
  · rcases Decidable.em (l.length ≤ 300) with hl | hl
    · have hlI : ¬ (300 : Int) < (l.length : Int) := by omega
      obtain ⟨y, hy⟩ : ∃ y, y = (buildR z l).1 := ⟨_, rfl⟩
      have hys := F20_same (hy ▸ buildR_small z l : small y)
      have haz := F27_at z hl
      have hbz := F28_at z hl
      rw [← hy] at haz hbz
      repeat' (first | (apply aw_seq_k; intro K hK) | (refine aw_run hc (by first | exact aw_nod | (intro _; rw [ordB_w hw]; kernel_rfl) | (intro _; kernel_rfl)) ?_; simp [List.zipIdx, h14, h15, hf, hlI, ha, haz, hb, hbz, h20, hys, Zn.ocells, take_irows, -getM, getM_hit, getM_miss, getM_none]; (repeat (simp (disch := first | omega | assumption | fail) only [if_pos, if_neg, wrap64]; try simp [List.zipIdx, h14, h15, hf, hlI, ha, haz, hb, hbz, h20, hys, Zn.ocells, take_irows, -getM, getM_hit, getM_miss, getM_none])); try (repeat' (refine guardQ_split (fun h => ?_) (fun h => ?_) <;> simp at h <;> (simp [List.zipIdx, h14, h15, hf, hlI, ha, haz, hb, hbz, h20, hys, Zn.ocells, take_irows, -getM, getM_hit, getM_miss, getM_none]; (repeat (simp (disch := first | omega | assumption | fail) only [if_pos, if_neg, wrap64]; try simp [List.zipIdx, h14, h15, hf, hlI, ha, haz, hb, hbz, h20, hys, Zn.ocells, take_irows, -getM, getM_hit, getM_miss, getM_none])))))) | (refine aw_cond (b := _) (by exact rfl) (fun h => ?_) (fun h => ?_) <;> (try simp at h)) | (refine aw_block ?_) | (refine aw_skip ?_; simp only [thenQ, blockQ, if_true]) | (refine aw_exit ?_; simp [thenQ, blockQ]) | (refine aw_ret ?_; simp only [thenQ, blockQ]) | (refine aw_round ?_) | (refine hK _ ?_; clear hK) | (clear hK; refine hK _ ?_; clear hK) | (clear hK; clear hK; refine hK _ ?_; clear hK) | (clear hK; clear hK; clear hK; refine hK _ ?_; clear hK))
      refine ⟨by simp, ?_⟩
      simp [leaves_iff, Try.f10]
      try (first | omega | (refine decide_eq_decide.2 ?_; omega) | (refine decide_eq_false ?_; omega) | (refine decide_eq_true ?_; omega))
    · have hlI : (300 : Int) < (l.length : Int) := by omega
      repeat' (first | (apply aw_seq_k; intro K hK) | (refine aw_run hc (by first | exact aw_nod | (intro _; rw [ordB_w hw]; kernel_rfl) | (intro _; kernel_rfl)) ?_; simp [List.zipIdx, h14, h15, hf, hlI, -getM, getM_hit, getM_miss, getM_none]; (repeat (simp (disch := first | omega | assumption | fail) only [if_pos, if_neg, wrap64]; try simp [List.zipIdx, h14, h15, hf, hlI, -getM, getM_hit, getM_miss, getM_none])); try (repeat' (refine guardQ_split (fun h => ?_) (fun h => ?_) <;> simp at h <;> (simp [List.zipIdx, h14, h15, hf, hlI, -getM, getM_hit, getM_miss, getM_none]; (repeat (simp (disch := first | omega | assumption | fail) only [if_pos, if_neg, wrap64]; try simp [List.zipIdx, h14, h15, hf, hlI, -getM, getM_hit, getM_miss, getM_none])))))) | (refine aw_cond (b := _) (by exact rfl) (fun h => ?_) (fun h => ?_) <;> (try simp at h)) | (refine aw_block ?_) | (refine aw_skip ?_; simp only [thenQ, blockQ, if_true]) | (refine aw_exit ?_; simp [thenQ, blockQ]) | (refine aw_ret ?_; simp only [thenQ, blockQ]) | (refine aw_round ?_) | (refine hK _ ?_; clear hK) | (clear hK; refine hK _ ?_; clear hK) | (clear hK; clear hK; refine hK _ ?_; clear hK) | (clear hK; clear hK; clear hK; refine hK _ ?_; clear hK))
      refine ⟨by simp, ?_⟩
      simp [leaves_iff, Try.f10]
      try (first | omega | (refine decide_eq_decide.2 ?_; omega) | (refine decide_eq_false ?_; omega) | (refine decide_eq_true ?_; omega))
  · repeat' (first | (apply aw_seq_k; intro K hK) | (refine aw_run hc (by first | exact aw_nod | (intro _; rw [ordB_w hw]; kernel_rfl) | (intro _; kernel_rfl)) ?_; simp [List.zipIdx, h14, h15, hf, -getM, getM_hit, getM_miss, getM_none]; (repeat (simp (disch := first | omega | assumption | fail) only [if_pos, if_neg, wrap64]; try simp [List.zipIdx, h14, h15, hf, -getM, getM_hit, getM_miss, getM_none])); try (repeat' (refine guardQ_split (fun h => ?_) (fun h => ?_) <;> simp at h <;> (simp [List.zipIdx, h14, h15, hf, -getM, getM_hit, getM_miss, getM_none]; (repeat (simp (disch := first | omega | assumption | fail) only [if_pos, if_neg, wrap64]; try simp [List.zipIdx, h14, h15, hf, -getM, getM_hit, getM_miss, getM_none])))))) | (refine aw_cond (b := _) (by exact rfl) (fun h => ?_) (fun h => ?_) <;> (try simp at h)) | (refine aw_block ?_) | (refine aw_skip ?_; simp only [thenQ, blockQ, if_true]) | (refine aw_exit ?_; simp [thenQ, blockQ]) | (refine aw_ret ?_; simp only [thenQ, blockQ]) | (refine aw_round ?_) | (refine hK _ ?_; clear hK) | (clear hK; refine hK _ ?_; clear hK) | (clear hK; clear hK; refine hK _ ?_; clear hK) | (clear hK; clear hK; clear hK; refine hK _ ?_; clear hK))
    refine ⟨by simp, ?_⟩
    simp [leaves_iff, Try.f10]
    try (first | omega | (refine decide_eq_decide.2 ?_; omega) | (refine decide_eq_false ?_; omega) | (refine decide_eq_true ?_; omega))
end Go.AM

/- The arguments of the laws Allocs, Frees, Takes, Builds. -/
namespace Go.AM
open Go Go.Proofs

theorem sh22 : shapeOf Try.prog 10 22 = some [shL] := by kernel_rfl
theorem arg_ints {a : AV} (h : FitArg Try.prog 22 a) : ∃ l, a = .rd 1 (irows l) ∧ l.length ≤ maxLen := by
  obtain ⟨sh, h1, h2⟩ := h
  rw [sh22] at h1
  simp only [Option.some.injEq] at h1
  subst h1
  rcases h2 with ⟨⟨fs, hf⟩ | ⟨n, e, hf⟩, _⟩ | ⟨_, h3⟩
  · simp [Try.underlying22] at hf
  · simp [Try.underlying22] at hf
  · obtain ⟨b, hb, hf⟩ := fitL_one h3
    obtain rfl : a = b := by simpa using hb
    obtain ⟨l, rfl, h1, _⟩ := fit_ints hf
    exact ⟨l, rfl, h1⟩

theorem s5' : PSound Try.prog 5 (specF (ι := Zn × Int) (fun x => [.agg x.1.cells, I x.2]) fun _ => retOf [B true]) :=
  s5 U28 u28 (AX.W.start _) cf14 (fun z M n => cf15 z M n) rfl rfl rfl
theorem s6' : PSound Try.prog 6 (specF (ι := Zn × Int × Int) (fun x => [.agg x.1.cells, I x.2.1, I x.2.2]) fun _ => retOf [B true]) :=
  s6 U28 u28 (AX.W.start _) cf14 (fun z M n => cf15 z M n) rfl rfl rfl
theorem s11' : PSound Try.prog 11 (specF (ι := Zn × Int) (fun x => [.agg x.1.cells, I x.2]) fun _ => retOf [B true]) :=
  s11 U28 u28 (AX.W.start _) cf14 (fun z M n => cf15 z M n) rfl rfl rfl rfl rfl
theorem s10' : PSound Try.prog 10 (specF (ι := {x : Zn × List Int // x.2.length ≤ maxLen}) (fun x => [.agg x.1.1.cells, .rd 1 (irows x.1.2)]) fun _ => retOf [B true]) :=
  s10 U28 u28 (AX.W.start _) cf14 (fun z M n => cf15 z M n) rfl rfl rfl

theorem allocs_F (avs : List AV) (h : FitArgs Try.prog [25, 3] avs) : specF (ι := Zn × Int) (fun x => [.agg x.1.cells, I x.2]) (fun _ => retOf [B true]) avs = some (B true) := by
  match avs, h with
  | [x, y], h =>
    simp only [FitArgs] at h
    obtain ⟨z, rfl⟩ := arg_zone h.1
    obtain ⟨b, rfl, _⟩ := arg_int h.2.1
    exact specF_eq (A := fun x : Zn × Int => [.agg x.1.cells, I x.2]) (R := fun _ => retOf [B true]) (z, b) fun _ _ => rfl
  | [], h => simp [FitArgs] at h
  | [_], h => simp [FitArgs] at h
  | _ :: _ :: _ :: _, h => simp [FitArgs] at h
theorem frees_F (avs : List AV) (h : FitArgs Try.prog [25, 3, 3] avs) : specF (ι := Zn × Int × Int) (fun x => [.agg x.1.cells, I x.2.1, I x.2.2]) (fun _ => retOf [B true]) avs = some (B true) := by
  match avs, h with
  | [x, y, w], h =>
    simp only [FitArgs] at h
    obtain ⟨z, rfl⟩ := arg_zone h.1
    obtain ⟨b, rfl, _⟩ := arg_int h.2.1
    obtain ⟨c, rfl, _⟩ := arg_int h.2.2.1
    exact specF_eq (A := fun x : Zn × Int × Int => [.agg x.1.cells, I x.2.1, I x.2.2]) (R := fun _ => retOf [B true]) (z, b, c) fun _ _ => rfl
  | [], h => simp [FitArgs] at h
  | [_], h => simp [FitArgs] at h
  | [_, _], h => simp [FitArgs] at h
  | _ :: _ :: _ :: _ :: _, h => simp [FitArgs] at h
theorem builds_F (avs : List AV) (h : FitArgs Try.prog [25, 22] avs) : specF (ι := {x : Zn × List Int // x.2.length ≤ maxLen}) (fun x => [.agg x.1.1.cells, .rd 1 (irows x.1.2)]) (fun _ => retOf [B true]) avs = some (B true) := by
  match avs, h with
  | [x, y], h =>
    simp only [FitArgs] at h
    obtain ⟨z, rfl⟩ := arg_zone h.1
    obtain ⟨l, rfl, hl⟩ := arg_ints h.2.1
    exact specF_eq (ι := {x : Zn × List Int // x.2.length ≤ maxLen}) (A := fun x => [.agg x.1.1.cells, .rd 1 (irows x.1.2)]) (R := fun _ => retOf [B true]) ⟨(z, l), hl⟩ fun _ _ => rfl
  | [], h => simp [FitArgs] at h
  | [_], h => simp [FitArgs] at h
  | _ :: _ :: _ :: _, h => simp [FitArgs] at h
end Go.AM
