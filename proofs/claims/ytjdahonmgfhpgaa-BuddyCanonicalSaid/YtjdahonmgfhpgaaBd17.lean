/- buddy.put: it joins a block with its partners and puts it in its place. -/
import Derived.Test.YtjdahonmgfhpgaaBdQ
import Derived.Test.YtjdahonmgfhpgaaBd14
import Derived.Test.YtjdahonmgfhpgaaAmZa
set_option linter.all false

namespace Go.AM
open Go Go.Proofs

theorem sh62 : True := trivial
theorem take_irows (l : List Int) : List.take l.length (irows l) = irows l := by rw [irows_take, List.take_length]

theorem F42_at {z : Zn} {f : Int} {k : Nat} (h : rangesZ z) (hk : k ≤ 5) : F42 [.agg z.cells, I f, I (k : Int)] = some (B (insideZ z f k)) :=
  specF_eq (ι := {x : Zn × Int × Nat // rangesZ x.1 ∧ x.2.2 ≤ 5}) (A := fun x => [.agg x.1.1.cells, I x.1.2.1, I x.1.2.2]) (R := fun x => retOf [B (insideZ x.1.1 x.1.2.1 x.1.2.2)]) ⟨(z, f, k), h, hk⟩ (by
    rintro ⟨⟨a, b, c⟩, h⟩ e
    simp [Zn.cells_inj, Int.ofNat_inj] at e
    obtain ⟨rfl, rfl, rfl⟩ := e; rfl)
theorem F43_at {l : List Int} {x : Int} (h : Sorted l) (h2 : l.length ≤ 1000000) : F43 [.rd 1 (irows l), I x] = some (.tup [I (below l x), B (x ∈ l)]) :=
  specF_eq (ι := {x : List Int × Int // Sorted x.1 ∧ x.1.length ≤ 1000000}) (A := fun x => [.rd 1 (irows x.1.1), I x.1.2]) (R := fun x => retOf [I (below x.1.1 x.1.2), B (x.1.2 ∈ x.1.1)]) ⟨(l, x), h, h2⟩ (by
    rintro ⟨⟨a, b⟩, h⟩ e
    simp [irows_inj] at e
    obtain ⟨rfl, rfl⟩ := e; rfl)
theorem unI_irows (l : List Int) : unI (irows l) = some l := by
  induction l with
  | nil => rfl
  | cons a r ih => simp only [irows, List.map_cons, unI] at ih ⊢; rw [ih]
theorem delF_at {l : List Int} {x : Int} (h : Sorted l) (hx : x ∈ l) (h2 : l.length ≤ 1000000) : delF (.ow 1 (irows l)) [I (below l x), I ((below l x : Int) + 1)] = some (.ow 1 (irows (delI l x)), .any) := by
  have := below_lt h hx
  unfold delF
  simp only [unI_irows]
  rw [if_pos (by omega)]
  simp [delI]
theorem insF_at {l : List Int} {x : Int} (h2 : l.length ≤ 1000000) : insF (.ow 1 (irows l)) [I (below l x), .rd 1 [[I x]]] = some (.ow 1 (irows (insI l x)), .any) := by
  have := below_le l x
  unfold insF
  simp only [unI_irows, unI]
  rw [if_pos (by simp; omega)]
  simp [insI]

def Zn.ocells (z : Zn) : List AV := [I z.node, I z.kind, I z.start, I z.count, I z.least, .ow 1 (irows z.f0), .ow 1 (irows z.f1), .ow 1 (irows z.f2), .ow 1 (irows z.f3), .ow 1 (irows z.f4)]

def okPut (z : Zn) : Prop := rangesZ z ∧ (∀ k, k ≤ 4 → Sorted (z.fr k)) ∧ small z

theorem par_nonneg {f : Int} {k : Nat} (h : 0 ≤ f) : 0 ≤ par f k := by
  unfold par
  have h1 : 0 ≤ f / 2 ^ (k + 1) := Int.ediv_nonneg h (by have := pow_pos' (k := k + 1); omega)
  have h2 : (0 : Int) ≤ 2 ^ (k + 1) * (f / 2 ^ (k + 1)) := Int.mul_nonneg (by have := pow_pos' (k := k + 1); omega) h1
  have h3 := Int.mul_ediv_add_emod f (2 ^ (k + 1))
  omega

theorem F42_x {z : Zn} (h : rangesZ z) {k : Nat} (hk : k ≤ 5) (l0 l1 l2 l3 l4 : List Int) (g : Int) : F42 [.agg [I z.node, I z.kind, I z.start, I z.count, I z.least, .rd 1 (irows l0), .rd 1 (irows l1), .rd 1 (irows l2), .rd 1 (irows l3), .rd 1 (irows l4)], I g, I (k : Int)] = some (B (insideZ z g k)) :=
  F42_at (z := ⟨z.node, z.kind, z.start, z.count, z.least, l0, l1, l2, l3, l4⟩) (f := g) h hk

theorem insideZ_set {z : Zn} {k : Nat} {l : List Int} {f : Int} {j : Nat} : insideZ (z.set k l) f j ↔ insideZ z f j := sameP.set.inside

set_option maxRecDepth 20000 in
set_option maxHeartbeats 4000000 in
theorem s48_4 (X : AX) (hX : XOK Try.prog X) (hw : X.W wT) (h42 : X.call 42 = callP F42) (h43 : X.call 43 = callP F43) (h51 : X.call 51 = callM false one1 insF) (h53 : X.call 53 = callM false one1 delF) (z : Zn) (f : Int) (hz : okPut z) (h0 : 0 ≤ f) (h1 : f < 256) (hfk : f % 2 ^ 4 = 0) (w0 : World) (bl : List Nat) (E : Env) :
    AW ⟨Try.prog, X, 88, w0, ⟨bl, E, (openArg 0 (.rf z.ocells)).2.2⟩⟩ (Try.f48.body.getD .skip) ⟨enterS ((openArg 0 (.rf z.ocells)).1 :: [I f, I 4]), (openArg 0 (.rf z.ocells)).2.1, (openArg 0 (.rf z.ocells)).2.2⟩ (fun e st => (e = .normal ∨ e = .ret) ∧ LeavesM (Types Try.prog) Try.f48.results.toList st (openArg 0 (.rf z.ocells)).1 [] (.rf (putZ 0 z f 4).ocells)) := by
  obtain ⟨hr, hs, hl⟩ := hz
  have hs4 : Sorted z.f4 := hs 4 (by omega)
  have hl4 : z.f4.length ≤ 1000 := hl 4 (by omega)
  have hc : Cx.OK ⟨Try.prog, X, 88, w0, ⟨bl, E, (openArg 0 (.rf z.ocells)).2.2⟩⟩ := ⟨hX, mixed⟩
  simp only [Try.f48, Option.getD_some]
  simp [Zn.ocells, openArg]
  refine aw_seq_k fun K hK => aw_block (aw_rounds 1 (aw_round ?_))
  repeat' (first | (apply aw_seq_k; intro K hK) | (refine aw_run hc (by first | exact aw_nod | (intro _; rw [ordB_w hw]; kernel_rfl) | (intro _; kernel_rfl)) ?_; simp [List.zipIdx, h42, h43, h51, h53, take_irows, callM, giveArg, takeArg, one1, bits64, -getM, getM_hit, getM_miss, getM_none]; (repeat (simp (disch := first | omega | assumption | fail) only [if_pos, if_neg, wrap64, F43_at, insF_at, delF_at]; try simp [List.zipIdx, h42, h43, h51, h53, take_irows, callM, giveArg, takeArg, one1, bits64, -getM, getM_hit, getM_miss, getM_none])); try (repeat' (refine guardQ_split (fun h => ?_) (fun h => ?_) <;> simp at h <;> (simp [List.zipIdx, h42, h43, h51, h53, take_irows, callM, giveArg, takeArg, one1, bits64, -getM, getM_hit, getM_miss, getM_none]; (repeat (simp (disch := first | omega | assumption | fail) only [if_pos, if_neg, wrap64, F43_at, insF_at, delF_at]; try simp [List.zipIdx, h42, h43, h51, h53, take_irows, callM, giveArg, takeArg, one1, bits64, -getM, getM_hit, getM_miss, getM_none])))))) | (refine aw_cond (b := _) (by exact rfl) (fun h => ?_) (fun h => ?_) <;> (try simp at h)) | (refine aw_block ?_) | (refine aw_skip ?_; simp only [thenQ, blockQ, if_true]) | (refine aw_exit ?_; simp [thenQ, blockQ]) | (refine aw_ret ?_; simp only [thenQ, blockQ]) | (refine aw_round ?_) | (refine hK _ ?_; clear hK) | (clear hK; refine hK _ ?_; clear hK) | (clear hK; clear hK; refine hK _ ?_; clear hK) | (clear hK; clear hK; clear hK; refine hK _ ?_; clear hK))
  all_goals refine leavesM_out ?_
  all_goals simp only [putZ, insideZ_set]
  all_goals simp [leaveArg, Zn.set, Zn.fr, take_irows, *]

set_option maxRecDepth 20000 in
set_option maxHeartbeats 4000000 in
theorem s48_3 (X : AX) (hX : XOK Try.prog X) (hw : X.W wT) (h42 : X.call 42 = callP F42) (h43 : X.call 43 = callP F43) (h51 : X.call 51 = callM false one1 insF) (h53 : X.call 53 = callM false one1 delF) (z : Zn) (f : Int) (hz : okPut z) (h0 : 0 ≤ f) (h1 : f < 256) (hfk : f % 2 ^ 3 = 0) (w0 : World) (bl : List Nat) (E : Env) :
    AW ⟨Try.prog, X, 88, w0, ⟨bl, E, (openArg 0 (.rf z.ocells)).2.2⟩⟩ (Try.f48.body.getD .skip) ⟨enterS ((openArg 0 (.rf z.ocells)).1 :: [I f, I 3]), (openArg 0 (.rf z.ocells)).2.1, (openArg 0 (.rf z.ocells)).2.2⟩ (fun e st => (e = .normal ∨ e = .ret) ∧ LeavesM (Types Try.prog) Try.f48.results.toList st (openArg 0 (.rf z.ocells)).1 [] (.rf (putZ 1 z f 3).ocells)) := by
  obtain ⟨hr, hs, hl⟩ := hz
  have hs3 : Sorted z.f3 := hs 3 (by omega)
  have hl3 : z.f3.length ≤ 1000 := hl 3 (by omega)
  have hs4 : Sorted z.f4 := hs 4 (by omega)
  have hl4 : z.f4.length ≤ 1000 := hl 4 (by omega)
  have hq3 : 0 ≤ f ∧ f < 256 ∧ f % 2 ^ 3 = 0 := ⟨h0, h1, hfk⟩
  have hx3 : bitI .xor .i64 f 8 = mate f 3 := by
    rw [show (8 : Int) = 2 ^ 3 from rfl]
    exact xor_mate hq3.1 hq3.2.1 (by omega)
  have hm3 : min f (mate f 3) = par f 3 := (mate_facts (by omega) hq3.2.2).1
  have hb3 := below_le z.f3 (mate f 3)
  have hi3 := F42_x hr (show 4 ≤ 5 by omega)
  rw [show ((4 : Nat) : Int) = 4 from rfl] at hi3
  have hc : Cx.OK ⟨Try.prog, X, 88, w0, ⟨bl, E, (openArg 0 (.rf z.ocells)).2.2⟩⟩ := ⟨hX, mixed⟩
  simp only [Try.f48, Option.getD_some]
  simp [Zn.ocells, openArg]
  refine aw_seq_k fun K hK => aw_block (aw_rounds 2 (aw_round ?_))
  repeat' (first | (apply aw_seq_k; intro K hK) | (refine aw_run hc (by first | exact aw_nod | (intro _; rw [ordB_w hw]; kernel_rfl) | (intro _; kernel_rfl)) ?_; simp [List.zipIdx, h42, h43, h51, h53, take_irows, callM, giveArg, takeArg, one1, bits64, hx3, hm3, hi3, -getM, getM_hit, getM_miss, getM_none]; (repeat (simp (disch := first | omega | assumption | fail) only [if_pos, if_neg, wrap64, F43_at, insF_at, delF_at]; try simp [List.zipIdx, h42, h43, h51, h53, take_irows, callM, giveArg, takeArg, one1, bits64, hx3, hm3, hi3, -getM, getM_hit, getM_miss, getM_none])); try (repeat' (refine guardQ_split (fun h => ?_) (fun h => ?_) <;> simp at h <;> (simp [List.zipIdx, h42, h43, h51, h53, take_irows, callM, giveArg, takeArg, one1, bits64, hx3, hm3, hi3, -getM, getM_hit, getM_miss, getM_none]; (repeat (simp (disch := first | omega | assumption | fail) only [if_pos, if_neg, wrap64, F43_at, insF_at, delF_at]; try simp [List.zipIdx, h42, h43, h51, h53, take_irows, callM, giveArg, takeArg, one1, bits64, hx3, hm3, hi3, -getM, getM_hit, getM_miss, getM_none])))))) | (refine aw_cond (b := _) (by exact rfl) (fun h => ?_) (fun h => ?_) <;> (try simp at h)) | (refine aw_block ?_) | (refine aw_skip ?_; simp only [thenQ, blockQ, if_true]) | (refine aw_exit ?_; simp [thenQ, blockQ]) | (refine aw_ret ?_; simp only [thenQ, blockQ]) | (refine aw_round ?_) | (refine hK _ ?_; clear hK) | (clear hK; refine hK _ ?_; clear hK) | (clear hK; clear hK; refine hK _ ?_; clear hK) | (clear hK; clear hK; clear hK; refine hK _ ?_; clear hK))
  all_goals refine leavesM_out ?_
  all_goals simp only [putZ, insideZ_set]
  all_goals simp [leaveArg, Zn.set, Zn.fr, take_irows, *]

set_option maxRecDepth 20000 in
set_option maxHeartbeats 4000000 in
theorem s48_2 (X : AX) (hX : XOK Try.prog X) (hw : X.W wT) (h42 : X.call 42 = callP F42) (h43 : X.call 43 = callP F43) (h51 : X.call 51 = callM false one1 insF) (h53 : X.call 53 = callM false one1 delF) (z : Zn) (f : Int) (hz : okPut z) (h0 : 0 ≤ f) (h1 : f < 256) (hfk : f % 2 ^ 2 = 0) (w0 : World) (bl : List Nat) (E : Env) :
    AW ⟨Try.prog, X, 88, w0, ⟨bl, E, (openArg 0 (.rf z.ocells)).2.2⟩⟩ (Try.f48.body.getD .skip) ⟨enterS ((openArg 0 (.rf z.ocells)).1 :: [I f, I 2]), (openArg 0 (.rf z.ocells)).2.1, (openArg 0 (.rf z.ocells)).2.2⟩ (fun e st => (e = .normal ∨ e = .ret) ∧ LeavesM (Types Try.prog) Try.f48.results.toList st (openArg 0 (.rf z.ocells)).1 [] (.rf (putZ 2 z f 2).ocells)) := by
  obtain ⟨hr, hs, hl⟩ := hz
  have hs2 : Sorted z.f2 := hs 2 (by omega)
  have hl2 : z.f2.length ≤ 1000 := hl 2 (by omega)
  have hs3 : Sorted z.f3 := hs 3 (by omega)
  have hl3 : z.f3.length ≤ 1000 := hl 3 (by omega)
  have hs4 : Sorted z.f4 := hs 4 (by omega)
  have hl4 : z.f4.length ≤ 1000 := hl 4 (by omega)
  have hq2 : 0 ≤ f ∧ f < 256 ∧ f % 2 ^ 2 = 0 := ⟨h0, h1, hfk⟩
  have hx2 : bitI .xor .i64 f 4 = mate f 2 := by
    rw [show (4 : Int) = 2 ^ 2 from rfl]
    exact xor_mate hq2.1 hq2.2.1 (by omega)
  have hm2 : min f (mate f 2) = par f 2 := (mate_facts (by omega) hq2.2.2).1
  have hb2 := below_le z.f2 (mate f 2)
  have hi2 := F42_x hr (show 3 ≤ 5 by omega)
  rw [show ((3 : Nat) : Int) = 3 from rfl] at hi2
  have hq3 : 0 ≤ (par f 2) ∧ (par f 2) < 256 ∧ (par f 2) % 2 ^ 3 = 0 := by
    have h2 := par_facts (show 2 < 4 by omega) hq2.2.2
    have h3 := par_nonneg (k := 2) hq2.1
    exact ⟨h3, by omega, h2.1⟩
  have hx3 : bitI .xor .i64 (par f 2) 8 = mate (par f 2) 3 := by
    rw [show (8 : Int) = 2 ^ 3 from rfl]
    exact xor_mate hq3.1 hq3.2.1 (by omega)
  have hm3 : min (par f 2) (mate (par f 2) 3) = par (par f 2) 3 := (mate_facts (by omega) hq3.2.2).1
  have hb3 := below_le z.f3 (mate (par f 2) 3)
  have hi3 := F42_x hr (show 4 ≤ 5 by omega)
  rw [show ((4 : Nat) : Int) = 4 from rfl] at hi3
  have hc : Cx.OK ⟨Try.prog, X, 88, w0, ⟨bl, E, (openArg 0 (.rf z.ocells)).2.2⟩⟩ := ⟨hX, mixed⟩
  simp only [Try.f48, Option.getD_some]
  simp [Zn.ocells, openArg]
  refine aw_seq_k fun K hK => aw_block (aw_rounds 3 (aw_round ?_))
  repeat' (first | (apply aw_seq_k; intro K hK) | (refine aw_run hc (by first | exact aw_nod | (intro _; rw [ordB_w hw]; kernel_rfl) | (intro _; kernel_rfl)) ?_; simp [List.zipIdx, h42, h43, h51, h53, take_irows, callM, giveArg, takeArg, one1, bits64, hx2, hx3, hm2, hm3, hi2, hi3, -getM, getM_hit, getM_miss, getM_none]; (repeat (simp (disch := first | omega | assumption | fail) only [if_pos, if_neg, wrap64, F43_at, insF_at, delF_at]; try simp [List.zipIdx, h42, h43, h51, h53, take_irows, callM, giveArg, takeArg, one1, bits64, hx2, hx3, hm2, hm3, hi2, hi3, -getM, getM_hit, getM_miss, getM_none])); try (repeat' (refine guardQ_split (fun h => ?_) (fun h => ?_) <;> simp at h <;> (simp [List.zipIdx, h42, h43, h51, h53, take_irows, callM, giveArg, takeArg, one1, bits64, hx2, hx3, hm2, hm3, hi2, hi3, -getM, getM_hit, getM_miss, getM_none]; (repeat (simp (disch := first | omega | assumption | fail) only [if_pos, if_neg, wrap64, F43_at, insF_at, delF_at]; try simp [List.zipIdx, h42, h43, h51, h53, take_irows, callM, giveArg, takeArg, one1, bits64, hx2, hx3, hm2, hm3, hi2, hi3, -getM, getM_hit, getM_miss, getM_none])))))) | (refine aw_cond (b := _) (by exact rfl) (fun h => ?_) (fun h => ?_) <;> (try simp at h)) | (refine aw_block ?_) | (refine aw_skip ?_; simp only [thenQ, blockQ, if_true]) | (refine aw_exit ?_; simp [thenQ, blockQ]) | (refine aw_ret ?_; simp only [thenQ, blockQ]) | (refine aw_round ?_) | (refine hK _ ?_; clear hK) | (clear hK; refine hK _ ?_; clear hK) | (clear hK; clear hK; refine hK _ ?_; clear hK) | (clear hK; clear hK; clear hK; refine hK _ ?_; clear hK))
  all_goals refine leavesM_out ?_
  all_goals simp only [putZ, insideZ_set]
  all_goals simp [leaveArg, Zn.set, Zn.fr, take_irows, *]

set_option maxRecDepth 20000 in
set_option maxHeartbeats 4000000 in
theorem s48_1 (X : AX) (hX : XOK Try.prog X) (hw : X.W wT) (h42 : X.call 42 = callP F42) (h43 : X.call 43 = callP F43) (h51 : X.call 51 = callM false one1 insF) (h53 : X.call 53 = callM false one1 delF) (z : Zn) (f : Int) (hz : okPut z) (h0 : 0 ≤ f) (h1 : f < 256) (hfk : f % 2 ^ 1 = 0) (w0 : World) (bl : List Nat) (E : Env) :
    AW ⟨Try.prog, X, 88, w0, ⟨bl, E, (openArg 0 (.rf z.ocells)).2.2⟩⟩ (Try.f48.body.getD .skip) ⟨enterS ((openArg 0 (.rf z.ocells)).1 :: [I f, I 1]), (openArg 0 (.rf z.ocells)).2.1, (openArg 0 (.rf z.ocells)).2.2⟩ (fun e st => (e = .normal ∨ e = .ret) ∧ LeavesM (Types Try.prog) Try.f48.results.toList st (openArg 0 (.rf z.ocells)).1 [] (.rf (putZ 3 z f 1).ocells)) := by
  obtain ⟨hr, hs, hl⟩ := hz
  have hs1 : Sorted z.f1 := hs 1 (by omega)
  have hl1 : z.f1.length ≤ 1000 := hl 1 (by omega)
  have hs2 : Sorted z.f2 := hs 2 (by omega)
  have hl2 : z.f2.length ≤ 1000 := hl 2 (by omega)
  have hs3 : Sorted z.f3 := hs 3 (by omega)
  have hl3 : z.f3.length ≤ 1000 := hl 3 (by omega)
  have hs4 : Sorted z.f4 := hs 4 (by omega)
  have hl4 : z.f4.length ≤ 1000 := hl 4 (by omega)
  have hq1 : 0 ≤ f ∧ f < 256 ∧ f % 2 ^ 1 = 0 := ⟨h0, h1, hfk⟩
  have hx1 : bitI .xor .i64 f 2 = mate f 1 := by
    rw [show (2 : Int) = 2 ^ 1 from rfl]
    exact xor_mate hq1.1 hq1.2.1 (by omega)
  have hm1 : min f (mate f 1) = par f 1 := (mate_facts (by omega) hq1.2.2).1
  have hb1 := below_le z.f1 (mate f 1)
  have hi1 := F42_x hr (show 2 ≤ 5 by omega)
  rw [show ((2 : Nat) : Int) = 2 from rfl] at hi1
  have hq2 : 0 ≤ (par f 1) ∧ (par f 1) < 256 ∧ (par f 1) % 2 ^ 2 = 0 := by
    have h2 := par_facts (show 1 < 4 by omega) hq1.2.2
    have h3 := par_nonneg (k := 1) hq1.1
    exact ⟨h3, by omega, h2.1⟩
  have hx2 : bitI .xor .i64 (par f 1) 4 = mate (par f 1) 2 := by
    rw [show (4 : Int) = 2 ^ 2 from rfl]
    exact xor_mate hq2.1 hq2.2.1 (by omega)
  have hm2 : min (par f 1) (mate (par f 1) 2) = par (par f 1) 2 := (mate_facts (by omega) hq2.2.2).1
  have hb2 := below_le z.f2 (mate (par f 1) 2)
  have hi2 := F42_x hr (show 3 ≤ 5 by omega)
  rw [show ((3 : Nat) : Int) = 3 from rfl] at hi2
  have hq3 : 0 ≤ (par (par f 1) 2) ∧ (par (par f 1) 2) < 256 ∧ (par (par f 1) 2) % 2 ^ 3 = 0 := by
    have h2 := par_facts (show 2 < 4 by omega) hq2.2.2
    have h3 := par_nonneg (k := 2) hq2.1
    exact ⟨h3, by omega, h2.1⟩
  have hx3 : bitI .xor .i64 (par (par f 1) 2) 8 = mate (par (par f 1) 2) 3 := by
    rw [show (8 : Int) = 2 ^ 3 from rfl]
    exact xor_mate hq3.1 hq3.2.1 (by omega)
  have hm3 : min (par (par f 1) 2) (mate (par (par f 1) 2) 3) = par (par (par f 1) 2) 3 := (mate_facts (by omega) hq3.2.2).1
  have hb3 := below_le z.f3 (mate (par (par f 1) 2) 3)
  have hi3 := F42_x hr (show 4 ≤ 5 by omega)
  rw [show ((4 : Nat) : Int) = 4 from rfl] at hi3
  have hc : Cx.OK ⟨Try.prog, X, 88, w0, ⟨bl, E, (openArg 0 (.rf z.ocells)).2.2⟩⟩ := ⟨hX, mixed⟩
  simp only [Try.f48, Option.getD_some]
  simp [Zn.ocells, openArg]
  refine aw_seq_k fun K hK => aw_block (aw_rounds 4 (aw_round ?_))
  repeat' (first | (apply aw_seq_k; intro K hK) | (refine aw_run hc (by first | exact aw_nod | (intro _; rw [ordB_w hw]; kernel_rfl) | (intro _; kernel_rfl)) ?_; simp [List.zipIdx, h42, h43, h51, h53, take_irows, callM, giveArg, takeArg, one1, bits64, hx1, hx2, hx3, hm1, hm2, hm3, hi1, hi2, hi3, -getM, getM_hit, getM_miss, getM_none]; (repeat (simp (disch := first | omega | assumption | fail) only [if_pos, if_neg, wrap64, F43_at, insF_at, delF_at]; try simp [List.zipIdx, h42, h43, h51, h53, take_irows, callM, giveArg, takeArg, one1, bits64, hx1, hx2, hx3, hm1, hm2, hm3, hi1, hi2, hi3, -getM, getM_hit, getM_miss, getM_none])); try (repeat' (refine guardQ_split (fun h => ?_) (fun h => ?_) <;> simp at h <;> (simp [List.zipIdx, h42, h43, h51, h53, take_irows, callM, giveArg, takeArg, one1, bits64, hx1, hx2, hx3, hm1, hm2, hm3, hi1, hi2, hi3, -getM, getM_hit, getM_miss, getM_none]; (repeat (simp (disch := first | omega | assumption | fail) only [if_pos, if_neg, wrap64, F43_at, insF_at, delF_at]; try simp [List.zipIdx, h42, h43, h51, h53, take_irows, callM, giveArg, takeArg, one1, bits64, hx1, hx2, hx3, hm1, hm2, hm3, hi1, hi2, hi3, -getM, getM_hit, getM_miss, getM_none])))))) | (refine aw_cond (b := _) (by exact rfl) (fun h => ?_) (fun h => ?_) <;> (try simp at h)) | (refine aw_block ?_) | (refine aw_skip ?_; simp only [thenQ, blockQ, if_true]) | (refine aw_exit ?_; simp [thenQ, blockQ]) | (refine aw_ret ?_; simp only [thenQ, blockQ]) | (refine aw_round ?_) | (refine hK _ ?_; clear hK) | (clear hK; refine hK _ ?_; clear hK) | (clear hK; clear hK; refine hK _ ?_; clear hK) | (clear hK; clear hK; clear hK; refine hK _ ?_; clear hK))
  all_goals refine leavesM_out ?_
  all_goals simp only [putZ, insideZ_set]
  all_goals simp [leaveArg, Zn.set, Zn.fr, take_irows, *]

set_option maxRecDepth 20000 in
set_option maxHeartbeats 4000000 in
theorem s48_0 (X : AX) (hX : XOK Try.prog X) (hw : X.W wT) (h42 : X.call 42 = callP F42) (h43 : X.call 43 = callP F43) (h51 : X.call 51 = callM false one1 insF) (h53 : X.call 53 = callM false one1 delF) (z : Zn) (f : Int) (hz : okPut z) (h0 : 0 ≤ f) (h1 : f < 256) (hfk : f % 2 ^ 0 = 0) (w0 : World) (bl : List Nat) (E : Env) :
    AW ⟨Try.prog, X, 88, w0, ⟨bl, E, (openArg 0 (.rf z.ocells)).2.2⟩⟩ (Try.f48.body.getD .skip) ⟨enterS ((openArg 0 (.rf z.ocells)).1 :: [I f, I 0]), (openArg 0 (.rf z.ocells)).2.1, (openArg 0 (.rf z.ocells)).2.2⟩ (fun e st => (e = .normal ∨ e = .ret) ∧ LeavesM (Types Try.prog) Try.f48.results.toList st (openArg 0 (.rf z.ocells)).1 [] (.rf (putZ 4 z f 0).ocells)) := by
  obtain ⟨hr, hs, hl⟩ := hz
  have hs0 : Sorted z.f0 := hs 0 (by omega)
  have hl0 : z.f0.length ≤ 1000 := hl 0 (by omega)
  have hs1 : Sorted z.f1 := hs 1 (by omega)
  have hl1 : z.f1.length ≤ 1000 := hl 1 (by omega)
  have hs2 : Sorted z.f2 := hs 2 (by omega)
  have hl2 : z.f2.length ≤ 1000 := hl 2 (by omega)
  have hs3 : Sorted z.f3 := hs 3 (by omega)
  have hl3 : z.f3.length ≤ 1000 := hl 3 (by omega)
  have hs4 : Sorted z.f4 := hs 4 (by omega)
  have hl4 : z.f4.length ≤ 1000 := hl 4 (by omega)
  have hq0 : 0 ≤ f ∧ f < 256 ∧ f % 2 ^ 0 = 0 := ⟨h0, h1, hfk⟩
  have hx0 : bitI .xor .i64 f 1 = mate f 0 := by
    rw [show (1 : Int) = 2 ^ 0 from rfl]
    exact xor_mate hq0.1 hq0.2.1 (by omega)
  have hm0 : min f (mate f 0) = par f 0 := (mate_facts (by omega) hq0.2.2).1
  have hb0 := below_le z.f0 (mate f 0)
  have hi0 := F42_x hr (show 1 ≤ 5 by omega)
  rw [show ((1 : Nat) : Int) = 1 from rfl] at hi0
  have hq1 : 0 ≤ (par f 0) ∧ (par f 0) < 256 ∧ (par f 0) % 2 ^ 1 = 0 := by
    have h2 := par_facts (show 0 < 4 by omega) hq0.2.2
    have h3 := par_nonneg (k := 0) hq0.1
    exact ⟨h3, by omega, h2.1⟩
  have hx1 : bitI .xor .i64 (par f 0) 2 = mate (par f 0) 1 := by
    rw [show (2 : Int) = 2 ^ 1 from rfl]
    exact xor_mate hq1.1 hq1.2.1 (by omega)
  have hm1 : min (par f 0) (mate (par f 0) 1) = par (par f 0) 1 := (mate_facts (by omega) hq1.2.2).1
  have hb1 := below_le z.f1 (mate (par f 0) 1)
  have hi1 := F42_x hr (show 2 ≤ 5 by omega)
  rw [show ((2 : Nat) : Int) = 2 from rfl] at hi1
  have hq2 : 0 ≤ (par (par f 0) 1) ∧ (par (par f 0) 1) < 256 ∧ (par (par f 0) 1) % 2 ^ 2 = 0 := by
    have h2 := par_facts (show 1 < 4 by omega) hq1.2.2
    have h3 := par_nonneg (k := 1) hq1.1
    exact ⟨h3, by omega, h2.1⟩
  have hx2 : bitI .xor .i64 (par (par f 0) 1) 4 = mate (par (par f 0) 1) 2 := by
    rw [show (4 : Int) = 2 ^ 2 from rfl]
    exact xor_mate hq2.1 hq2.2.1 (by omega)
  have hm2 : min (par (par f 0) 1) (mate (par (par f 0) 1) 2) = par (par (par f 0) 1) 2 := (mate_facts (by omega) hq2.2.2).1
  have hb2 := below_le z.f2 (mate (par (par f 0) 1) 2)
  have hi2 := F42_x hr (show 3 ≤ 5 by omega)
  rw [show ((3 : Nat) : Int) = 3 from rfl] at hi2
  have hq3 : 0 ≤ (par (par (par f 0) 1) 2) ∧ (par (par (par f 0) 1) 2) < 256 ∧ (par (par (par f 0) 1) 2) % 2 ^ 3 = 0 := by
    have h2 := par_facts (show 2 < 4 by omega) hq2.2.2
    have h3 := par_nonneg (k := 2) hq2.1
    exact ⟨h3, by omega, h2.1⟩
  have hx3 : bitI .xor .i64 (par (par (par f 0) 1) 2) 8 = mate (par (par (par f 0) 1) 2) 3 := by
    rw [show (8 : Int) = 2 ^ 3 from rfl]
    exact xor_mate hq3.1 hq3.2.1 (by omega)
  have hm3 : min (par (par (par f 0) 1) 2) (mate (par (par (par f 0) 1) 2) 3) = par (par (par (par f 0) 1) 2) 3 := (mate_facts (by omega) hq3.2.2).1
  have hb3 := below_le z.f3 (mate (par (par (par f 0) 1) 2) 3)
  have hi3 := F42_x hr (show 4 ≤ 5 by omega)
  rw [show ((4 : Nat) : Int) = 4 from rfl] at hi3
  have hc : Cx.OK ⟨Try.prog, X, 88, w0, ⟨bl, E, (openArg 0 (.rf z.ocells)).2.2⟩⟩ := ⟨hX, mixed⟩
  simp only [Try.f48, Option.getD_some]
  simp [Zn.ocells, openArg]
  refine aw_seq_k fun K hK => aw_block (aw_rounds 5 (aw_round ?_))
  repeat' (first | (apply aw_seq_k; intro K hK) | (refine aw_run hc (by first | exact aw_nod | (intro _; rw [ordB_w hw]; kernel_rfl) | (intro _; kernel_rfl)) ?_; simp [List.zipIdx, h42, h43, h51, h53, take_irows, callM, giveArg, takeArg, one1, bits64, hx0, hx1, hx2, hx3, hm0, hm1, hm2, hm3, hi0, hi1, hi2, hi3, -getM, getM_hit, getM_miss, getM_none]; (repeat (simp (disch := first | omega | assumption | fail) only [if_pos, if_neg, wrap64, F43_at, insF_at, delF_at]; try simp [List.zipIdx, h42, h43, h51, h53, take_irows, callM, giveArg, takeArg, one1, bits64, hx0, hx1, hx2, hx3, hm0, hm1, hm2, hm3, hi0, hi1, hi2, hi3, -getM, getM_hit, getM_miss, getM_none])); try (repeat' (refine guardQ_split (fun h => ?_) (fun h => ?_) <;> simp at h <;> (simp [List.zipIdx, h42, h43, h51, h53, take_irows, callM, giveArg, takeArg, one1, bits64, hx0, hx1, hx2, hx3, hm0, hm1, hm2, hm3, hi0, hi1, hi2, hi3, -getM, getM_hit, getM_miss, getM_none]; (repeat (simp (disch := first | omega | assumption | fail) only [if_pos, if_neg, wrap64, F43_at, insF_at, delF_at]; try simp [List.zipIdx, h42, h43, h51, h53, take_irows, callM, giveArg, takeArg, one1, bits64, hx0, hx1, hx2, hx3, hm0, hm1, hm2, hm3, hi0, hi1, hi2, hi3, -getM, getM_hit, getM_miss, getM_none])))))) | (refine aw_cond (b := _) (by exact rfl) (fun h => ?_) (fun h => ?_) <;> (try simp at h)) | (refine aw_block ?_) | (refine aw_skip ?_; simp only [thenQ, blockQ, if_true]) | (refine aw_exit ?_; simp [thenQ, blockQ]) | (refine aw_ret ?_; simp only [thenQ, blockQ]) | (refine aw_round ?_) | (refine hK _ ?_; clear hK) | (clear hK; refine hK _ ?_; clear hK) | (clear hK; clear hK; refine hK _ ?_; clear hK) | (clear hK; clear hK; clear hK; refine hK _ ?_; clear hK))
  all_goals refine leavesM_out ?_
  all_goals simp only [putZ, insideZ_set]
  all_goals simp [leaveArg, Zn.set, Zn.fr, take_irows, *]
end Go.AM
