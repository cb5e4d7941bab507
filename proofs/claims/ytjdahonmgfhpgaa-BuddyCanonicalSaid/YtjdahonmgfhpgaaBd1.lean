/- A part of the proof: what functions of the program compute, by abstract execution of their code. Its theorems hold without further condition. -/
import Derived.Test.YtjdahonmgfhpgaaAmT
import Derived.Test.YtjdahonmgfhpgaaProg
import Derived.ProofKit
set_option linter.all false
namespace Go.AM
open Go Go.Proofs

@[simp] theorem ty3 : Types Try.prog 3 = some ⟨.int .i64, 1, 8, [.int .i64 0]⟩ := by kernel_rfl
@[simp] theorem ty4 : Types Try.prog 4 = some ⟨.bool, 1, 1, [.bool false]⟩ := by kernel_rfl
@[simp] theorem ty22 : Types Try.prog 22 = some ⟨.slice 3, 1, 24, [.slice none 0 0]⟩ := by kernel_rfl
@[simp] theorem ty23 : Types Try.prog 23 = some ⟨.array 5 22, 5, 120, [.slice none 0 0,.slice none 0 0,.slice none 0 0,.slice none 0 0,.slice none 0 0]⟩ := by kernel_rfl
@[simp] theorem ty25 : Types Try.prog 25 = some ⟨.struct [(0, 3, 1), (1, 3, 1), (2, 3, 1), (3, 3, 1), (4, 3, 1), (5, 23, 5)], 10, 160, [.int .i64 0,.int .i64 0,.int .i64 0,.int .i64 0,.int .i64 0,.slice none 0 0,.slice none 0 0,.slice none 0 0,.slice none 0 0,.slice none 0 0]⟩ := by kernel_rfl
theorem mixed : Try.prog.follows .mixedOrders = true := by kernel_rfl

structure Zn where
  node : Int
  kind : Int
  start : Int
  count : Int
  least : Int
  f0 : List Int
  f1 : List Int
  f2 : List Int
  f3 : List Int
  f4 : List Int

def Zn.fr (z : Zn) (k : Nat) : List Int := [z.f0, z.f1, z.f2, z.f3, z.f4].getD k []

def Zn.cells (z : Zn) : List AV := [I z.node, I z.kind, I z.start, I z.count, I z.least, .rd 1 (irows z.f0), .rd 1 (irows z.f1), .rd 1 (irows z.f2), .rd 1 (irows z.f3), .rd 1 (irows z.f4)]
@[simp] theorem Zn.cells_len (z : Zn) : z.cells.length = 10 := rfl
@[simp] theorem Zn.c0 (z : Zn) : z.cells[0]? = some (I z.node) := rfl
@[simp] theorem Zn.c1 (z : Zn) : z.cells[1]? = some (I z.kind) := rfl
@[simp] theorem Zn.c2 (z : Zn) : z.cells[2]? = some (I z.start) := rfl
@[simp] theorem Zn.c3 (z : Zn) : z.cells[3]? = some (I z.count) := rfl
@[simp] theorem Zn.c4 (z : Zn) : z.cells[4]? = some (I z.least) := rfl
theorem Zn.cells_inj {z y : Zn} : z.cells = y.cells ↔ z = y := by
  constructor
  · intro h
    simp only [Zn.cells, List.cons.injEq, AV.v.injEq, Value.int.injEq, true_and, AV.rd.injEq, irows_inj, and_true] at h
    cases z; cases y; simp_all
  · rintro rfl; rfl

def rangesZ (z : Zn) : Prop := 0 ≤ z.node ∧ z.node < 4 ∧ (z.kind = 0 ∨ z.kind = 1) ∧ 0 ≤ z.start ∧ z.start < 256 ∧ 1 ≤ z.count ∧ z.count ≤ 256 - z.start ∧ 0 ≤ z.least ∧ z.least ≤ z.count
instance (z : Zn) : Decidable (rangesZ z) := by unfold rangesZ; infer_instance

def insideZ (z : Zn) (f : Int) (o : Nat) : Prop := z.start ≤ f ∧ f % 2^o = 0 ∧ 2^o ≤ z.count ∧ f ≤ z.start + z.count - 2^o
instance (z : Zn) (f : Int) (o : Nat) : Decidable (insideZ z f o) := by unfold insideZ; infer_instance

theorem pow_le5 {o : Nat} (ho : o ≤ 5) : (2 : Int) ^ o ≤ 32 ∧ 1 ≤ (2 : Int) ^ o := by
  have : 2 ^ o ≤ 2 ^ 5 := Nat.pow_le_pow_right (by omega) ho
  have h3 : ((2 ^ o : Nat) : Int) = (2 : Int) ^ o := by simp
  have := Nat.one_le_two_pow (n := o)
  omega

theorem s42 (X : AX) (hX : XOK Try.prog X) : PSound Try.prog 42 (specF (ι := {x : Zn × Int × Nat // rangesZ x.1 ∧ x.2.2 ≤ 5}) (fun x => [.agg x.1.1.cells, I x.1.2.1, I x.1.2.2]) fun x => retOf [B (insideZ x.1.1 x.1.2.1 x.1.2.2)]) := by
  refine psound_spec hX mixed Try.func42 rfl fun ⟨⟨z, f, o⟩, hz, ho⟩ w0 G => ⟨by show 3 ≤ 37; decide, rfl, ?_⟩
  simp only at hz ho
  have hp5 := pow_le5 ho
  have hne : (2 : Int) ^ o ≠ 0 := by omega
  unfold rangesZ at hz
  show AW ⟨Try.prog, X, 37, w0, .pure G⟩ _ _ _
  have hc : Cx.OK ⟨Try.prog, X, 37, w0, .pure G⟩ := ⟨hX, mixed⟩
  repeat' (first | (apply aw_seq_k; intro K hK) | (refine aw_run hc (by first | exact aw_nod | (intro _; rw [ordB_w hw]; kernel_rfl) | (intro _; kernel_rfl)) ?_; simp (disch := first | omega | assumption | (simp; done) | fail) [if_pos, if_neg, List.zipIdx, bits64, Nat.min_eq_left (show o ≤ 64 by omega), wrap_pow (show o ≤ 62 by omega), hne, tmod_pos, wrap64]; try (repeat' (refine guardQ_split (fun h => ?_) (fun h => ?_) <;> simp at h <;> simp (disch := first | omega | assumption | (simp; done) | fail) [if_pos, if_neg, List.zipIdx, bits64, Nat.min_eq_left (show o ≤ 64 by omega), wrap_pow (show o ≤ 62 by omega), hne, tmod_pos, wrap64]))) | (refine aw_cond (b := _) (by exact rfl) (fun h => ?_) (fun h => ?_) <;> (try simp at h)) | (refine aw_block ?_) | (refine aw_skip ?_; simp only [thenQ, blockQ, if_true]) | (refine aw_exit ?_; simp [thenQ, blockQ]) | (refine aw_ret ?_; simp only [thenQ, blockQ]) | (refine hK _ ?_; clear hK) | (clear hK; refine hK _ ?_; clear hK) | (clear hK; clear hK; refine hK _ ?_; clear hK) | (clear hK; clear hK; clear hK; refine hK _ ?_; clear hK))
  all_goals
    refine ⟨by simp, ?_⟩
    simp [leaves_iff, insideZ, Try.f42]
    try (first | omega | (refine decide_eq_decide.2 ?_; omega) | (refine decide_eq_false ?_; omega) | (refine decide_eq_true ?_; omega))

theorem s32 (X : AX) (hX : XOK Try.prog X) : PSound Try.prog 32 (specF (ι := {x : List Int × List Int // x.1.length ≤ 1000000 ∧ x.2.length ≤ 1000000}) (fun x => [.rd 1 (irows x.1.1), .rd 1 (irows x.1.2)]) fun x => retOf [B (x.1.1 = x.1.2)]) := by
  refine psound_spec hX mixed Try.func32 rfl fun ⟨⟨a, b⟩, ha, hb⟩ w0 G => ⟨by show 2 ≤ 26; decide, rfl, ?_⟩
  simp only at ha hb
  show AW ⟨Try.prog, X, 26, w0, .pure G⟩ _ _ _
  have hc : Cx.OK ⟨Try.prog, X, 26, w0, .pure G⟩ := ⟨hX, mixed⟩
  repeat' (first | (apply aw_seq_k; intro K hK) | (refine aw_run hc (by first | exact aw_nod | (intro _; rw [ordB_w hw]; kernel_rfl) | (intro _; kernel_rfl)) ?_; simp (disch := first | omega | assumption | (simp; done) | fail) [if_pos, if_neg, List.zipIdx]; try (repeat' (refine guardQ_split (fun h => ?_) (fun h => ?_) <;> simp at h <;> simp (disch := first | omega | assumption | (simp; done) | fail) [if_pos, if_neg, List.zipIdx]))) | (refine aw_cond (b := _) (by exact rfl) (fun h => ?_) (fun h => ?_) <;> (try simp at h)) | (refine aw_block ?_) | (refine aw_skip ?_; simp only [thenQ, blockQ, if_true]) | (refine aw_exit ?_; simp [thenQ, blockQ]) | (refine aw_ret ?_; simp only [thenQ, blockQ]) | (refine hK _ ?_; clear hK) | (clear hK; refine hK _ ?_; clear hK) | (clear hK; clear hK; refine hK _ ?_; clear hK) | (clear hK; clear hK; clear hK; refine hK _ ?_; clear hK))
  · refine ⟨by simp, ?_⟩
    simp [leaves_iff, Try.f32]
    try (first | omega | (refine decide_eq_decide.2 ?_; omega) | (refine decide_eq_false ?_; omega) | (refine decide_eq_true ?_; omega))
    rintro rfl; exact h rfl
  · have hl : a.length = b.length := by omega
    refine aw_loop (ι := {i : Nat // i ≤ a.length ∧ a.take i = b.take i}) (fun i => ⟨[(0, .rd 1 (irows a)), (1, .rd 1 (irows b)), (5, I i.1)], [], 0⟩) (fun i => a.length - i.1) ⟨0, by omega, by simp⟩ ?_ ?_
    · exact le_of2 (by simp) (by simp [AVle, AV.under, AV.underL] <;> omega) (by simp [AOle, AO.under, AV.underL, AV.under] <;> omega)
    · rintro ⟨i, hi, hinv⟩
      repeat' (first | (apply aw_seq_k; intro K hK) | (refine aw_run hc (by first | exact aw_nod | (intro _; rw [ordB_w hw]; kernel_rfl) | (intro _; kernel_rfl)) ?_; simp (disch := first | omega | assumption | (simp; done) | fail) [if_pos, if_neg, irows_get, wrap64]; try (repeat' (refine guardQ_split (fun h => ?_) (fun h => ?_) <;> simp at h <;> simp (disch := first | omega | assumption | (simp; done) | fail) [if_pos, if_neg, irows_get, wrap64]))) | (refine aw_cond (b := _) (by exact rfl) (fun h => ?_) (fun h => ?_) <;> (try simp at h)) | (refine aw_block ?_) | (refine aw_skip ?_; simp only [thenQ, blockQ, if_true]) | (refine aw_exit ?_; simp [thenQ, blockQ]) | (refine aw_ret ?_; simp only [thenQ, blockQ]) | (refine hK _ ?_; clear hK) | (clear hK; refine hK _ ?_; clear hK) | (clear hK; clear hK; refine hK _ ?_; clear hK) | (clear hK; clear hK; clear hK; refine hK _ ?_; clear hK))
      · refine ⟨by simp, ?_⟩
        simp [leaves_iff, Try.f32]
        try (first | omega | (refine decide_eq_decide.2 ?_; omega) | (refine decide_eq_false ?_; omega) | (refine decide_eq_true ?_; omega))
        rintro rfl; exact h rfl
      · refine ⟨i + 1, ?_, ⟨by omega, ?_⟩, by omega⟩
        · exact le_of2 (by simp) (by simp [AVle, AV.under, AV.underL] <;> omega) (by simp [AOle, AO.under, AV.underL, AV.under] <;> omega)
        · rw [List.take_add_one, List.take_add_one, hinv, List.getElem?_eq_getElem (by omega), List.getElem?_eq_getElem (by omega), h]
      · have : i = a.length := by omega
        subst this
        refine ⟨by simp, ?_⟩
        simp [leaves_iff, Try.f32]
        try (first | omega | (refine decide_eq_decide.2 ?_; omega) | (refine decide_eq_false ?_; omega) | (refine decide_eq_true ?_; omega))
        rw [List.take_length, hl, List.take_length] at hinv
        simpa using hinv
end Go.AM
