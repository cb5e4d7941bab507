/- Rmap: the arguments of the laws. -/
import Derived.Test.YtallcianhjejiaaRm18
import Derived.Test.YtallcianhjejiaaAmWb
set_option linter.all false

namespace Go.AM
open Go Go.Proofs

theorem laid : laidOutB Try.prog = true := by kernel_rfl
theorem owns : ownKnob Try.prog.godebug = none := by kernel_rfl
def shU : Sh := .int .u8
theorem fit_u8 {a : AV} (h : Fit shU a) : ∃ n : Nat, a = U n ∧ n < 256 := by
  simp only [shU, Fit] at h
  obtain ⟨n, rfl, hw⟩ := h
  have h2 : 0 ≤ n ∧ n ≤ 255 := by simpa [Lit.wf, IntKind.min, IntKind.max, IntKind.signed, IntKind.bits] using hw
  refine ⟨n.toNat, ?_, by omega⟩
  unfold U
  rw [show ((n.toNat : Nat) : Int) = n by omega]
theorem rows_mp : ∀ {xs : List (List AV)}, (∀ e ∈ xs, FitL [shI, shI] e) → ∃ l, xs = prows l
  | [], _ => ⟨[], rfl⟩
  | e :: r, h => by
    obtain ⟨l, rfl⟩ := rows_mp (xs := r) fun e' he => h e' (by simp [he])
    obtain ⟨a, ar, rfl, ha, hr⟩ := fitL_cons (h e (by simp))
    obtain ⟨b, rfl, hb⟩ := fitL_one hr
    obtain ⟨x, rfl, _⟩ := fit_int ha
    obtain ⟨y, rfl, _⟩ := fit_int hb
    exact ⟨(x, y) :: l, rfl⟩
theorem rows_op : ∀ {xs : List (List AV)}, (∀ e ∈ xs, FitL [shB, shI, shI] e) → ∃ l, xs = orows l
  | [], _ => ⟨[], rfl⟩
  | e :: r, h => by
    obtain ⟨l, rfl⟩ := rows_op (xs := r) fun e' he => h e' (by simp [he])
    obtain ⟨a, ar, rfl, ha, hr⟩ := fitL_cons (h e (by simp))
    obtain ⟨b, br, rfl, hb, hr2⟩ := fitL_cons hr
    obtain ⟨c, rfl, hcc⟩ := fitL_one hr2
    obtain ⟨q, rfl⟩ := fit_bool ha
    obtain ⟨x, rfl, _⟩ := fit_int hb
    obtain ⟨y, rfl, _⟩ := fit_int hcc
    exact ⟨(q, x, y) :: l, rfl⟩
theorem sh22 : shapeOf Try.prog 10 22 = some [.sl [shI, shI]] := by kernel_rfl
theorem sh24 : shapeOf Try.prog 10 24 = some [shI, shI] := by kernel_rfl
theorem sh35 : shapeOf Try.prog 10 35 = some [.sl [shB, shI, shI]] := by kernel_rfl
theorem sh3 : shapeOf Try.prog 10 3 = some [shI] := by kernel_rfl
theorem sh5 : shapeOf Try.prog 10 5 = some [shU] := by kernel_rfl
theorem arg_mps {a : AV} (h : FitArg Try.prog 22 a) : ∃ l, a = .rd 2 (prows l) := by
  have := arg_one sh22 (fun fs => by simp [Try.underlying22]) (fun n e => by simp [Try.underlying22]) h
  simp only [Fit] at this
  obtain ⟨xs, rfl, _, hx⟩ := this
  obtain ⟨l, rfl⟩ := rows_mp hx
  exact ⟨l, rfl⟩
theorem arg_ops {a : AV} (h : FitArg Try.prog 35 a) : ∃ l, a = .rd 3 (orows l) := by
  have := arg_one sh35 (fun fs => by simp [Try.underlying35]) (fun n e => by simp [Try.underlying35]) h
  simp only [Fit] at this
  obtain ⟨xs, rfl, _, hx⟩ := this
  obtain ⟨l, rfl⟩ := rows_op hx
  exact ⟨l, rfl⟩
theorem arg_mp {a : AV} (h : FitArg Try.prog 24 a) : ∃ m, a = Mv m := by
  obtain ⟨cs, rfl, hf⟩ := arg_str sh24 Try.underlying24 h
  obtain ⟨x, ar, rfl, ha, hr⟩ := fitL_cons hf
  obtain ⟨y, rfl, hb⟩ := fitL_one hr
  obtain ⟨n, rfl, _⟩ := fit_int ha
  obtain ⟨k, rfl, _⟩ := fit_int hb
  exact ⟨(n, k), rfl⟩
theorem arg_int {a : AV} (h : FitArg Try.prog 3 a) : ∃ n, a = I n := by
  obtain ⟨n, rfl, _⟩ := fit_int (arg_one sh3 (fun fs => by simp [Try.underlying3]) (fun n e => by simp [Try.underlying3]) h)
  exact ⟨n, rfl⟩
theorem arg_u8 {a : AV} (h : FitArg Try.prog 5 a) : ∃ n : Nat, a = U n ∧ n < 256 :=
  fit_u8 (arg_one sh5 (fun fs => by simp [Try.underlying5]) (fun n e => by simp [Try.underlying5]) h)

theorem lm_F (avs : List AV) (h : FitArgs Try.prog [22, 24] avs) : specF (ι := List Mp × Mp) (fun x => [.rd 2 (prows x.1), Mv x.2]) (fun _ => retOf [B true]) avs = some (B true) := by
  match avs, h with
  | [a, b], h =>
    simp only [FitArgs] at h
    obtain ⟨x, rfl⟩ := arg_mps h.1
    obtain ⟨y, rfl⟩ := arg_mp h.2.1
    exact specF_eq (A := fun x : List Mp × Mp => [.rd 2 (prows x.1), Mv x.2]) (R := fun _ => retOf [B true]) (x, y) fun _ _ => rfl
  | [], h => simp [FitArgs] at h
  | [_], h => simp [FitArgs] at h
  | _ :: _ :: _ :: _, h => simp [FitArgs] at h
theorem lii_F (avs : List AV) (h : FitArgs Try.prog [22, 3, 3] avs) : specF (ι := List Mp × Int × Int) (fun x => [.rd 2 (prows x.1), I x.2.1, I x.2.2]) (fun _ => retOf [B true]) avs = some (B true) := by
  match avs, h with
  | [a, b, c], h =>
    simp only [FitArgs] at h
    obtain ⟨x, rfl⟩ := arg_mps h.1
    obtain ⟨y, rfl⟩ := arg_int h.2.1
    obtain ⟨z, rfl⟩ := arg_int h.2.2.1
    exact specF_eq (A := fun x : List Mp × Int × Int => [.rd 2 (prows x.1), I x.2.1, I x.2.2]) (R := fun _ => retOf [B true]) (x, y, z) fun _ _ => rfl
  | [], h => simp [FitArgs] at h
  | [_], h => simp [FitArgs] at h
  | [_, _], h => simp [FitArgs] at h
  | _ :: _ :: _ :: _ :: _, h => simp [FitArgs] at h
theorem luu_F (avs : List AV) (h : FitArgs Try.prog [22, 5, 5] avs) : specF (ι := {x : List Mp × Nat × Nat // x.2.1 < 256 ∧ x.2.2 < 256}) (fun x => [.rd 2 (prows x.1.1), U x.1.2.1, U x.1.2.2]) (fun _ => retOf [B true]) avs = some (B true) := by
  match avs, h with
  | [a, b, c], h =>
    simp only [FitArgs] at h
    obtain ⟨x, rfl⟩ := arg_mps h.1
    obtain ⟨y, rfl, hy⟩ := arg_u8 h.2.1
    obtain ⟨z, rfl, hz⟩ := arg_u8 h.2.2.1
    exact specF_eq (A := fun x : {x : List Mp × Nat × Nat // x.2.1 < 256 ∧ x.2.2 < 256} => [.rd 2 (prows x.1.1), U x.1.2.1, U x.1.2.2]) (R := fun _ => retOf [B true]) ⟨(x, y, z), hy, hz⟩ fun _ _ => rfl
  | [], h => simp [FitArgs] at h
  | [_], h => simp [FitArgs] at h
  | [_, _], h => simp [FitArgs] at h
  | _ :: _ :: _ :: _ :: _, h => simp [FitArgs] at h
theorem lo_F (avs : List AV) (h : FitArgs Try.prog [22, 35] avs) : specF (ι := List Mp × List Ops) (fun x => [.rd 2 (prows x.1), .rd 3 (orows x.2)]) (fun _ => retOf [B true]) avs = some (B true) := by
  match avs, h with
  | [a, b], h =>
    simp only [FitArgs] at h
    obtain ⟨x, rfl⟩ := arg_mps h.1
    obtain ⟨y, rfl⟩ := arg_ops h.2.1
    exact specF_eq (A := fun x : List Mp × List Ops => [.rd 2 (prows x.1), .rd 3 (orows x.2)]) (R := fun _ => retOf [B true]) (x, y) fun _ _ => rfl
  | [], h => simp [FitArgs] at h
  | [_], h => simp [FitArgs] at h
  | _ :: _ :: _ :: _, h => simp [FitArgs] at h
theorem o_F (avs : List AV) (h : FitArgs Try.prog [35] avs) : specF (ι := List Ops) (fun x => [.rd 3 (orows x)]) (fun _ => retOf [B true]) avs = some (B true) := by
  match avs, h with
  | [a], h =>
    simp only [FitArgs] at h
    obtain ⟨x, rfl⟩ := arg_ops h.1
    exact specF_eq (A := fun x : List Ops => [.rd 3 (orows x)]) (R := fun _ => retOf [B true]) x fun _ _ => rfl
  | [], h => simp [FitArgs] at h
  | _ :: _ :: _, h => simp [FitArgs] at h
end Go.AM
