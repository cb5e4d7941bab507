/- Workingset: arguments of bytes. -/
import Derived.Test.YtpkbbmimfoakcaaWs14
set_option linter.all false

namespace Go.AM
open Go Go.Proofs

def shU : Sh := .int .u8
theorem fit_u8 {a : AV} (h : Fit shU a) : ∃ n : Nat, a = U n ∧ n < 256 := by
  simp only [shU, Fit] at h
  obtain ⟨n, rfl, hw⟩ := h
  have h2 : 0 ≤ n ∧ n ≤ 255 := by simpa [Lit.wf, IntKind.min, IntKind.max, IntKind.signed, IntKind.bits] using hw
  refine ⟨n.toNat, ?_, by omega⟩
  unfold U
  rw [show ((n.toNat : Nat) : Int) = n by omega]
theorem rows_u8 : ∀ {xs : List (List AV)}, (∀ e ∈ xs, FitL [shU] e) → ∃ l, xs = urows l ∧ ∀ x ∈ l, x < 256
  | [], _ => ⟨[], rfl, by simp⟩
  | e :: r, h => by
    obtain ⟨l, rfl, hl⟩ := rows_u8 (xs := r) fun e' he => h e' (by simp [he])
    obtain ⟨a, rfl, ha⟩ := fitL_one (h e (by simp))
    obtain ⟨n, rfl, hn⟩ := fit_u8 ha
    refine ⟨n :: l, rfl, fun x hx => ?_⟩
    rcases List.mem_cons.1 hx with rfl | hx
    · exact hn
    · exact hl x hx
theorem sh36 : shapeOf Try.prog 10 36 = some [.sl [shU]] := by kernel_rfl
theorem sh5 : shapeOf Try.prog 10 5 = some [shU] := by kernel_rfl
theorem arg_bytes {a : AV} (h : FitArg Try.prog 36 a) : ∃ l, a = .rd 1 (urows l) ∧ ∀ x ∈ l, x < 256 := by
  have := arg_one sh36 (fun fs => by simp [Try.underlying36]) (fun n e => by simp [Try.underlying36]) h
  simp only [Fit] at this
  obtain ⟨xs, rfl, hm, hx⟩ := this
  obtain ⟨l, rfl, hl⟩ := rows_u8 hx
  exact ⟨l, rfl, hl⟩
theorem arg_u8 {a : AV} (h : FitArg Try.prog 5 a) : ∃ n : Nat, a = U n ∧ n < 256 :=
  fit_u8 (arg_one sh5 (fun fs => by simp [Try.underlying5]) (fun n e => by simp [Try.underlying5]) h)

theorem s7' : PSound Try.prog 7 (specF (ι := {x : List Nat × Nat // (∀ y ∈ x.1, y < 256) ∧ x.2 < 256}) (fun x => [.rd 1 (urows x.1.1), U x.1.2]) fun _ => retOf [B true]) := s7 T11 lx11 cf11
theorem bu_F (avs : List AV) (h : FitArgs Try.prog [36, 5] avs) : specF (ι := {x : List Nat × Nat // (∀ y ∈ x.1, y < 256) ∧ x.2 < 256}) (fun x => [.rd 1 (urows x.1.1), U x.1.2]) (fun _ => retOf [B true]) avs = some (B true) := by
  match avs, h with
  | [a, b], h =>
    simp only [FitArgs] at h
    obtain ⟨x, rfl, hx⟩ := arg_bytes h.1
    obtain ⟨y, rfl, hy⟩ := arg_u8 h.2.1
    exact specF_eq (A := fun x : {x : List Nat × Nat // (∀ y ∈ x.1, y < 256) ∧ x.2 < 256} => [.rd 1 (urows x.1.1), U x.1.2]) (R := fun _ => retOf [B true]) ⟨(x, y), hx, hy⟩ fun _ _ => rfl
  | [], h => simp [FitArgs] at h
  | [_], h => simp [FitArgs] at h
  | _ :: _ :: _ :: _, h => simp [FitArgs] at h
theorem buu_F (avs : List AV) (h : FitArgs Try.prog [36, 5, 5] avs) : specF (ι := {x : List Nat × Nat × Nat // (∀ y ∈ x.1, y < 256) ∧ x.2.1 < 256 ∧ x.2.2 < 256}) (fun x => [.rd 1 (urows x.1.1), U x.1.2.1, U x.1.2.2]) (fun _ => retOf [B true]) avs = some (B true) := by
  match avs, h with
  | [a, b, c], h =>
    simp only [FitArgs] at h
    obtain ⟨x, rfl, hx⟩ := arg_bytes h.1
    obtain ⟨y, rfl, hy⟩ := arg_u8 h.2.1
    obtain ⟨z, rfl, hz⟩ := arg_u8 h.2.2.1
    exact specF_eq (A := fun x : {x : List Nat × Nat × Nat // (∀ y ∈ x.1, y < 256) ∧ x.2.1 < 256 ∧ x.2.2 < 256} => [.rd 1 (urows x.1.1), U x.1.2.1, U x.1.2.2]) (R := fun _ => retOf [B true]) ⟨(x, y, z), hx, hy, hz⟩ fun _ _ => rfl
  | [], h => simp [FitArgs] at h
  | [_], h => simp [FitArgs] at h
  | [_, _], h => simp [FitArgs] at h
  | _ :: _ :: _ :: _ :: _, h => simp [FitArgs] at h
theorem uuu_F (avs : List AV) (h : FitArgs Try.prog [5, 5, 5] avs) : specF (ι := {x : Nat × Nat × Nat // x.1 < 256 ∧ x.2.1 < 256 ∧ x.2.2 < 256}) (fun x => [U x.1.1, U x.1.2.1, U x.1.2.2]) (fun _ => retOf [B true]) avs = some (B true) := by
  match avs, h with
  | [a, b, c], h =>
    simp only [FitArgs] at h
    obtain ⟨x, rfl, hx⟩ := arg_u8 h.1
    obtain ⟨y, rfl, hy⟩ := arg_u8 h.2.1
    obtain ⟨z, rfl, hz⟩ := arg_u8 h.2.2.1
    exact specF_eq (A := fun x : {x : Nat × Nat × Nat // x.1 < 256 ∧ x.2.1 < 256 ∧ x.2.2 < 256} => [U x.1.1, U x.1.2.1, U x.1.2.2]) (R := fun _ => retOf [B true]) ⟨(x, y, z), hx, hy, hz⟩ fun _ _ => rfl
  | [], h => simp [FitArgs] at h
  | [_], h => simp [FitArgs] at h
  | [_, _], h => simp [FitArgs] at h
  | _ :: _ :: _ :: _ :: _, h => simp [FitArgs] at h
end Go.AM
