/- Workingset: the arguments of the laws (numbers and slices of numbers). -/
import Derived.Test.YtpkbbmimfoakcaaWs13
import Derived.Test.YtpkbbmimfoakcaaAmWb
set_option linter.all false

namespace Go.AM
open Go Go.Proofs

theorem laid : laidOutB Try.prog = true := by kernel_rfl
theorem owns : ownKnob Try.prog.godebug = none := by kernel_rfl
theorem sh27 : shapeOf Try.prog 10 27 = some [.sl [shI]] := by kernel_rfl
theorem sh3 : shapeOf Try.prog 10 3 = some [shI] := by kernel_rfl
theorem arg_list {a : AV} (h : FitArg Try.prog 27 a) : ∃ l, a = .rd 1 (irows l) := by
  obtain ⟨l, rfl, _⟩ := fit_ints (arg_one sh27 (fun fs => by simp [Try.underlying27]) (fun n e => by simp [Try.underlying27]) h)
  exact ⟨l, rfl⟩
theorem arg_int {a : AV} (h : FitArg Try.prog 3 a) : ∃ n, a = I n := by
  obtain ⟨n, rfl, _⟩ := fit_int (arg_one sh3 (fun fs => by simp [Try.underlying3]) (fun n e => by simp [Try.underlying3]) h)
  exact ⟨n, rfl⟩

theorem s3' : PSound Try.prog 3 (specF (ι := Int × Int × Int) (fun x => [I x.1, I x.2.1, I x.2.2]) fun _ => retOf [B true]) := s3 T11 lx11 cf11
theorem s4' : PSound Try.prog 4 (specF (ι := List Int × Int) (fun x => [.rd 1 (irows x.1), I x.2]) fun _ => retOf [B true]) := s4 T11 lx11 cf11
theorem s5' : PSound Try.prog 5 (specF (ι := List Int × Int × Int) (fun x => [.rd 1 (irows x.1), I x.2.1, I x.2.2]) fun _ => retOf [B true]) := s5 T11 lx11 cf11
theorem s6' : PSound Try.prog 6 (specF (ι := List Int) (fun x => [.rd 1 (irows x)]) fun _ => retOf [B true]) := s6 T11 lx11 cf11

theorem iii_F (avs : List AV) (h : FitArgs Try.prog [3, 3, 3] avs) : specF (ι := Int × Int × Int) (fun x => [I x.1, I x.2.1, I x.2.2]) (fun _ => retOf [B true]) avs = some (B true) := by
  match avs, h with
  | [a, b, c], h =>
    simp only [FitArgs] at h
    obtain ⟨x, rfl⟩ := arg_int h.1
    obtain ⟨y, rfl⟩ := arg_int h.2.1
    obtain ⟨z, rfl⟩ := arg_int h.2.2.1
    exact specF_eq (A := fun x : Int × Int × Int => [I x.1, I x.2.1, I x.2.2]) (R := fun _ => retOf [B true]) (x, y, z) fun _ _ => rfl
  | [], h => simp [FitArgs] at h
  | [_], h => simp [FitArgs] at h
  | [_, _], h => simp [FitArgs] at h
  | _ :: _ :: _ :: _ :: _, h => simp [FitArgs] at h
theorem li_F (avs : List AV) (h : FitArgs Try.prog [27, 3] avs) : specF (ι := List Int × Int) (fun x => [.rd 1 (irows x.1), I x.2]) (fun _ => retOf [B true]) avs = some (B true) := by
  match avs, h with
  | [a, b], h =>
    simp only [FitArgs] at h
    obtain ⟨x, rfl⟩ := arg_list h.1
    obtain ⟨y, rfl⟩ := arg_int h.2.1
    exact specF_eq (A := fun x : List Int × Int => [.rd 1 (irows x.1), I x.2]) (R := fun _ => retOf [B true]) (x, y) fun _ _ => rfl
  | [], h => simp [FitArgs] at h
  | [_], h => simp [FitArgs] at h
  | _ :: _ :: _ :: _, h => simp [FitArgs] at h
theorem lii_F (avs : List AV) (h : FitArgs Try.prog [27, 3, 3] avs) : specF (ι := List Int × Int × Int) (fun x => [.rd 1 (irows x.1), I x.2.1, I x.2.2]) (fun _ => retOf [B true]) avs = some (B true) := by
  match avs, h with
  | [a, b, c], h =>
    simp only [FitArgs] at h
    obtain ⟨x, rfl⟩ := arg_list h.1
    obtain ⟨y, rfl⟩ := arg_int h.2.1
    obtain ⟨z, rfl⟩ := arg_int h.2.2.1
    exact specF_eq (A := fun x : List Int × Int × Int => [.rd 1 (irows x.1), I x.2.1, I x.2.2]) (R := fun _ => retOf [B true]) (x, y, z) fun _ _ => rfl
  | [], h => simp [FitArgs] at h
  | [_], h => simp [FitArgs] at h
  | [_, _], h => simp [FitArgs] at h
  | _ :: _ :: _ :: _ :: _, h => simp [FitArgs] at h
theorem l_F (avs : List AV) (h : FitArgs Try.prog [27] avs) : specF (ι := List Int) (fun x => [.rd 1 (irows x)]) (fun _ => retOf [B true]) avs = some (B true) := by
  match avs, h with
  | [a], h =>
    simp only [FitArgs] at h
    obtain ⟨x, rfl⟩ := arg_list h.1
    exact specF_eq (A := fun x : List Int => [.rd 1 (irows x)]) (R := fun _ => retOf [B true]) x fun _ _ => rfl
  | [], h => simp [FitArgs] at h
  | _ :: _ :: _, h => simp [FitArgs] at h
end Go.AM
