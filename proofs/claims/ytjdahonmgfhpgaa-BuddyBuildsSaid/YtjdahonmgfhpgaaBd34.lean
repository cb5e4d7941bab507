/- The arguments of the laws Allocs, Frees, Takes, Builds. -/
import Derived.Test.YtjdahonmgfhpgaaBd33
import Derived.Test.YtjdahonmgfhpgaaBd24
set_option linter.all false

namespace Go.AM
open Go Go.Proofs

theorem sh22 : shapeOf Try.prog 10 22 = some [shL] := by kernel_rfl
theorem arg_ints {a : AV} (h : FitArg Try.prog 22 a) : ∃ l, a = .rd 1 (irows l) ∧ l.length ≤ maxLen := by
  obtain ⟨sh, h1, h2⟩ := h
  rw [sh22] at h1
  simp only [Option.some.injEq] at h1
  subst h1
  rcases h2 with ⟨⟨fs, hf⟩ | ⟨n, e, hf⟩, _⟩ | ⟨_, h3⟩
  · simp [Try.underlying22] at hf
  · simp [Try.underlying22] at hf
  · obtain ⟨b, hb, hf⟩ := fitL_one h3
    obtain rfl : a = b := by simpa using hb
    obtain ⟨l, rfl, h1, _⟩ := fit_ints hf
    exact ⟨l, rfl, h1⟩

theorem s5' : PSound Try.prog 5 (specF (ι := Zn × Int) (fun x => [.agg x.1.cells, I x.2]) fun _ => retOf [B true]) :=
  s5 U28 u28 (AX.W.start _) cf14 (fun z M n => cf15 z M n) rfl rfl rfl
theorem s6' : PSound Try.prog 6 (specF (ι := Zn × Int × Int) (fun x => [.agg x.1.cells, I x.2.1, I x.2.2]) fun _ => retOf [B true]) :=
  s6 U28 u28 (AX.W.start _) cf14 (fun z M n => cf15 z M n) rfl rfl rfl
theorem s11' : PSound Try.prog 11 (specF (ι := Zn × Int) (fun x => [.agg x.1.cells, I x.2]) fun _ => retOf [B true]) :=
  s11 U28 u28 (AX.W.start _) cf14 (fun z M n => cf15 z M n) rfl rfl rfl rfl rfl
theorem s10' : PSound Try.prog 10 (specF (ι := {x : Zn × List Int // x.2.length ≤ maxLen}) (fun x => [.agg x.1.1.cells, .rd 1 (irows x.1.2)]) fun _ => retOf [B true]) :=
  s10 U28 u28 (AX.W.start _) cf14 (fun z M n => cf15 z M n) rfl rfl rfl

theorem allocs_F (avs : List AV) (h : FitArgs Try.prog [25, 3] avs) : specF (ι := Zn × Int) (fun x => [.agg x.1.cells, I x.2]) (fun _ => retOf [B true]) avs = some (B true) := by
  match avs, h with
  | [x, y], h =>
    simp only [FitArgs] at h
    obtain ⟨z, rfl⟩ := arg_zone h.1
    obtain ⟨b, rfl, _⟩ := arg_int h.2.1
    exact specF_eq (A := fun x : Zn × Int => [.agg x.1.cells, I x.2]) (R := fun _ => retOf [B true]) (z, b) fun _ _ => rfl
  | [], h => simp [FitArgs] at h
  | [_], h => simp [FitArgs] at h
  | _ :: _ :: _ :: _, h => simp [FitArgs] at h
theorem frees_F (avs : List AV) (h : FitArgs Try.prog [25, 3, 3] avs) : specF (ι := Zn × Int × Int) (fun x => [.agg x.1.cells, I x.2.1, I x.2.2]) (fun _ => retOf [B true]) avs = some (B true) := by
  match avs, h with
  | [x, y, w], h =>
    simp only [FitArgs] at h
    obtain ⟨z, rfl⟩ := arg_zone h.1
    obtain ⟨b, rfl, _⟩ := arg_int h.2.1
    obtain ⟨c, rfl, _⟩ := arg_int h.2.2.1
    exact specF_eq (A := fun x : Zn × Int × Int => [.agg x.1.cells, I x.2.1, I x.2.2]) (R := fun _ => retOf [B true]) (z, b, c) fun _ _ => rfl
  | [], h => simp [FitArgs] at h
  | [_], h => simp [FitArgs] at h
  | [_, _], h => simp [FitArgs] at h
  | _ :: _ :: _ :: _ :: _, h => simp [FitArgs] at h
theorem builds_F (avs : List AV) (h : FitArgs Try.prog [25, 22] avs) : specF (ι := {x : Zn × List Int // x.2.length ≤ maxLen}) (fun x => [.agg x.1.1.cells, .rd 1 (irows x.1.2)]) (fun _ => retOf [B true]) avs = some (B true) := by
  match avs, h with
  | [x, y], h =>
    simp only [FitArgs] at h
    obtain ⟨z, rfl⟩ := arg_zone h.1
    obtain ⟨l, rfl, hl⟩ := arg_ints h.2.1
    exact specF_eq (ι := {x : Zn × List Int // x.2.length ≤ maxLen}) (A := fun x => [.agg x.1.1.cells, .rd 1 (irows x.1.2)]) (R := fun _ => retOf [B true]) ⟨(z, l), hl⟩ fun _ _ => rfl
  | [], h => simp [FitArgs] at h
  | [_], h => simp [FitArgs] at h
  | _ :: _ :: _ :: _, h => simp [FitArgs] at h
end Go.AM
