/- BuddyBegins: for every argument the law answers true. -/
import Derived.Test.YtjdahonmgfhpgaaBd23
import Derived.Test.YtjdahonmgfhpgaaBd16
set_option linter.all false

namespace Go.AM
open Go Go.Proofs

theorem sh29 : shapeOf Try.prog 10 29 = some [shI, shI, shI] := by kernel_rfl

theorem arg_int {a : AV} (h : FitArg Try.prog 3 a) : ∃ n, a = I n ∧ -9223372036854775808 ≤ n ∧ n ≤ 9223372036854775807 := by
  obtain ⟨sh, h1, h2⟩ := h
  rw [sh3] at h1
  simp only [Option.some.injEq] at h1
  subst h1
  rcases h2 with ⟨⟨fs, hf⟩ | ⟨n, e, hf⟩, _⟩ | ⟨_, h3⟩
  · simp [Try.underlying3] at hf
  · simp [Try.underlying3] at hf
  · obtain ⟨b, hb, hf⟩ := fitL_one h3
    obtain rfl : a = b := by simpa using hb
    exact fit_int hf
theorem arg_ints3 {a : AV} (h : FitArg Try.prog 29 a) : ∃ c d e, a = .agg [I c, I d, I e] := by
  obtain ⟨sh, h1, h2⟩ := h
  rw [sh29] at h1
  simp only [Option.some.injEq] at h1
  subst h1
  rcases h2 with ⟨_, cs, rfl, h3⟩ | ⟨h3, _⟩
  · obtain ⟨_, _, rfl, h1, h3⟩ := fitL_cons h3
    obtain ⟨_, _, rfl, h2, h3⟩ := fitL_cons h3
    obtain ⟨_, _, rfl, h4, h3⟩ := fitL_cons h3
    obtain rfl := fitL_nil h3
    obtain ⟨a, rfl, _⟩ := fit_int h1
    obtain ⟨b, rfl, _⟩ := fit_int h2
    obtain ⟨c, rfl, _⟩ := fit_int h4
    exact ⟨a, b, c, rfl⟩
  · exact absurd Try.underlying29 (h3.2 3 3)

theorem s4' : PSound Try.prog 4 (specF (ι := Int × Int × Int × Int × Int) (fun x => [I x.1, I x.2.1, .agg [I x.2.2.1, I x.2.2.2.1, I x.2.2.2.2]]) fun _ => retOf [B true]) :=
  s4 U14 u14 (AX.W.start _) cf14 rfl rfl rfl

theorem begins_F (avs : List AV) (h : FitArgs Try.prog [3, 3, 29] avs) : specF (ι := Int × Int × Int × Int × Int) (fun x => [I x.1, I x.2.1, .agg [I x.2.2.1, I x.2.2.2.1, I x.2.2.2.2]]) (fun _ => retOf [B true]) avs = some (B true) := by
  match avs, h with
  | [x, y, p], h =>
    simp only [FitArgs] at h
    obtain ⟨a, rfl, _⟩ := arg_int h.1
    obtain ⟨b, rfl, _⟩ := arg_int h.2.1
    obtain ⟨c, d, e, rfl⟩ := arg_ints3 h.2.2.1
    exact specF_eq (A := fun x : Int × Int × Int × Int × Int => [I x.1, I x.2.1, .agg [I x.2.2.1, I x.2.2.2.1, I x.2.2.2.2]]) (R := fun _ => retOf [B true]) (a, b, c, d, e) fun _ _ => rfl
  | [], h => simp [FitArgs] at h
  | [_], h => simp [FitArgs] at h
  | [_, _], h => simp [FitArgs] at h
  | _ :: _ :: _ :: _ :: _, h => simp [FitArgs] at h
end Go.AM
