/- BuddyChecks: for every zone the law answers true. -/
import Derived.Test.YtjdahonmgfhpgaaBd15
import Derived.Test.YtjdahonmgfhpgaaAmZ
import Derived.ProofKit
set_option linter.all false

namespace Go.AM
open Go Go.Proofs

theorem laid : laidOutB Try.prog = true := by kernel_rfl
theorem owns : ownKnob Try.prog.godebug = none := by kernel_rfl

def shI : Sh := .int .i64
def shL : Sh := .sl [.int .i64]
theorem sh25 : shapeOf Try.prog 10 25 = some [shI, shI, shI, shI, shI, shL, shL, shL, shL, shL] := by kernel_rfl
theorem sh3 : shapeOf Try.prog 10 3 = some [shI] := by kernel_rfl
theorem und25 : ∃ fs, Try.prog.underlying 25 = some (.struct fs) := ⟨_, Try.underlying25⟩

theorem fitL_one {s : Sh} {xs : List AV} (h : FitL [s] xs) : ∃ a, xs = [a] ∧ Fit s a := by
  match xs, h with
  | [a], h => simp only [FitL] at h; exact ⟨a, rfl, h.1⟩
  | [], h => simp [FitL] at h
  | _ :: _ :: _, h => simp [FitL] at h
theorem fit_int {a : AV} (h : Fit shI a) : ∃ n, a = I n ∧ -9223372036854775808 ≤ n ∧ n ≤ 9223372036854775807 := by
  simp only [shI, Fit] at h
  obtain ⟨n, rfl, hw⟩ := h
  refine ⟨n, rfl, ?_⟩
  simpa [Lit.wf, IntKind.min, IntKind.max, IntKind.signed, IntKind.bits] using hw
theorem rows_ints : ∀ {xs : List (List AV)}, (∀ e ∈ xs, FitL [shI] e) → ∃ l, xs = irows l ∧ ∀ x ∈ l, -9223372036854775808 ≤ x ∧ x ≤ 9223372036854775807
  | [], _ => ⟨[], rfl, by simp⟩
  | e :: r, h => by
    obtain ⟨l, rfl, hl⟩ := rows_ints (xs := r) fun e' he => h e' (by simp [he])
    obtain ⟨a, rfl, ha⟩ := fitL_one (h e (by simp))
    obtain ⟨n, rfl, hn⟩ := fit_int ha
    refine ⟨n :: l, rfl, fun x hx => ?_⟩
    rcases List.mem_cons.1 hx with rfl | hx
    · exact hn
    · exact hl x hx
theorem fit_ints {a : AV} (h : Fit shL a) : ∃ l, a = .rd 1 (irows l) ∧ l.length ≤ maxLen ∧ ∀ x ∈ l, -9223372036854775808 ≤ x ∧ x ≤ 9223372036854775807 := by
  simp only [shL, Fit] at h
  obtain ⟨xs, rfl, hm, hx⟩ := h
  obtain ⟨l, rfl, hl⟩ := rows_ints hx
  exact ⟨l, rfl, by simpa using hm, hl⟩

theorem fitL_cons {s : Sh} {r : List Sh} {xs : List AV} (h : FitL (s :: r) xs) : ∃ a ar, xs = a :: ar ∧ Fit s a ∧ FitL r ar := by
  cases xs with
  | nil => simp [FitL] at h
  | cons a ar => simp only [FitL] at h; exact ⟨a, ar, rfl, h.1, h.2⟩
theorem fitL_nil {xs : List AV} (h : FitL [] xs) : xs = [] := by cases xs with | nil => rfl | cons a ar => simp [FitL] at h

theorem fit_zone {cs : List AV} (h : FitL [shI, shI, shI, shI, shI, shL, shL, shL, shL, shL] cs) : ∃ z : Zn, cs = z.cells := by
  obtain ⟨_, _, rfl, h1, h⟩ := fitL_cons h
  obtain ⟨_, _, rfl, h2, h⟩ := fitL_cons h
  obtain ⟨_, _, rfl, h3, h⟩ := fitL_cons h
  obtain ⟨_, _, rfl, h4, h⟩ := fitL_cons h
  obtain ⟨_, _, rfl, h5, h⟩ := fitL_cons h
  obtain ⟨_, _, rfl, h6, h⟩ := fitL_cons h
  obtain ⟨_, _, rfl, h7, h⟩ := fitL_cons h
  obtain ⟨_, _, rfl, h8, h⟩ := fitL_cons h
  obtain ⟨_, _, rfl, h9, h⟩ := fitL_cons h
  obtain ⟨_, _, rfl, h10, h⟩ := fitL_cons h
  obtain rfl := fitL_nil h
  obtain ⟨a, rfl, _⟩ := fit_int h1
  obtain ⟨b, rfl, _⟩ := fit_int h2
  obtain ⟨c, rfl, _⟩ := fit_int h3
  obtain ⟨d, rfl, _⟩ := fit_int h4
  obtain ⟨e, rfl, _⟩ := fit_int h5
  obtain ⟨f, rfl, _⟩ := fit_ints h6
  obtain ⟨g, rfl, _⟩ := fit_ints h7
  obtain ⟨i, rfl, _⟩ := fit_ints h8
  obtain ⟨j, rfl, _⟩ := fit_ints h9
  obtain ⟨k, rfl, _⟩ := fit_ints h10
  exact ⟨⟨a, b, c, d, e, f, g, i, j, k⟩, rfl⟩

theorem arg_zone {a : AV} (h : FitArg Try.prog 25 a) : ∃ z : Zn, a = .agg z.cells := by
  obtain ⟨sh, h1, h2⟩ := h
  rw [sh25] at h1
  simp only [Option.some.injEq] at h1
  subst h1
  rcases h2 with ⟨_, cs, rfl, h3⟩ | ⟨h3, _⟩
  · obtain ⟨z, rfl⟩ := fit_zone h3; exact ⟨z, rfl⟩
  · obtain ⟨fs, hf⟩ := und25; exact absurd hf (h3.1 fs)

theorem s3' : PSound Try.prog 3 (specF (ι := Zn) (fun z => [.agg z.cells]) fun _ => retOf [B true]) :=
  s3 TW tW (AX.W.start _) cf14 cf15 (fun z M n h => cf16 z M n h.small) (fun z M n h => cf17 z M n h.small)

theorem checks_F (avs : List AV) (h : FitArgs Try.prog [25] avs) : specF (ι := Zn) (fun z => [.agg z.cells]) (fun _ => retOf [B true]) avs = some (B true) := by
  match avs, h with
  | [a], h =>
    simp only [FitArgs] at h
    obtain ⟨z, rfl⟩ := arg_zone h.1
    exact specF_eq (A := fun z : Zn => [.agg z.cells]) (R := fun _ => retOf [B true]) z fun _ _ => rfl
  | [], h => simp [FitArgs] at h
  | _ :: _ :: _, h => simp [FitArgs] at h
end Go.AM

