/- Arguments of given shapes. -/
import Derived.Test.YtdhhdnbdceoenaaAmZ
import Derived.Test.YtdhhdnbdceoenaaAmT
set_option linter.all false

namespace Go.AM
open Go

def shI : Sh := .int .i64
def shB : Sh := .bool
def shL : Sh := .sl [.int .i64]
theorem fitL_one {s : Sh} {xs : List AV} (h : FitL [s] xs) : ∃ a, xs = [a] ∧ Fit s a := by
  match xs, h with
  | [a], h => simp only [FitL] at h; exact ⟨a, rfl, h.1⟩
  | [], h => simp [FitL] at h
  | _ :: _ :: _, h => simp [FitL] at h
theorem fit_int {a : AV} (h : Fit shI a) : ∃ n, a = I n ∧ -9223372036854775808 ≤ n ∧ n ≤ 9223372036854775807 := by
  simp only [shI, Fit] at h
  obtain ⟨n, rfl, hw⟩ := h
  refine ⟨n, rfl, ?_⟩
  simpa [Lit.wf, IntKind.min, IntKind.max, IntKind.signed, IntKind.bits] using hw
theorem fit_bool {a : AV} (h : Fit shB a) : ∃ b, a = B b := by
  simp only [shB, Fit] at h
  exact h
theorem rows_ints : ∀ {xs : List (List AV)}, (∀ e ∈ xs, FitL [shI] e) → ∃ l, xs = irows l ∧ ∀ x ∈ l, -9223372036854775808 ≤ x ∧ x ≤ 9223372036854775807
  | [], _ => ⟨[], rfl, by simp⟩
  | e :: r, h => by
    obtain ⟨l, rfl, hl⟩ := rows_ints (xs := r) fun e' he => h e' (by simp [he])
    obtain ⟨a, rfl, ha⟩ := fitL_one (h e (by simp))
    obtain ⟨n, rfl, hn⟩ := fit_int ha
    refine ⟨n :: l, rfl, fun x hx => ?_⟩
    rcases List.mem_cons.1 hx with rfl | hx
    · exact hn
    · exact hl x hx
theorem fit_ints {a : AV} (h : Fit shL a) : ∃ l, a = .rd 1 (irows l) ∧ l.length ≤ maxLen ∧ ∀ x ∈ l, -9223372036854775808 ≤ x ∧ x ≤ 9223372036854775807 := by
  simp only [shL, Fit] at h
  obtain ⟨xs, rfl, hm, hx⟩ := h
  obtain ⟨l, rfl, hl⟩ := rows_ints hx
  exact ⟨l, rfl, by simpa using hm, hl⟩
theorem fitL_cons {s : Sh} {r : List Sh} {xs : List AV} (h : FitL (s :: r) xs) : ∃ a ar, xs = a :: ar ∧ Fit s a ∧ FitL r ar := by
  cases xs with
  | nil => simp [FitL] at h
  | cons a ar => simp only [FitL] at h; exact ⟨a, ar, rfl, h.1, h.2⟩
theorem fitL_nil {xs : List AV} (h : FitL [] xs) : xs = [] := by cases xs with | nil => rfl | cons a ar => simp [FitL] at h

/-- An argument that is one value. -/
theorem arg_one {P : Program} {t : TypeId} {s : Sh} {a : AV} (hs : shapeOf P 10 t = some [s]) (h1 : ∀ fs, P.underlying t ≠ some (.struct fs)) (h2 : ∀ n e, P.underlying t ≠ some (.array n e)) (h : FitArg P t a) : Fit s a := by
  obtain ⟨sh, h3, h4⟩ := h
  rw [hs] at h3
  simp only [Option.some.injEq] at h3
  subst h3
  rcases h4 with ⟨⟨fs, hf⟩ | ⟨n, e, hf⟩, _⟩ | ⟨_, h5⟩
  · exact absurd hf (h1 fs)
  · exact absurd hf (h2 _ _)
  · obtain ⟨b, hb, hf⟩ := fitL_one h5
    obtain rfl : a = b := by simpa using hb
    exact hf
/-- An argument that is a struct. -/
theorem arg_str {P : Program} {t : TypeId} {sh : List Sh} {a : AV} {fs : Array Field} (hs : shapeOf P 10 t = some sh) (h1 : P.underlying t = some (.struct fs)) (h : FitArg P t a) : ∃ cs, a = .agg cs ∧ FitL sh cs := by
  obtain ⟨sh', h3, h4⟩ := h
  rw [hs] at h3
  simp only [Option.some.injEq] at h3
  subst h3
  rcases h4 with ⟨_, cs, rfl, h5⟩ | ⟨h5, _⟩
  · exact ⟨cs, rfl, h5⟩
  · exact absurd h1 (h5.1 fs)
end Go.AM
