/- Workingset: the laws Enough, Recent, Scan at the table. -/
import Derived.Test.YtpkbbmimfoakcaaWs17
set_option linter.all false

namespace Go.AM
open Go Go.Proofs

theorem s8' : PSound Try.prog 8 (specF (ι := {x : List Nat × Nat × Nat // (∀ y ∈ x.1, y < 256) ∧ x.2.1 < 256 ∧ x.2.2 < 256}) (fun x => [.rd 1 (urows x.1.1), U x.1.2.1, U x.1.2.2]) fun _ => retOf [B true]) := s8 T11 lx11 cf11
theorem s9' : PSound Try.prog 9 (specF (ι := {x : List Nat × Nat // (∀ y ∈ x.1, y < 256) ∧ x.2 < 256}) (fun x => [.rd 1 (urows x.1.1), U x.1.2]) fun _ => retOf [B true]) := s9 T11 lx11 cf11
theorem s10' : PSound Try.prog 10 (specF (ι := {x : Nat × Nat × Nat // x.1 < 256 ∧ x.2.1 < 256 ∧ x.2.2 < 256}) (fun x => [U x.1.1, U x.1.2.1, U x.1.2.2]) fun _ => retOf [B true]) := s10 T11 lx11 cf11
end Go.AM
