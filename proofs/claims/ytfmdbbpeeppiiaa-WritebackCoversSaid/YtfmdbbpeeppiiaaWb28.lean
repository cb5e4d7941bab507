/- Writeback: the law Covers at the table. -/
import Derived.Test.YtfmdbbpeeppiiaaWb25
import Derived.Test.YtfmdbbpeeppiiaaWb27b
set_option linter.all false

namespace Go.AM
open Go Go.Proofs

noncomputable def V43 : AX := T11.eqAt 43
theorem v43 : XOK Try.prog V43 := xok_eq t11 eqok43
theorem w43 : V43.W wT := ⟨rfl, rfl⟩
theorem s7' : PSound Try.prog 7 (specF (ι := {x : List Tp × Int // x.1.length ≤ 9223372036854775807}) (fun x => [.rd 3 (drows x.1.1), I x.1.2]) fun _ => retOf [B true]) := s7 V43 v43 w43 rfl cf10 rfl cf11
end Go.AM
