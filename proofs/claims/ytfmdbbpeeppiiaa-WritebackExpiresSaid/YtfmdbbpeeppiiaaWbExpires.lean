/- WritebackExpires: for every argument the law answers true and leaves its arguments as they were. No condition. -/
import Derived.Test.YtfmdbbpeeppiiaaRows
import Derived.Test.YtfmdbbpeeppiiaaWb19
set_option linter.all false

namespace Go.Proofs.Ytfmdbbpeeppiiaa
open Go.ChangeShapes Go.WideShapes Go.ChangeAt Go.RowKit Go.AM

set_option maxRecDepth 100000 in
theorem writebackExpires_lifted (os : Os) (started : os.Started) (H : Type) (enc : TypeId × Value → H) :
    ReturnsInHanded {} Try.checked os 4 .any (Rows.writebackExpiresSpec.pre6 enc Try.prog Try.f4 Rows.writebackExpiresRow.domain false) (Rows.writebackExpiresSpec.post enc Try.prog Try.f4 false true false false) := by
  refine returnsInHanded_of_change (C := Try.checked) owns started (by kernel_rfl) Try.func4
    (ChangeSpec.witness6 (enc := enc) (C := Try.checked) false ⟨#[], #[.slice none 0 0, .int .i64 0, .int .i64 0], []⟩ 8 (by kernel_rfl) (by kernel_rfl) (by kernel_rfl) (by kernel_rfl)) ?_
  intro W base args ds gs before hval hW _ _
  exact law_contract (tb := 4) s4' laid rfl (fun H ds hd => by
    match ds, hd with
    | [d0, d1, d2], _ => exact ⟨rfl, rfl, rfl⟩) rfl Try.underlying4 (by kernel_rfl) pii_F hval hW

theorem writebackExpires_holds : Rows.WritebackExpiresSaid :=
  OpenClaim.holds_of_wide 4 Try.f4 rfl rfl rfl rfl rfl rfl rfl ⟨rfl, rfl, rfl, rfl, rfl⟩ rfl rfl rfl rfl rfl (by kernel_rfl) Try.func4 (by kernel_rfl)
    (of_decide_eq_true (by kernel_rfl)) (by unfold Func.isWrapper; first | (rw [if_pos (by decide +kernel)]; kernel_rfl) | (rw [if_neg (by decide +kernel)]; exact ⟨rfl, rfl⟩))
    (fun os started H enc _ => writebackExpires_lifted os started H enc)
end Go.Proofs.Ytfmdbbpeeppiiaa
