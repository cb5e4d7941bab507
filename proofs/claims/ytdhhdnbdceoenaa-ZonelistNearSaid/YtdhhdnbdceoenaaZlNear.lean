/- ZonelistNear: for every argument the law answers true and leaves its arguments as they were. No condition. -/
import Derived.Test.YtdhhdnbdceoenaaRows
import Derived.Test.YtdhhdnbdceoenaaZl26
set_option linter.all false

namespace Go.Proofs.Ytdhhdnbdceoenaa
open Go.ChangeShapes Go.WideShapes Go.ChangeAt Go.RowKit Go.AM

set_option maxRecDepth 100000 in
theorem zonelistNear_lifted (os : Os) (started : os.Started) (H : Type) (enc : TypeId × Value → H) :
    ReturnsInHanded {} Try.checked os 7 .any (Rows.zonelistNearSpec.pre6 enc Try.prog Try.f7 Rows.zonelistNearRow.domain false) (Rows.zonelistNearSpec.post enc Try.prog Try.f7 false true false false) := by
  refine returnsInHanded_of_change (C := Try.checked) owns started (by kernel_rfl) Try.func7
    (ChangeSpec.witness6 (enc := enc) (C := Try.checked) false ⟨#[], #[.slice none 0 0, .int .i64 0, .bool false], []⟩ 8 (by kernel_rfl) (by kernel_rfl) (by kernel_rfl) (by kernel_rfl)) ?_
  intro W base args ds gs before hval hW _ _
  exact law_contract (tb := 4) s7' laid rfl (fun H ds hd => by
    match ds, hd with
    | [d0, d1, d2], _ => exact ⟨rfl, rfl, rfl⟩) rfl Try.underlying4 (by kernel_rfl) zib_F hval hW

theorem zonelistNear_holds : Rows.ZonelistNearSaid :=
  OpenClaim.holds_of_wide 7 Try.f7 rfl rfl rfl rfl rfl rfl rfl ⟨rfl, rfl, rfl, rfl, rfl⟩ rfl rfl rfl rfl rfl (by kernel_rfl) Try.func7 (by kernel_rfl)
    (of_decide_eq_true (by kernel_rfl)) (by unfold Func.isWrapper; first | (rw [if_pos (by decide +kernel)]; kernel_rfl) | (rw [if_neg (by decide +kernel)]; exact ⟨rfl, rfl⟩))
    (fun os started H enc _ => zonelistNear_lifted os started H enc)
end Go.Proofs.Ytdhhdnbdceoenaa
