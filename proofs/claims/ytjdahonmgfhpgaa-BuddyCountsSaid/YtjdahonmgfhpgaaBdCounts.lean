/- BuddyCounts: for every argument the law answers true and leaves its arguments as they were. No condition. -/
import Derived.Test.YtjdahonmgfhpgaaRows
import Derived.Test.YtjdahonmgfhpgaaBdV
set_option linter.all false

namespace Go.Proofs.Ytjdahonmgfhpgaa
open Go.ChangeShapes Go.WideShapes Go.ChangeAt Go.RowKit Go.AM

set_option maxRecDepth 100000 in
theorem buddyCounts_lifted (os : Os) (started : os.Started) (H : Type) (enc : TypeId × Value → H) :
    ReturnsInHanded {} Try.checked os 12 .any (Rows.buddyCountsSpec.pre6 enc Try.prog Try.f12 Rows.buddyCountsRow.domain false) (Rows.buddyCountsSpec.post enc Try.prog Try.f12 false true false false) := by
  refine returnsInHanded_of_change (C := Try.checked) owns started (by kernel_rfl) Try.func12
    (ChangeSpec.witness6 (enc := enc) (C := Try.checked) false ⟨#[], #[.agg #[.int .i64 0, .int .i64 0, .int .i64 0, .int .i64 0, .int .i64 0, .slice none 0 0, .slice none 0 0, .slice none 0 0, .slice none 0 0, .slice none 0 0], .int .i64 0], []⟩ 8 (by kernel_rfl) (by kernel_rfl) (by kernel_rfl) (by kernel_rfl)) ?_
  intro W base args ds gs before hval hW _ _
  exact law_contract (tb := 4) s12' laid rfl (fun H ds hd => by
    match ds, hd with
    | [d0, d1], _ => exact ⟨rfl, rfl, rfl⟩) rfl Try.underlying4 (by kernel_rfl) allocs_F hval hW

theorem buddyCounts_holds : Rows.BuddyCountsSaid :=
  OpenClaim.holds_of_wide 12 Try.f12 rfl rfl rfl rfl rfl rfl rfl ⟨rfl, rfl, rfl, rfl, rfl⟩ rfl rfl rfl rfl rfl (by kernel_rfl) Try.func12 (by kernel_rfl)
    (of_decide_eq_true (by kernel_rfl)) (by unfold Func.isWrapper; first | (rw [if_pos (by decide +kernel)]; kernel_rfl) | (rw [if_neg (by decide +kernel)]; exact ⟨rfl, rfl⟩))
    (fun os started H enc _ => buddyCounts_lifted os started H enc)
end Go.Proofs.Ytjdahonmgfhpgaa
