/- PagetableUndo: for every argument the law answers true and leaves its arguments as they were. No condition. -/
import Derived.Test.YtcfhmdljeeppfaaGreatRows
import Derived.Test.YtcfhmdljeeppfaaGreatUUPt91
set_option linter.all false
namespace Go.Proofs.YtcfhmdljeeppfaaGreat
open Go.ChangeShapes Go.WideShapes Go.ChangeAt Go.RowKit Go.AM

set_option maxRecDepth 100000 in
theorem pagetableUndo_lifted (os:Os) (started:os.Started) (H:Type) (enc:TypeId×Value→H) :
  ReturnsInHanded {} Tryz.checked os 10 .any (Rows.pagetableUndoSpec.pre6 enc Tryz.prog Tryz.f10 Rows.pagetableUndoRow.domain false) (Rows.pagetableUndoSpec.post enc Tryz.prog Tryz.f10 false true false false):=by
 refine returnsInHanded_of_change (C:=Tryz.checked) owns started (by kernel_rfl) Tryz.func10
  (ChangeSpec.witness6 (enc:=enc) (C:=Tryz.checked) false ⟨#[],#[.agg #[.int .i64 0,.slice none 0 0,.slice none 0 0],.agg #[.int .i64 0,.int .u64 0,.slice none 0 0]],[]⟩ 8 (by kernel_rfl) (by kernel_rfl) (by kernel_rfl) (by kernel_rfl)) ?_
 intro W base args ds gs before hval hW _ _
 exact law_contract (tb:=4) undo' laid rfl (fun H ds hd=>by
  match ds,hd with
  | [d0,d1],_=>exact ⟨rfl,rfl,rfl⟩) rfl Tryz.underlying4 (by kernel_rfl) tab_op_F hval hW

set_option maxHeartbeats 40000000 in
theorem pagetableUndo_closed:joinedFacts Tryz.pinned.checked.prog 10 Tryz.f10 Rows.pagetableUndoSpec Rows.pagetableUndoRow=true:=by
 unfold joinedFacts
 simp only [Bool.and_eq_true]
 repeat' apply And.intro
 all_goals as_aux_lemma=>kernel_rfl
theorem pagetableUndo_holds:Rows.PagetableUndoSaid :=
 OpenClaim.holds_of_wide 10 Tryz.f10 rfl rfl rfl rfl rfl rfl rfl ⟨rfl,rfl,rfl,rfl,rfl⟩ rfl rfl rfl rfl rfl (by kernel_rfl) Tryz.func10 pagetableUndo_closed
  (of_decide_eq_true (by kernel_rfl)) (by unfold Func.isWrapper;first|(rw [if_pos (by decide +kernel)];kernel_rfl)|(rw [if_neg (by decide +kernel)];exact ⟨rfl,rfl⟩))
  (fun os started H enc _=>pagetableUndo_lifted os started H enc)
end Go.Proofs.YtcfhmdljeeppfaaGreat
