/- MmuStale: for every argument the law answers true and leaves its arguments as they were. No condition. -/
import Derived.Test.YtcfhmdljeeppfaaRows
import Derived.Test.YtcfhmdljeeppfaaSTMg1
set_option linter.all false
namespace Go.Proofs.Ytcfhmdljeeppfaa
open Go.ChangeShapes Go.WideShapes Go.ChangeAt Go.RowKit Go.AM
set_option maxRecDepth 100000 in
theorem mmuStale_lifted (os:Os) (started:os.Started) (H:Type) (enc:TypeId×Value→H) :
  ReturnsInHanded {} Try.checked os 7 .any (Rows.mmuStaleSpec.pre6 enc Try.prog Try.f7 Rows.mmuStaleRow.domain false) (Rows.mmuStaleSpec.post enc Try.prog Try.f7 false true false false):=by
 refine returnsInHanded_of_change (C:=Try.checked) owns started (by kernel_rfl) Try.func7
  (ChangeSpec.witness6 (enc:=enc) (C:=Try.checked) false ⟨#[],#[.agg #[.int .i64 0,.slice none 0 0],.agg #[.int .i64 0,.int .i64 0,.bool false],.int .i64 0],[]⟩ 8 (by kernel_rfl) (by kernel_rfl) (by kernel_rfl) (by kernel_rfl)) ?_
 intro W base args ds gs before hval hW _ _
 exact law_contract (tb:=4) stale' laid rfl (fun H ds hd=>by
  match ds,hd with
  | [d0,d1,d2],_=>exact ⟨rfl,rfl,rfl⟩) rfl Try.underlying4 (by kernel_rfl) tl_try_int_F hval hW
set_option maxHeartbeats 40000000 in
theorem mmuStale_closed:joinedFacts Try.pinned.checked.prog 7 Try.f7 Rows.mmuStaleSpec Rows.mmuStaleRow=true:=by
 unfold joinedFacts
 simp only [Bool.and_eq_true]
 repeat' apply And.intro
 all_goals as_aux_lemma=>kernel_rfl
theorem mmuStale_holds:Rows.MmuStaleSaid :=
 OpenClaim.holds_of_wide 7 Try.f7 rfl rfl rfl rfl rfl rfl rfl ⟨rfl,rfl,rfl,rfl,rfl⟩ rfl rfl rfl rfl rfl (by kernel_rfl) Try.func7 mmuStale_closed
  (of_decide_eq_true (by kernel_rfl)) (by unfold Func.isWrapper;first|(rw [if_pos (by decide +kernel)];kernel_rfl)|(rw [if_neg (by decide +kernel)];exact ⟨rfl,rfl⟩))
  (fun os started H enc _=>mmuStale_lifted os started H enc)
end Go.Proofs.Ytcfhmdljeeppfaa
