/- Writeback: the laws Steps and Ends at the table. -/
import Derived.Test.YtfmdbbpeeppiiaaWb19
import Derived.Test.YtfmdbbpeeppiiaaWb20
import Derived.Test.YtfmdbbpeeppiiaaWb23
set_option linter.all false

namespace Go.AM
open Go Go.Proofs

theorem F27_flat : ∀ a0 avs r s ys, F27 a0 avs = some (r, .ow s ys) → ∀ e ∈ ys, ∀ a ∈ e, a.plain := by
  intro a0 avs r s ys h
  obtain ⟨i, _, _, h3, h4⟩ := specM_some h
  simp only [AV.ow.injEq] at h4
  obtain ⟨_, rfl⟩ := h4
  intro e he a ha
  obtain ⟨x, _, rfl⟩ := List.mem_map.1 he
  simp at ha
  rcases ha with rfl | rfl | rfl <;> trivial
theorem rle_rd (l : List Tp) (n : Int) : RLe (retOf [AV.ow 3 (drows l), I n]) (retOf [AV.rd 3 (drows l), I n]) := by
  simp [RLe, retOf, SLeVs, SLeV, SLe]
theorem g24 : PSound Try.prog 24 wrtFr := (s24 T19 wx19).softF fun _ => rle_rd _ _
noncomputable def V24 : AX := T11.add 24 (callD wrtFr)
theorem v24 : XOK Try.prog V24 := xok_add t11 (.inl ⟨g24.callD, body_ok _ Try.func24 (by kernel_rfl)⟩) fun _ _ _ _ h => callD_keys h
noncomputable def V27 : AX := V24.add 27 (callK F27)
theorem v27 : XOK Try.prog V27 := xok_putM v24 (by kernel_rfl) (.inl ⟨(s27 V24 v24 w0T).callK F27_flat, body_ok _ Try.func27 (by kernel_rfl)⟩) fun _ _ _ _ h => callK_keys h
theorem s8' : PSound Try.prog 8 (specF (ι := {x : List Tp × Int × Bool // x.1.length ≤ 9223372036854775807}) (fun x => [.rd 3 (drows x.1.1), I x.1.2.1, B x.1.2.2]) fun _ => retOf [B true]) := s8 V27 v27 w0T cf10 rfl rfl rfl rfl cf11
theorem s9' : PSound Try.prog 9 (specF (ι := {l : List Tp // l.length ≤ 9223372036854775807}) (fun x => [.rd 3 (drows x.1)]) fun _ => retOf [B true]) := s9 T11 lx11 cf11
end Go.AM
