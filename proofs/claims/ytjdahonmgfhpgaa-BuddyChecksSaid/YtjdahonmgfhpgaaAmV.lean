/- Tables of calls whose list of writing functions is fixed from the start. -/
import Derived.Test.YtjdahonmgfhpgaaAmU
set_option linter.all false
namespace Go.AM
open Go

/-- The empty table, with the functions that will write. -/
def AX.start (w : FuncId → Bool) : AX := ⟨fun _ _ _ _ => .none, w, true, fun _ => false⟩

theorem xok_start (P : Program) (w : FuncId → Bool) : XOK P (AX.start w) where
  calls := fun f avs M nid r h => by simp [AX.start] at h
  eqs := fun t h => by simp [AX.start] at h
  dom := fun f avs M nid r h => by simp [AX.start] at h
  anyW := fun f _ => rfl

/-- A function that writes, in its place in the table. -/
theorem xok_putM {P : Program} {X : AX} (h : XOK P X) {f : FuncId} {g : List AV → (Nat → AO) → Nat → Option (AV × List (Nat × AO))} (hw : X.writes f = true) (hg : (CallOK P f g ∧ BodyOK P f) ∨ ExtOK P f g)
    (hd : ∀ avs M nid r, g avs M nid = some r → ∀ b ∈ r.2.map (·.1), (nid ≤ b ∧ b < nid + 16) ∨ M b ≠ .dead) : XOK P (X.add f g) where
  calls := fun k avs M nid r hr => by
    simp only [AX.add] at hr ⊢
    split
    · rename_i e; subst e; exact hg
    · rename_i e
      rw [if_neg e] at hr
      exact h.calls k avs M nid r hr
  eqs := h.eqs
  dom := fun k avs M nid r hr b hb => by
    simp only [AX.add] at hr ⊢
    split at hr
    · rename_i e; subst e
      exact (hd avs M nid r hr b hb).imp id fun h => ⟨hw, h⟩
    · exact h.dom k avs M nid r hr b hb
  anyW := h.anyW

/-- What a table writes. -/
def AX.W (X : AX) (w : FuncId → Bool) : Prop := X.writes = w ∧ X.anyW = true
theorem AX.W.start (w : FuncId → Bool) : (AX.start w).W w := ⟨rfl, rfl⟩
theorem AX.W.add {X : AX} {w : FuncId → Bool} (h : X.W w) (f : FuncId) (g : List AV → (Nat → AO) → Nat → Option (AV × List (Nat × AO))) : (X.add f g).W w := h

theorem ordB_w {X : AX} {w : FuncId → Bool} (h : X.W w) {ops : Array Oper} : ordB X ops = ordB (AX.start w) ops := by
  obtain ⟨a, b, c, d⟩ := X
  obtain ⟨h1, h2⟩ := h
  simp only at h1 h2
  subst h1 h2
  rfl
end Go.AM
