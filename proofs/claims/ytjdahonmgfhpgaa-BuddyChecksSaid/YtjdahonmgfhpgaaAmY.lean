/- Specified functions in a table of calls; a law at last. -/
import Derived.Test.YtjdahonmgfhpgaaAmX
set_option linter.all false
namespace Go.AM
open Go

theorem specF_flat {ι : Type} {A : ι → List AV} {R : ι → AV} (h : ∀ i, (R i).flat) {avs : List AV} {r : AV} (hr : specF A R avs = some r) : r.flat := by
  obtain ⟨i, _, rfl⟩ := specF_some hr
  exact h i

theorem callP_spec {ι : Type} {A : ι → List AV} {R : ι → AV} {avs : List AV} {M : Nat → AO} {n : Nat} (i : ι) (hp : peekVals M avs = some (A i)) (inj : ∀ j, A j = A i → R j = R i) (ho : (openRet n (R i)).2.2 ≤ n + 16) :
    callP (specF A R) avs M n = some ((openRet n (R i)).1, (openRet n (R i)).2.1) := by
  unfold callP
  rw [hp]
  simp only [specF_eq i inj, if_pos ho]

theorem xok_spec {P : Program} {X : AX} (h : XOK P X) {f : FuncId} {fn : Func} {ι : Type} {A : ι → List AV} {R : ι → AV} (hs : PSound P f (specF A R)) (hfl : ∀ i, (R i).flat) (hf : P.funcs[f]? = some fn) (hn : (fn.body.isSome && !(fn.name == "runtime.NumGoroutine")) = true) :
    XOK P (X.add f (callP (specF A R))) :=
  xok_add h (.inl ⟨hs.callP fun _ _ h => specF_flat hfl h, body_ok fn hf hn⟩) fun _ _ _ _ h => callP_keys h

@[simp] theorem flat_int {n : Int} : (retOf [I n]).flat := trivial
@[simp] theorem flat_bool {b : Bool} : (retOf [B b]).flat := trivial
@[simp] theorem flat_int2 {n m : Int} : (retOf [I n, I m]).flat := by simp [retOf, AV.flat, AV.flatV, AV.flat1]
@[simp] theorem flat_intb {n : Int} {b : Bool} : (retOf [I n, B b]).flat := by simp [retOf, AV.flat, AV.flatV, AV.flat1]
theorem flat_rows {l : List Int} : (retOf [.ow 1 (irows l)]).flat := by
  simp only [retOf, AV.flat, AV.flatV, AV.flat1]
  intro e he a ha
  obtain ⟨x, _, rfl⟩ := List.mem_map.1 he
  simp at ha; subst ha; trivial
end Go.AM
