/- Slices that are nil count as empty ones. -/
import Derived.Test.YtdhhdnbdceoenaaAmW
import Derived.Test.YtdhhdnbdceoenaaAmZa
set_option linter.all false

namespace Go.AM
open Go

def nilA (s : Nat) : AV → AV
  | .v (.slice none 0 0) => .rd s []
  | a => a
def nilV (s : Nat) : AV → AV
  | .agg cs => .agg (cs.map (nilA s))
  | a => nilA s a

theorem nilA_ok {s : Nat} {w : World} {G : Nat → Prop} {a : AV} {x : Value} (h : CRep w G a x) : CRep w G (nilA s a) x := by
  unfold nilA
  split
  · simp only [CRep] at h ⊢
    subst h
    exact ⟨none, 0, rfl, by simp, fun _ => rfl, .inl trivial⟩
  · exact h
theorem nilL_ok {s : Nat} {w : World} {G : Nat → Prop} : ∀ {as : List AV} {xs : List Value}, CRepL w G as xs → CRepL w G (as.map (nilA s)) xs
  | [], [], h => h
  | a :: as, x :: xs, h => by simp only [CRepL, List.map_cons] at h ⊢; exact ⟨nilA_ok h.1, nilL_ok h.2⟩
  | [], _ :: _, h => by simp [CRepL] at h
  | _ :: _, [], h => by simp [CRepL] at h
theorem nilV_ok {s : Nat} {w : World} {G : Nat → Prop} {a : AV} {x : Value} (h : CRep w G a x) : CRep w G (nilV s a) x := by
  unfold nilV
  split
  · simp only [CRep] at h ⊢
    obtain ⟨vs, h1, h2, h3⟩ := h
    exact ⟨vs, h1, h2, nilL_ok h3⟩
  · exact nilA_ok h
theorem nilVs_ok {s : Nat} {w : World} {G : Nat → Prop} : ∀ {as : List AV} {xs : List Value}, CRepL w G as xs → CRepL w G (as.map (nilV s)) xs
  | [], [], h => h
  | a :: as, x :: xs, h => by simp only [CRepL, List.map_cons] at h ⊢; exact ⟨nilV_ok h.1, nilVs_ok h.2⟩
  | [], _ :: _, h => by simp [CRepL] at h
  | _ :: _, [], h => by simp [CRepL] at h

theorem PSound.nil {P : Program} {f : FuncId} {F : List AV → Option AV} (h : PSound P f F) (s : Nat) : PSound P f fun avs => F (avs.map (nilV s)) :=
  fun w G args avs r hr hG ha => h w G args _ r hr hG (nilVs_ok ha)

theorem xok_specn {P : Program} {X : AX} (h : XOK P X) {f : FuncId} {fn : Func} {ι : Type} {A : ι → List AV} {R : ι → AV} (s : Nat) (hs : PSound P f (specF A R)) (hfl : ∀ i, (R i).flat) (hf : P.funcs[f]? = some fn) (hn : (fn.body.isSome && !(fn.name == "runtime.NumGoroutine")) = true) :
    XOK P (X.add f (callP fun avs => specF A R (avs.map (nilV s)))) :=
  xok_add h (.inl ⟨(hs.nil s).callP fun _ _ h => specF_flat hfl h, body_ok fn hf hn⟩) fun _ _ _ _ h => callP_keys h
attribute [simp] AV.iso isoL AV.cur curL AO.iso AO.cur swpL keepM
end Go.AM
