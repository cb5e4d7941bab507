/- The fixed example of every statement holds. -/
import Derived.Test.YtjdahonmgfhpgaaBd7
import Derived.Test.YtjdahonmgfhpgaaAmW
set_option linter.all false

namespace Go.AM
open Go Go.Proofs

theorem evx (n : Nat) : XOK Try.prog (ev.ax Try.prog n) := xok_eval ty_ok mixed x1 evs (fun f h => by
  simp only [ev, Bool.not_eq_false'] at h
  exact List.contains_iff_mem.1 h) ev_check n

theorem evF_sound {f : FuncId} {fn : Func} {c : Code} (hf : Try.prog.funcs[f]? = some fn) (hb : fn.body = some c) (ho : codeOrd (ev.ax Try.prog 0) c = true) : PSound Try.prog f (evF fn 400) := by
  have h := psound_eval 400 (evx 400) mixed hf hb (by rw [conflict_congr (X := ev.ax Try.prog 400) (Y := ev.ax Try.prog 0) rfl rfl]; exact ho)
  have e : evF fn 400 = evalP (Types Try.prog) (ev.ax Try.prog 400) fn c 400 := by
    funext avs
    simp only [evF, hb, ty_ok]
  rw [e]; exact h

def zo : AV := .agg [I 0, I 0, I 0, I 20, I 0, .ow 1 [], .ow 1 [], .ow 1 [[I 16]], .ow 1 [], .ow 1 [[I 0]]]
def yo : AV := .agg [I 0, I 0, I 0, I 20, I 0, .ow 1 [], .ow 1 [[I 18]], .ow 1 [], .ow 1 [], .ow 1 [[I 0]]]
def m16 := memo [([zA], I 0)]
def m18 := memo [([I 0, I 0, I 0, I 20, I 0], .tup [zo, I 0])]
def m20 := memo [([zA, zA], B true)]
def m21 := memo [([zA, I 1], .tup [yo, I 16, I 0])]
def m23 := memo [([yA, I 16, I 1], .tup [zo, I 0])]
def m26 := memo [([yA, I 17], B false), ([yA, I 18], B true)]
def m35 := memo [([yA], I 18)]
def m37 := memo [([zA], I 4)]
def m39 := memo [([yA, I 2], I 2)]
def wE (f : FuncId) : Bool := Nat.beq f 48
def XE : AX := (((((((((AX.start wE).add 16 (callP m16)).add 18 (callP m18)).add 20 (callP m20)).add 21 (callP m21)).add 23 (callP m23)).add 26 (callP m26)).add 35 (callP m35)).add 37 (callP m37)).add 39 (callP m39)

theorem add_memo {X : AX} (h : XOK Try.prog X) {f : FuncId} {fn : Func} {c : Code} {tab : List (List AV × AV)} (hf : Try.prog.funcs[f]? = some fn) (hb : fn.body = some c) (ho : codeOrd (ev.ax Try.prog 0) c = true) (ht : ∀ p ∈ tab, evF fn 400 p.1 = some p.2) (hfl : tab.all (fun p => p.2.flatB) = true) (hn : (fn.body.isSome && !(fn.name == "runtime.NumGoroutine")) = true) :
    XOK Try.prog (X.add f (callP (memo tab))) :=
  xok_add h (.inl ⟨(memo_sound (evF_sound hf hb ho) ht).callP fun _ _ h => memo_flat hfl h, body_ok fn hf hn⟩) fun _ _ _ _ h => callP_keys h

theorem xe : XOK Try.prog XE :=
  add_memo (add_memo (add_memo (add_memo (add_memo (add_memo (add_memo (add_memo (add_memo (xok_start _ _)
    Try.func16 rfl (by kernel_rfl) (by simpa using e16) (by kernel_rfl) (by kernel_rfl))
    Try.func18 rfl (by kernel_rfl) (by simpa [zo] using e18) (by kernel_rfl) (by kernel_rfl))
    Try.func20 rfl (by kernel_rfl) (by simpa using e20) (by kernel_rfl) (by kernel_rfl))
    Try.func21 rfl (by kernel_rfl) (by simpa [yo] using e21) (by kernel_rfl) (by kernel_rfl))
    Try.func23 rfl (by kernel_rfl) (by simpa [zo] using e23) (by kernel_rfl) (by kernel_rfl))
    Try.func26 rfl (by kernel_rfl) (by simpa using ⟨e26a, e26b⟩) (by kernel_rfl) (by kernel_rfl))
    Try.func35 rfl (by kernel_rfl) (by simpa using e35) (by kernel_rfl) (by kernel_rfl))
    Try.func37 rfl (by kernel_rfl) (by simpa using e37) (by kernel_rfl) (by kernel_rfl))
    Try.func39 rfl (by kernel_rfl) (by simpa using e39) (by kernel_rfl) (by kernel_rfl)

noncomputable def awF (avs : List AV) : Option AV := match Try.f14.body with
  | some c => evalP (tyT Try.prog tyTab) XE Try.f14 c 400 avs
  | none => none
theorem aw_eval : awF [] = some (B true) := by kernel_rfl
theorem awF_sound {c : Code} (hb : Try.f14.body = some c) (ho : codeOrd XE c = true) : PSound Try.prog 14 awF := by
  have h := psound_eval (X := XE) (fn := Try.f14) 400 xe mixed Try.func14 hb ho
  have e : awF = evalP (Types Try.prog) XE Try.f14 c 400 := by
    funext avs
    simp only [awF, hb, ty_ok]
  rw [e]; exact h
def F14 := memo [([], B true)]
theorem s14 : PSound Try.prog 14 F14 := memo_sound (awF_sound rfl (by kernel_rfl)) (by simpa using aw_eval)
end Go.AM
