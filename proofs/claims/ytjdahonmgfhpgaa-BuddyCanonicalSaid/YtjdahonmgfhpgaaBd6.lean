/- A part of the proof: what functions of the program compute, by abstract execution of their code. Its theorems hold without further condition. -/
import Derived.Test.YtjdahonmgfhpgaaBd5
set_option linter.all false
namespace Go.AM
open Go Go.Proofs

def evs : List Nat := [14, 16, 18, 20, 21, 23, 26, 32, 35, 37, 39, 41, 42, 43, 48, 50, 52, 55, 56, 57, 64]
def tyTab : List (Nat × TD) := [(3, ⟨.int .i64, 1, 8, [.int .i64 0]⟩), (22, ⟨.slice 3, 1, 24, [.slice none 0 0]⟩), (4, ⟨.bool, 1, 1, [.bool false]⟩), (25, ⟨.struct [(0, 3, 1), (1, 3, 1), (2, 3, 1), (3, 3, 1), (4, 3, 1), (5, 23, 5)], 10, 160, [.int .i64 0,.int .i64 0,.int .i64 0,.int .i64 0,.int .i64 0,.slice none 0 0,.slice none 0 0,.slice none 0 0,.slice none 0 0,.slice none 0 0]⟩), (23, ⟨.array 5 22, 5, 120, [.slice none 0 0,.slice none 0 0,.slice none 0 0,.slice none 0 0,.slice none 0 0]⟩), (44, ⟨.int .u64, 1, 8, [.int .u64 0]⟩)]
theorem ty_ok : tyT Try.prog tyTab = Types Try.prog := tyT_eq (by kernel_rfl)
noncomputable def ev : Ev := ⟨tyT Try.prog tyTab, X1, fun f => f = 51 || f = 53 || f = 59 || f = 60, fun f => f = 48, fun f => !(evs.contains f), fun _ => one1⟩

theorem ev_check : ev.check Try.prog evs = true := by kernel_rfl
noncomputable def evF (fn : Func) (n : Nat) (avs : List AV) : Option AV := match fn.body with
  | some c => evalP (tyT Try.prog tyTab) (ev.ax Try.prog n) fn c n avs
  | none => none
theorem t1 : evF Try.f41 500 [.agg (Zn.cells ⟨0, 0, 0, 20, 0, [], [], [], [], []⟩)] = some (B true) := by kernel_rfl
