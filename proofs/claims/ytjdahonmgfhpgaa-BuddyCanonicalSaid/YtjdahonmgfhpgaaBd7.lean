/- The fixed example of every statement, evaluated. -/
import Derived.Test.YtjdahonmgfhpgaaBd6
set_option linter.all false

namespace Go.AM
open Go Go.Proofs
def zA : AV := .agg [I 0, I 0, I 0, I 20, I 0, .rd 1 [], .rd 1 [], .rd 1 [[I 16]], .rd 1 [], .rd 1 [[I 0]]]
def yA : AV := .agg [I 0, I 0, I 0, I 20, I 0, .rd 1 [], .rd 1 [[I 18]], .rd 1 [], .rd 1 [], .rd 1 [[I 0]]]
theorem e18 : evF Try.f18 400 [I 0, I 0, I 0, I 20, I 0] = some (.tup [.agg [I 0, I 0, I 0, I 20, I 0, .ow 1 [], .ow 1 [], .ow 1 [[I 16]], .ow 1 [], .ow 1 [[I 0]]], I 0]) := by kernel_rfl
theorem e16 : evF Try.f16 400 [zA] = some (I 0) := by kernel_rfl
theorem e21 : evF Try.f21 400 [zA, I 1] = some (.tup [.agg [I 0, I 0, I 0, I 20, I 0, .ow 1 [], .ow 1 [[I 18]], .ow 1 [], .ow 1 [], .ow 1 [[I 0]]], I 16, I 0]) := by kernel_rfl
theorem e23 : evF Try.f23 400 [yA, I 16, I 1] = some (.tup [.agg [I 0, I 0, I 0, I 20, I 0, .ow 1 [], .ow 1 [], .ow 1 [[I 16]], .ow 1 [], .ow 1 [[I 0]]], I 0]) := by kernel_rfl
theorem e20 : evF Try.f20 400 [zA, zA] = some (B true) := by kernel_rfl
theorem e26a : evF Try.f26 400 [yA, I 17] = some (B false) := by kernel_rfl
theorem e26b : evF Try.f26 400 [yA, I 18] = some (B true) := by kernel_rfl
theorem e35 : evF Try.f35 400 [yA] = some (I 18) := by kernel_rfl
theorem e37 : evF Try.f37 400 [zA] = some (I 4) := by kernel_rfl
theorem e39 : evF Try.f39 400 [yA, I 2] = some (I 2) := by kernel_rfl
