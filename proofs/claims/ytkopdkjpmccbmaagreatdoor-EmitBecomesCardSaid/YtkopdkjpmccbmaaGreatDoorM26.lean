/- A part of the proof of: EmitBecomes: what a term becomes by patterns, and a pattern's name, is what the document says, or the error is told. -/
import Derived.Test.YtkopdkjpmccbmaaGreatDoorM24
import Derived.Test.YtkopdkjpmccbmaaGreatDoorM25
import Derived.Test.YtkopdkjpmccbmaaGreatDoorProg
import Derived.KernelRfl
namespace Go.AM
open Go.Proofs
set_option maxRecDepth 100000
set_option maxHeartbeats 0
theorem c5 : compFunc Tryz.prog cfg 5 Tryz.f5 = some a5 := by kernel_rfl
theorem c7 : compFunc Tryz.prog cfg 7 Tryz.f7 = some a7 := by kernel_rfl
theorem c8 : compFunc Tryz.prog cfg 8 Tryz.f8 = some a8 := by kernel_rfl
theorem c12 : compFunc Tryz.prog cfg 12 Tryz.f12 = some a12 := by kernel_rfl
theorem c26 : compFunc Tryz.prog cfg 26 Tryz.f26 = some a26 := by kernel_rfl
theorem c27 : compFunc Tryz.prog cfg 27 Tryz.f27 = some a27 := by kernel_rfl
theorem c29 : compFunc Tryz.prog cfg 29 Tryz.f29 = some a29 := by kernel_rfl
theorem c30 : compFunc Tryz.prog cfg 30 Tryz.f30 = some a30 := by kernel_rfl
theorem c32 : compFunc Tryz.prog cfg 32 Tryz.f32 = some a32 := by kernel_rfl
theorem c34 : compFunc Tryz.prog cfg 34 Tryz.f34 = some a34 := by kernel_rfl
theorem c43 : compFunc Tryz.prog cfg 43 Tryz.f43 = some a43 := by kernel_rfl
theorem c55 : compFunc Tryz.prog cfg 55 Tryz.f55 = some a55 := by kernel_rfl
theorem c77 : compFunc Tryz.prog cfg 77 Tryz.f77 = some a77 := by kernel_rfl
theorem c81 : compFunc Tryz.prog cfg 81 Tryz.f81 = some a81 := by kernel_rfl
theorem c83 : compFunc Tryz.prog cfg 83 Tryz.f83 = some a83 := by kernel_rfl
theorem c87 : compFunc Tryz.prog cfg 87 Tryz.f87 = some a87 := by kernel_rfl
theorem c93 : compFunc Tryz.prog cfg 93 Tryz.f93 = some a93 := by kernel_rfl
theorem c95 : compFunc Tryz.prog cfg 95 Tryz.f95 = some a95 := by kernel_rfl
theorem c100 : compFunc Tryz.prog cfg 100 Tryz.f100 = some a100 := by kernel_rfl
theorem c106 : compFunc Tryz.prog cfg 106 Tryz.f106 = some a106 := by kernel_rfl
theorem c107 : compFunc Tryz.prog cfg 107 Tryz.f107 = some a107 := by kernel_rfl
theorem c108 : compFunc Tryz.prog cfg 108 Tryz.f108 = some a108 := by kernel_rfl
theorem c111 : compFunc Tryz.prog cfg 111 Tryz.f111 = some a111 := by kernel_rfl
theorem c144 : compFunc Tryz.prog cfg 144 Tryz.f144 = some a144 := by kernel_rfl
theorem c145 : compFunc Tryz.prog cfg 145 Tryz.f145 = some a145 := by kernel_rfl
theorem c155 : compFunc Tryz.prog cfg 155 Tryz.f155 = some a155 := by kernel_rfl
theorem c156 : compFunc Tryz.prog cfg 156 Tryz.f156 = some a156 := by kernel_rfl
theorem c163 : compFunc Tryz.prog cfg 163 Tryz.f163 = some a163 := by kernel_rfl
theorem c188 : compFunc Tryz.prog cfg 188 Tryz.f188 = some a188 := by kernel_rfl
theorem c191 : compFunc Tryz.prog cfg 191 Tryz.f191 = some a191 := by kernel_rfl
theorem c193 : compFunc Tryz.prog cfg 193 Tryz.f193 = some a193 := by kernel_rfl
theorem c194 : compFunc Tryz.prog cfg 194 Tryz.f194 = some a194 := by kernel_rfl
theorem c205 : compFunc Tryz.prog cfg 205 Tryz.f205 = some a205 := by kernel_rfl
theorem c209 : compFunc Tryz.prog cfg 209 Tryz.f209 = some a209 := by kernel_rfl
end Go.AM
