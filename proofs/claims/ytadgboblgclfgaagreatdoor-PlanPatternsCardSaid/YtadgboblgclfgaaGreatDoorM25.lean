/- A part of the proof of: PlanPatterns: a pattern of a Call, and which of some patterns covers it, is what the document says, or the error is told. -/
import Derived.Test.YtadgboblgclfgaaGreatDoorM20
import Derived.Test.YtadgboblgclfgaaGreatDoorM21
import Derived.Test.YtadgboblgclfgaaGreatDoorProg
import Derived.KernelRfl
namespace Go.AM
open Go.Proofs
set_option maxRecDepth 100000
set_option maxHeartbeats 0
theorem c20 : compFunc Tryz.prog cfg 20 Tryz.f20 = some a20 := by kernel_rfl
theorem c21 : compFunc Tryz.prog cfg 21 Tryz.f21 = some a21 := by kernel_rfl
theorem c32 : compFunc Tryz.prog cfg 32 Tryz.f32 = some a32 := by kernel_rfl
theorem c42 : compFunc Tryz.prog cfg 42 Tryz.f42 = some a42 := by kernel_rfl
theorem c48 : compFunc Tryz.prog cfg 48 Tryz.f48 = some a48 := by kernel_rfl
theorem c53 : compFunc Tryz.prog cfg 53 Tryz.f53 = some a53 := by kernel_rfl
theorem c59 : compFunc Tryz.prog cfg 59 Tryz.f59 = some a59 := by kernel_rfl
theorem c61 : compFunc Tryz.prog cfg 61 Tryz.f61 = some a61 := by kernel_rfl
theorem c67 : compFunc Tryz.prog cfg 67 Tryz.f67 = some a67 := by kernel_rfl
theorem c71 : compFunc Tryz.prog cfg 71 Tryz.f71 = some a71 := by kernel_rfl
theorem c72 : compFunc Tryz.prog cfg 72 Tryz.f72 = some a72 := by kernel_rfl
theorem c73 : compFunc Tryz.prog cfg 73 Tryz.f73 = some a73 := by kernel_rfl
theorem c75 : compFunc Tryz.prog cfg 75 Tryz.f75 = some a75 := by kernel_rfl
theorem c83 : compFunc Tryz.prog cfg 83 Tryz.f83 = some a83 := by kernel_rfl
theorem c88 : compFunc Tryz.prog cfg 88 Tryz.f88 = some a88 := by kernel_rfl
theorem c90 : compFunc Tryz.prog cfg 90 Tryz.f90 = some a90 := by kernel_rfl
theorem c96 : compFunc Tryz.prog cfg 96 Tryz.f96 = some a96 := by kernel_rfl
theorem c98 : compFunc Tryz.prog cfg 98 Tryz.f98 = some a98 := by kernel_rfl
theorem c107 : compFunc Tryz.prog cfg 107 Tryz.f107 = some a107 := by kernel_rfl
theorem c110 : compFunc Tryz.prog cfg 110 Tryz.f110 = some a110 := by kernel_rfl
theorem c112 : compFunc Tryz.prog cfg 112 Tryz.f112 = some a112 := by kernel_rfl
theorem c115 : compFunc Tryz.prog cfg 115 Tryz.f115 = some a115 := by kernel_rfl
theorem c117 : compFunc Tryz.prog cfg 117 Tryz.f117 = some a117 := by kernel_rfl
theorem c131 : compFunc Tryz.prog cfg 131 Tryz.f131 = some a131 := by kernel_rfl
theorem c136 : compFunc Tryz.prog cfg 136 Tryz.f136 = some a136 := by kernel_rfl
theorem c141 : compFunc Tryz.prog cfg 141 Tryz.f141 = some a141 := by kernel_rfl
theorem c160 : compFunc Tryz.prog cfg 160 Tryz.f160 = some a160 := by kernel_rfl
theorem c182 : compFunc Tryz.prog cfg 182 Tryz.f182 = some a182 := by kernel_rfl
theorem c194 : compFunc Tryz.prog cfg 194 Tryz.f194 = some a194 := by kernel_rfl
theorem c204 : compFunc Tryz.prog cfg 204 Tryz.f204 = some a204 := by kernel_rfl
theorem c206 : compFunc Tryz.prog cfg 206 Tryz.f206 = some a206 := by kernel_rfl
theorem c210 : compFunc Tryz.prog cfg 210 Tryz.f210 = some a210 := by kernel_rfl
theorem c224 : compFunc Tryz.prog cfg 224 Tryz.f224 = some a224 := by kernel_rfl
theorem c232 : compFunc Tryz.prog cfg 232 Tryz.f232 = some a232 := by kernel_rfl
theorem c244 : compFunc Tryz.prog cfg 244 Tryz.f244 = some a244 := by kernel_rfl
theorem c246 : compFunc Tryz.prog cfg 246 Tryz.f246 = some a246 := by kernel_rfl
theorem c259 : compFunc Tryz.prog cfg 259 Tryz.f259 = some a259 := by kernel_rfl
theorem c264 : compFunc Tryz.prog cfg 264 Tryz.f264 = some a264 := by kernel_rfl
theorem c276 : compFunc Tryz.prog cfg 276 Tryz.f276 = some a276 := by kernel_rfl
theorem c277 : compFunc Tryz.prog cfg 277 Tryz.f277 = some a277 := by kernel_rfl
theorem c286 : compFunc Tryz.prog cfg 286 Tryz.f286 = some a286 := by kernel_rfl
theorem c287 : compFunc Tryz.prog cfg 287 Tryz.f287 = some a287 := by kernel_rfl
theorem c288 : compFunc Tryz.prog cfg 288 Tryz.f288 = some a288 := by kernel_rfl
theorem c296 : compFunc Tryz.prog cfg 296 Tryz.f296 = some a296 := by kernel_rfl
theorem c297 : compFunc Tryz.prog cfg 297 Tryz.f297 = some a297 := by kernel_rfl
end Go.AM
