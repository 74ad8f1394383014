/- A part of the proof of: PlanPatterns: a pattern of a Call, and which of some patterns covers it, is what the document says, or the error is told. -/
import Derived.Test.YtadgboblgclfgaaGreatDoorM20
import Derived.Test.YtadgboblgclfgaaGreatDoorM21
import Derived.Test.YtadgboblgclfgaaGreatDoorProg
import Derived.KernelRfl
namespace Go.AM
open Go.Proofs
set_option maxRecDepth 100000
set_option maxHeartbeats 0
theorem c22 : compFunc Tryz.prog cfg 22 Tryz.f22 = some a22 := by kernel_rfl
theorem c25 : compFunc Tryz.prog cfg 25 Tryz.f25 = some a25 := by kernel_rfl
theorem c26 : compFunc Tryz.prog cfg 26 Tryz.f26 = some a26 := by kernel_rfl
theorem c30 : compFunc Tryz.prog cfg 30 Tryz.f30 = some a30 := by kernel_rfl
theorem c40 : compFunc Tryz.prog cfg 40 Tryz.f40 = some a40 := by kernel_rfl
theorem c41 : compFunc Tryz.prog cfg 41 Tryz.f41 = some a41 := by kernel_rfl
theorem c44 : compFunc Tryz.prog cfg 44 Tryz.f44 = some a44 := by kernel_rfl
theorem c46 : compFunc Tryz.prog cfg 46 Tryz.f46 = some a46 := by kernel_rfl
theorem c55 : compFunc Tryz.prog cfg 55 Tryz.f55 = some a55 := by kernel_rfl
theorem c57 : compFunc Tryz.prog cfg 57 Tryz.f57 = some a57 := by kernel_rfl
theorem c76 : compFunc Tryz.prog cfg 76 Tryz.f76 = some a76 := by kernel_rfl
theorem c82 : compFunc Tryz.prog cfg 82 Tryz.f82 = some a82 := by kernel_rfl
theorem c93 : compFunc Tryz.prog cfg 93 Tryz.f93 = some a93 := by kernel_rfl
theorem c108 : compFunc Tryz.prog cfg 108 Tryz.f108 = some a108 := by kernel_rfl
theorem c120 : compFunc Tryz.prog cfg 120 Tryz.f120 = some a120 := by kernel_rfl
theorem c129 : compFunc Tryz.prog cfg 129 Tryz.f129 = some a129 := by kernel_rfl
theorem c132 : compFunc Tryz.prog cfg 132 Tryz.f132 = some a132 := by kernel_rfl
theorem c158 : compFunc Tryz.prog cfg 158 Tryz.f158 = some a158 := by kernel_rfl
theorem c159 : compFunc Tryz.prog cfg 159 Tryz.f159 = some a159 := by kernel_rfl
theorem c163 : compFunc Tryz.prog cfg 163 Tryz.f163 = some a163 := by kernel_rfl
theorem c180 : compFunc Tryz.prog cfg 180 Tryz.f180 = some a180 := by kernel_rfl
theorem c185 : compFunc Tryz.prog cfg 185 Tryz.f185 = some a185 := by kernel_rfl
theorem c195 : compFunc Tryz.prog cfg 195 Tryz.f195 = some a195 := by kernel_rfl
theorem c200 : compFunc Tryz.prog cfg 200 Tryz.f200 = some a200 := by kernel_rfl
theorem c205 : compFunc Tryz.prog cfg 205 Tryz.f205 = some a205 := by kernel_rfl
theorem c208 : compFunc Tryz.prog cfg 208 Tryz.f208 = some a208 := by kernel_rfl
theorem c222 : compFunc Tryz.prog cfg 222 Tryz.f222 = some a222 := by kernel_rfl
theorem c223 : compFunc Tryz.prog cfg 223 Tryz.f223 = some a223 := by kernel_rfl
theorem c231 : compFunc Tryz.prog cfg 231 Tryz.f231 = some a231 := by kernel_rfl
theorem c243 : compFunc Tryz.prog cfg 243 Tryz.f243 = some a243 := by kernel_rfl
theorem c247 : compFunc Tryz.prog cfg 247 Tryz.f247 = some a247 := by kernel_rfl
theorem c249 : compFunc Tryz.prog cfg 249 Tryz.f249 = some a249 := by kernel_rfl
theorem c250 : compFunc Tryz.prog cfg 250 Tryz.f250 = some a250 := by kernel_rfl
theorem c255 : compFunc Tryz.prog cfg 255 Tryz.f255 = some a255 := by kernel_rfl
theorem c257 : compFunc Tryz.prog cfg 257 Tryz.f257 = some a257 := by kernel_rfl
theorem c258 : compFunc Tryz.prog cfg 258 Tryz.f258 = some a258 := by kernel_rfl
theorem c260 : compFunc Tryz.prog cfg 260 Tryz.f260 = some a260 := by kernel_rfl
theorem c261 : compFunc Tryz.prog cfg 261 Tryz.f261 = some a261 := by kernel_rfl
theorem c262 : compFunc Tryz.prog cfg 262 Tryz.f262 = some a262 := by kernel_rfl
theorem c263 : compFunc Tryz.prog cfg 263 Tryz.f263 = some a263 := by kernel_rfl
theorem c282 : compFunc Tryz.prog cfg 282 Tryz.f282 = some a282 := by kernel_rfl
theorem c284 : compFunc Tryz.prog cfg 284 Tryz.f284 = some a284 := by kernel_rfl
theorem c295 : compFunc Tryz.prog cfg 295 Tryz.f295 = some a295 := by kernel_rfl
end Go.AM
