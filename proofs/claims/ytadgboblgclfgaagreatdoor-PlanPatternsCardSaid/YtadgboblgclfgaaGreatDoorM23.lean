/- A part of the proof of: PlanPatterns: a pattern of a Call, and which of some patterns covers it, is what the document says, or the error is told. -/
import Derived.Test.YtadgboblgclfgaaGreatDoorM20
import Derived.Test.YtadgboblgclfgaaGreatDoorM21
import Derived.Test.YtadgboblgclfgaaGreatDoorProg
import Derived.KernelRfl
namespace Go.AM
open Go.Proofs
set_option maxRecDepth 100000
set_option maxHeartbeats 0
theorem c5 : compFunc Tryz.prog cfg 5 Tryz.f5 = some a5 := by kernel_rfl
theorem c17 : compFunc Tryz.prog cfg 17 Tryz.f17 = some a17 := by kernel_rfl
theorem c28 : compFunc Tryz.prog cfg 28 Tryz.f28 = some a28 := by kernel_rfl
theorem c29 : compFunc Tryz.prog cfg 29 Tryz.f29 = some a29 := by kernel_rfl
theorem c47 : compFunc Tryz.prog cfg 47 Tryz.f47 = some a47 := by kernel_rfl
theorem c54 : compFunc Tryz.prog cfg 54 Tryz.f54 = some a54 := by kernel_rfl
theorem c70 : compFunc Tryz.prog cfg 70 Tryz.f70 = some a70 := by kernel_rfl
theorem c84 : compFunc Tryz.prog cfg 84 Tryz.f84 = some a84 := by kernel_rfl
theorem c85 : compFunc Tryz.prog cfg 85 Tryz.f85 = some a85 := by kernel_rfl
theorem c86 : compFunc Tryz.prog cfg 86 Tryz.f86 = some a86 := by kernel_rfl
theorem c89 : compFunc Tryz.prog cfg 89 Tryz.f89 = some a89 := by kernel_rfl
theorem c97 : compFunc Tryz.prog cfg 97 Tryz.f97 = some a97 := by kernel_rfl
theorem c99 : compFunc Tryz.prog cfg 99 Tryz.f99 = some a99 := by kernel_rfl
theorem c103 : compFunc Tryz.prog cfg 103 Tryz.f103 = some a103 := by kernel_rfl
theorem c104 : compFunc Tryz.prog cfg 104 Tryz.f104 = some a104 := by kernel_rfl
theorem c105 : compFunc Tryz.prog cfg 105 Tryz.f105 = some a105 := by kernel_rfl
theorem c106 : compFunc Tryz.prog cfg 106 Tryz.f106 = some a106 := by kernel_rfl
theorem c109 : compFunc Tryz.prog cfg 109 Tryz.f109 = some a109 := by kernel_rfl
theorem c111 : compFunc Tryz.prog cfg 111 Tryz.f111 = some a111 := by kernel_rfl
theorem c113 : compFunc Tryz.prog cfg 113 Tryz.f113 = some a113 := by kernel_rfl
theorem c114 : compFunc Tryz.prog cfg 114 Tryz.f114 = some a114 := by kernel_rfl
theorem c134 : compFunc Tryz.prog cfg 134 Tryz.f134 = some a134 := by kernel_rfl
theorem c137 : compFunc Tryz.prog cfg 137 Tryz.f137 = some a137 := by kernel_rfl
theorem c138 : compFunc Tryz.prog cfg 138 Tryz.f138 = some a138 := by kernel_rfl
theorem c139 : compFunc Tryz.prog cfg 139 Tryz.f139 = some a139 := by kernel_rfl
theorem c143 : compFunc Tryz.prog cfg 143 Tryz.f143 = some a143 := by kernel_rfl
theorem c162 : compFunc Tryz.prog cfg 162 Tryz.f162 = some a162 := by kernel_rfl
theorem c183 : compFunc Tryz.prog cfg 183 Tryz.f183 = some a183 := by kernel_rfl
theorem c186 : compFunc Tryz.prog cfg 186 Tryz.f186 = some a186 := by kernel_rfl
theorem c196 : compFunc Tryz.prog cfg 196 Tryz.f196 = some a196 := by kernel_rfl
theorem c197 : compFunc Tryz.prog cfg 197 Tryz.f197 = some a197 := by kernel_rfl
theorem c198 : compFunc Tryz.prog cfg 198 Tryz.f198 = some a198 := by kernel_rfl
theorem c199 : compFunc Tryz.prog cfg 199 Tryz.f199 = some a199 := by kernel_rfl
theorem c211 : compFunc Tryz.prog cfg 211 Tryz.f211 = some a211 := by kernel_rfl
theorem c214 : compFunc Tryz.prog cfg 214 Tryz.f214 = some a214 := by kernel_rfl
theorem c230 : compFunc Tryz.prog cfg 230 Tryz.f230 = some a230 := by kernel_rfl
theorem c245 : compFunc Tryz.prog cfg 245 Tryz.f245 = some a245 := by kernel_rfl
theorem c248 : compFunc Tryz.prog cfg 248 Tryz.f248 = some a248 := by kernel_rfl
theorem c252 : compFunc Tryz.prog cfg 252 Tryz.f252 = some a252 := by kernel_rfl
theorem c254 : compFunc Tryz.prog cfg 254 Tryz.f254 = some a254 := by kernel_rfl
theorem c256 : compFunc Tryz.prog cfg 256 Tryz.f256 = some a256 := by kernel_rfl
theorem c280 : compFunc Tryz.prog cfg 280 Tryz.f280 = some a280 := by kernel_rfl
theorem c294 : compFunc Tryz.prog cfg 294 Tryz.f294 = some a294 := by kernel_rfl
theorem c298 : compFunc Tryz.prog cfg 298 Tryz.f298 = some a298 := by kernel_rfl
end Go.AM
