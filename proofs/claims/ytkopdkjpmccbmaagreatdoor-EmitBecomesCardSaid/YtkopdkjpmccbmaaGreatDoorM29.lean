/- A part of the proof of: EmitBecomes: what a term becomes by patterns, and a pattern's name, is what the document says, or the error is told. -/
import Derived.Test.YtkopdkjpmccbmaaGreatDoorM24
import Derived.Test.YtkopdkjpmccbmaaGreatDoorM25
import Derived.Test.YtkopdkjpmccbmaaGreatDoorProg
import Derived.KernelRfl
namespace Go.AM
open Go.Proofs
set_option maxRecDepth 100000
set_option maxHeartbeats 0
theorem c13 : compFunc Tryz.prog cfg 13 Tryz.f13 = some a13 := by kernel_rfl
theorem c15 : compFunc Tryz.prog cfg 15 Tryz.f15 = some a15 := by kernel_rfl
theorem c23 : compFunc Tryz.prog cfg 23 Tryz.f23 = some a23 := by kernel_rfl
theorem c31 : compFunc Tryz.prog cfg 31 Tryz.f31 = some a31 := by kernel_rfl
theorem c35 : compFunc Tryz.prog cfg 35 Tryz.f35 = some a35 := by kernel_rfl
theorem c45 : compFunc Tryz.prog cfg 45 Tryz.f45 = some a45 := by kernel_rfl
theorem c46 : compFunc Tryz.prog cfg 46 Tryz.f46 = some a46 := by kernel_rfl
theorem c47 : compFunc Tryz.prog cfg 47 Tryz.f47 = some a47 := by kernel_rfl
theorem c49 : compFunc Tryz.prog cfg 49 Tryz.f49 = some a49 := by kernel_rfl
theorem c54 : compFunc Tryz.prog cfg 54 Tryz.f54 = some a54 := by kernel_rfl
theorem c61 : compFunc Tryz.prog cfg 61 Tryz.f61 = some a61 := by kernel_rfl
theorem c62 : compFunc Tryz.prog cfg 62 Tryz.f62 = some a62 := by kernel_rfl
theorem c66 : compFunc Tryz.prog cfg 66 Tryz.f66 = some a66 := by kernel_rfl
theorem c73 : compFunc Tryz.prog cfg 73 Tryz.f73 = some a73 := by kernel_rfl
theorem c84 : compFunc Tryz.prog cfg 84 Tryz.f84 = some a84 := by kernel_rfl
theorem c88 : compFunc Tryz.prog cfg 88 Tryz.f88 = some a88 := by kernel_rfl
theorem c92 : compFunc Tryz.prog cfg 92 Tryz.f92 = some a92 := by kernel_rfl
theorem c97 : compFunc Tryz.prog cfg 97 Tryz.f97 = some a97 := by kernel_rfl
theorem c99 : compFunc Tryz.prog cfg 99 Tryz.f99 = some a99 := by kernel_rfl
theorem c101 : compFunc Tryz.prog cfg 101 Tryz.f101 = some a101 := by kernel_rfl
theorem c115 : compFunc Tryz.prog cfg 115 Tryz.f115 = some a115 := by kernel_rfl
theorem c118 : compFunc Tryz.prog cfg 118 Tryz.f118 = some a118 := by kernel_rfl
theorem c128 : compFunc Tryz.prog cfg 128 Tryz.f128 = some a128 := by kernel_rfl
theorem c129 : compFunc Tryz.prog cfg 129 Tryz.f129 = some a129 := by kernel_rfl
theorem c130 : compFunc Tryz.prog cfg 130 Tryz.f130 = some a130 := by kernel_rfl
theorem c141 : compFunc Tryz.prog cfg 141 Tryz.f141 = some a141 := by kernel_rfl
theorem c146 : compFunc Tryz.prog cfg 146 Tryz.f146 = some a146 := by kernel_rfl
theorem c152 : compFunc Tryz.prog cfg 152 Tryz.f152 = some a152 := by kernel_rfl
theorem c153 : compFunc Tryz.prog cfg 153 Tryz.f153 = some a153 := by kernel_rfl
theorem c165 : compFunc Tryz.prog cfg 165 Tryz.f165 = some a165 := by kernel_rfl
theorem c166 : compFunc Tryz.prog cfg 166 Tryz.f166 = some a166 := by kernel_rfl
theorem c186 : compFunc Tryz.prog cfg 186 Tryz.f186 = some a186 := by kernel_rfl
theorem c192 : compFunc Tryz.prog cfg 192 Tryz.f192 = some a192 := by kernel_rfl
theorem c207 : compFunc Tryz.prog cfg 207 Tryz.f207 = some a207 := by kernel_rfl
theorem c208 : compFunc Tryz.prog cfg 208 Tryz.f208 = some a208 := by kernel_rfl
end Go.AM
