/- A part of the proof of: PlanPatterns: a pattern of a Call, and which of some patterns covers it, is what the document says, or the error is told. -/
import Derived.Test.YtadgboblgclfgaaGreatDoorM20
import Derived.Test.YtadgboblgclfgaaGreatDoorM21
import Derived.Test.YtadgboblgclfgaaGreatDoorProg
import Derived.KernelRfl
namespace Go.AM
open Go.Proofs
set_option maxRecDepth 100000
set_option maxHeartbeats 0
theorem c14 : compFunc Tryz.prog cfg 14 Tryz.f14 = some a14 := by kernel_rfl
theorem c27 : compFunc Tryz.prog cfg 27 Tryz.f27 = some a27 := by kernel_rfl
theorem c31 : compFunc Tryz.prog cfg 31 Tryz.f31 = some a31 := by kernel_rfl
theorem c33 : compFunc Tryz.prog cfg 33 Tryz.f33 = some a33 := by kernel_rfl
theorem c35 : compFunc Tryz.prog cfg 35 Tryz.f35 = some a35 := by kernel_rfl
theorem c45 : compFunc Tryz.prog cfg 45 Tryz.f45 = some a45 := by kernel_rfl
theorem c58 : compFunc Tryz.prog cfg 58 Tryz.f58 = some a58 := by kernel_rfl
theorem c60 : compFunc Tryz.prog cfg 60 Tryz.f60 = some a60 := by kernel_rfl
theorem c62 : compFunc Tryz.prog cfg 62 Tryz.f62 = some a62 := by kernel_rfl
theorem c68 : compFunc Tryz.prog cfg 68 Tryz.f68 = some a68 := by kernel_rfl
theorem c69 : compFunc Tryz.prog cfg 69 Tryz.f69 = some a69 := by kernel_rfl
theorem c81 : compFunc Tryz.prog cfg 81 Tryz.f81 = some a81 := by kernel_rfl
theorem c87 : compFunc Tryz.prog cfg 87 Tryz.f87 = some a87 := by kernel_rfl
theorem c91 : compFunc Tryz.prog cfg 91 Tryz.f91 = some a91 := by kernel_rfl
theorem c92 : compFunc Tryz.prog cfg 92 Tryz.f92 = some a92 := by kernel_rfl
theorem c94 : compFunc Tryz.prog cfg 94 Tryz.f94 = some a94 := by kernel_rfl
theorem c95 : compFunc Tryz.prog cfg 95 Tryz.f95 = some a95 := by kernel_rfl
theorem c100 : compFunc Tryz.prog cfg 100 Tryz.f100 = some a100 := by kernel_rfl
theorem c118 : compFunc Tryz.prog cfg 118 Tryz.f118 = some a118 := by kernel_rfl
theorem c119 : compFunc Tryz.prog cfg 119 Tryz.f119 = some a119 := by kernel_rfl
theorem c130 : compFunc Tryz.prog cfg 130 Tryz.f130 = some a130 := by kernel_rfl
theorem c133 : compFunc Tryz.prog cfg 133 Tryz.f133 = some a133 := by kernel_rfl
theorem c135 : compFunc Tryz.prog cfg 135 Tryz.f135 = some a135 := by kernel_rfl
theorem c140 : compFunc Tryz.prog cfg 140 Tryz.f140 = some a140 := by kernel_rfl
theorem c142 : compFunc Tryz.prog cfg 142 Tryz.f142 = some a142 := by kernel_rfl
theorem c144 : compFunc Tryz.prog cfg 144 Tryz.f144 = some a144 := by kernel_rfl
theorem c145 : compFunc Tryz.prog cfg 145 Tryz.f145 = some a145 := by kernel_rfl
theorem c146 : compFunc Tryz.prog cfg 146 Tryz.f146 = some a146 := by kernel_rfl
theorem c147 : compFunc Tryz.prog cfg 147 Tryz.f147 = some a147 := by kernel_rfl
theorem c161 : compFunc Tryz.prog cfg 161 Tryz.f161 = some a161 := by kernel_rfl
theorem c179 : compFunc Tryz.prog cfg 179 Tryz.f179 = some a179 := by kernel_rfl
theorem c181 : compFunc Tryz.prog cfg 181 Tryz.f181 = some a181 := by kernel_rfl
theorem c184 : compFunc Tryz.prog cfg 184 Tryz.f184 = some a184 := by kernel_rfl
theorem c201 : compFunc Tryz.prog cfg 201 Tryz.f201 = some a201 := by kernel_rfl
theorem c202 : compFunc Tryz.prog cfg 202 Tryz.f202 = some a202 := by kernel_rfl
theorem c203 : compFunc Tryz.prog cfg 203 Tryz.f203 = some a203 := by kernel_rfl
theorem c207 : compFunc Tryz.prog cfg 207 Tryz.f207 = some a207 := by kernel_rfl
theorem c209 : compFunc Tryz.prog cfg 209 Tryz.f209 = some a209 := by kernel_rfl
theorem c212 : compFunc Tryz.prog cfg 212 Tryz.f212 = some a212 := by kernel_rfl
theorem c213 : compFunc Tryz.prog cfg 213 Tryz.f213 = some a213 := by kernel_rfl
theorem c251 : compFunc Tryz.prog cfg 251 Tryz.f251 = some a251 := by kernel_rfl
theorem c253 : compFunc Tryz.prog cfg 253 Tryz.f253 = some a253 := by kernel_rfl
theorem c272 : compFunc Tryz.prog cfg 272 Tryz.f272 = some a272 := by kernel_rfl
theorem c281 : compFunc Tryz.prog cfg 281 Tryz.f281 = some a281 := by kernel_rfl
theorem c283 : compFunc Tryz.prog cfg 283 Tryz.f283 = some a283 := by kernel_rfl
end Go.AM
