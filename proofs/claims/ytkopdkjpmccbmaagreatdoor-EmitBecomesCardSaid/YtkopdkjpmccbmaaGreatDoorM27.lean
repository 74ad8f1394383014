/- A part of the proof of: EmitBecomes: what a term becomes by patterns, and a pattern's name, is what the document says, or the error is told. -/
import Derived.Test.YtkopdkjpmccbmaaGreatDoorM24
import Derived.Test.YtkopdkjpmccbmaaGreatDoorM25
import Derived.Test.YtkopdkjpmccbmaaGreatDoorProg
import Derived.KernelRfl
namespace Go.AM
open Go.Proofs
set_option maxRecDepth 100000
set_option maxHeartbeats 0
theorem c9 : compFunc Tryz.prog cfg 9 Tryz.f9 = some a9 := by kernel_rfl
theorem c10 : compFunc Tryz.prog cfg 10 Tryz.f10 = some a10 := by kernel_rfl
theorem c11 : compFunc Tryz.prog cfg 11 Tryz.f11 = some a11 := by kernel_rfl
theorem c17 : compFunc Tryz.prog cfg 17 Tryz.f17 = some a17 := by kernel_rfl
theorem c20 : compFunc Tryz.prog cfg 20 Tryz.f20 = some a20 := by kernel_rfl
theorem c28 : compFunc Tryz.prog cfg 28 Tryz.f28 = some a28 := by kernel_rfl
theorem c44 : compFunc Tryz.prog cfg 44 Tryz.f44 = some a44 := by kernel_rfl
theorem c50 : compFunc Tryz.prog cfg 50 Tryz.f50 = some a50 := by kernel_rfl
theorem c52 : compFunc Tryz.prog cfg 52 Tryz.f52 = some a52 := by kernel_rfl
theorem c59 : compFunc Tryz.prog cfg 59 Tryz.f59 = some a59 := by kernel_rfl
theorem c60 : compFunc Tryz.prog cfg 60 Tryz.f60 = some a60 := by kernel_rfl
theorem c64 : compFunc Tryz.prog cfg 64 Tryz.f64 = some a64 := by kernel_rfl
theorem c71 : compFunc Tryz.prog cfg 71 Tryz.f71 = some a71 := by kernel_rfl
theorem c74 : compFunc Tryz.prog cfg 74 Tryz.f74 = some a74 := by kernel_rfl
theorem c76 : compFunc Tryz.prog cfg 76 Tryz.f76 = some a76 := by kernel_rfl
theorem c78 : compFunc Tryz.prog cfg 78 Tryz.f78 = some a78 := by kernel_rfl
theorem c79 : compFunc Tryz.prog cfg 79 Tryz.f79 = some a79 := by kernel_rfl
theorem c80 : compFunc Tryz.prog cfg 80 Tryz.f80 = some a80 := by kernel_rfl
theorem c82 : compFunc Tryz.prog cfg 82 Tryz.f82 = some a82 := by kernel_rfl
theorem c102 : compFunc Tryz.prog cfg 102 Tryz.f102 = some a102 := by kernel_rfl
theorem c109 : compFunc Tryz.prog cfg 109 Tryz.f109 = some a109 := by kernel_rfl
theorem c116 : compFunc Tryz.prog cfg 116 Tryz.f116 = some a116 := by kernel_rfl
theorem c117 : compFunc Tryz.prog cfg 117 Tryz.f117 = some a117 := by kernel_rfl
theorem c120 : compFunc Tryz.prog cfg 120 Tryz.f120 = some a120 := by kernel_rfl
theorem c122 : compFunc Tryz.prog cfg 122 Tryz.f122 = some a122 := by kernel_rfl
theorem c131 : compFunc Tryz.prog cfg 131 Tryz.f131 = some a131 := by kernel_rfl
theorem c140 : compFunc Tryz.prog cfg 140 Tryz.f140 = some a140 := by kernel_rfl
theorem c143 : compFunc Tryz.prog cfg 143 Tryz.f143 = some a143 := by kernel_rfl
theorem c147 : compFunc Tryz.prog cfg 147 Tryz.f147 = some a147 := by kernel_rfl
theorem c154 : compFunc Tryz.prog cfg 154 Tryz.f154 = some a154 := by kernel_rfl
theorem c158 : compFunc Tryz.prog cfg 158 Tryz.f158 = some a158 := by kernel_rfl
theorem c161 : compFunc Tryz.prog cfg 161 Tryz.f161 = some a161 := by kernel_rfl
theorem c168 : compFunc Tryz.prog cfg 168 Tryz.f168 = some a168 := by kernel_rfl
theorem c183 : compFunc Tryz.prog cfg 183 Tryz.f183 = some a183 := by kernel_rfl
theorem c187 : compFunc Tryz.prog cfg 187 Tryz.f187 = some a187 := by kernel_rfl
end Go.AM
