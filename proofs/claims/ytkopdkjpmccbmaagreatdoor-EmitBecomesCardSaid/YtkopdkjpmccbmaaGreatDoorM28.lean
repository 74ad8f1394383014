/- A part of the proof of: EmitBecomes: what a term becomes by patterns, and a pattern's name, is what the document says, or the error is told. -/
import Derived.Test.YtkopdkjpmccbmaaGreatDoorM24
import Derived.Test.YtkopdkjpmccbmaaGreatDoorM25
import Derived.Test.YtkopdkjpmccbmaaGreatDoorProg
import Derived.KernelRfl
namespace Go.AM
open Go.Proofs
set_option maxRecDepth 100000
set_option maxHeartbeats 0
theorem c3 : compFunc Tryz.prog cfg 3 Tryz.f3 = some a3 := by kernel_rfl
theorem c6 : compFunc Tryz.prog cfg 6 Tryz.f6 = some a6 := by kernel_rfl
theorem c19 : compFunc Tryz.prog cfg 19 Tryz.f19 = some a19 := by kernel_rfl
theorem c21 : compFunc Tryz.prog cfg 21 Tryz.f21 = some a21 := by kernel_rfl
theorem c22 : compFunc Tryz.prog cfg 22 Tryz.f22 = some a22 := by kernel_rfl
theorem c24 : compFunc Tryz.prog cfg 24 Tryz.f24 = some a24 := by kernel_rfl
theorem c25 : compFunc Tryz.prog cfg 25 Tryz.f25 = some a25 := by kernel_rfl
theorem c40 : compFunc Tryz.prog cfg 40 Tryz.f40 = some a40 := by kernel_rfl
theorem c41 : compFunc Tryz.prog cfg 41 Tryz.f41 = some a41 := by kernel_rfl
theorem c42 : compFunc Tryz.prog cfg 42 Tryz.f42 = some a42 := by kernel_rfl
theorem c51 : compFunc Tryz.prog cfg 51 Tryz.f51 = some a51 := by kernel_rfl
theorem c53 : compFunc Tryz.prog cfg 53 Tryz.f53 = some a53 := by kernel_rfl
theorem c63 : compFunc Tryz.prog cfg 63 Tryz.f63 = some a63 := by kernel_rfl
theorem c72 : compFunc Tryz.prog cfg 72 Tryz.f72 = some a72 := by kernel_rfl
theorem c85 : compFunc Tryz.prog cfg 85 Tryz.f85 = some a85 := by kernel_rfl
theorem c86 : compFunc Tryz.prog cfg 86 Tryz.f86 = some a86 := by kernel_rfl
theorem c91 : compFunc Tryz.prog cfg 91 Tryz.f91 = some a91 := by kernel_rfl
theorem c94 : compFunc Tryz.prog cfg 94 Tryz.f94 = some a94 := by kernel_rfl
theorem c96 : compFunc Tryz.prog cfg 96 Tryz.f96 = some a96 := by kernel_rfl
theorem c98 : compFunc Tryz.prog cfg 98 Tryz.f98 = some a98 := by kernel_rfl
theorem c119 : compFunc Tryz.prog cfg 119 Tryz.f119 = some a119 := by kernel_rfl
theorem c132 : compFunc Tryz.prog cfg 132 Tryz.f132 = some a132 := by kernel_rfl
theorem c150 : compFunc Tryz.prog cfg 150 Tryz.f150 = some a150 := by kernel_rfl
theorem c151 : compFunc Tryz.prog cfg 151 Tryz.f151 = some a151 := by kernel_rfl
theorem c157 : compFunc Tryz.prog cfg 157 Tryz.f157 = some a157 := by kernel_rfl
theorem c159 : compFunc Tryz.prog cfg 159 Tryz.f159 = some a159 := by kernel_rfl
theorem c160 : compFunc Tryz.prog cfg 160 Tryz.f160 = some a160 := by kernel_rfl
theorem c162 : compFunc Tryz.prog cfg 162 Tryz.f162 = some a162 := by kernel_rfl
theorem c164 : compFunc Tryz.prog cfg 164 Tryz.f164 = some a164 := by kernel_rfl
theorem c167 : compFunc Tryz.prog cfg 167 Tryz.f167 = some a167 := by kernel_rfl
theorem c169 : compFunc Tryz.prog cfg 169 Tryz.f169 = some a169 := by kernel_rfl
theorem c184 : compFunc Tryz.prog cfg 184 Tryz.f184 = some a184 := by kernel_rfl
theorem c189 : compFunc Tryz.prog cfg 189 Tryz.f189 = some a189 := by kernel_rfl
theorem c206 : compFunc Tryz.prog cfg 206 Tryz.f206 = some a206 := by kernel_rfl
theorem c237 : compFunc Tryz.prog cfg 237 Tryz.f237 = some a237 := by kernel_rfl
end Go.AM
