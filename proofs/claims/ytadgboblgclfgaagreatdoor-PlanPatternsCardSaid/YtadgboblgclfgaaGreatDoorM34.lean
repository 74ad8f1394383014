/- A part of the proof of: PlanPatterns: a pattern of a Call, and which of some patterns covers it, is what the document says, or the error is told. -/
import Derived.Test.YtadgboblgclfgaaGreatDoorM29
namespace Go.AM
set_option maxRecDepth 1000000
set_option maxHeartbeats 0
def isTrue (r : Option (AV × St)) : Bool := match r with | some (.bool true, _) => true | _ => false
theorem knows_bool : isTrue (call tab 100000 (.fn 26) [] ⟨[], 0⟩) = true := by decide +kernel
end Go.AM
