/- A part of the proof of: EmitBecomes: what a term becomes by patterns, and a pattern's name, is what the document says, or the error is told. -/
import Derived.Test.YtkopdkjpmccbmaaGreatDoorM33
namespace Go.AM
set_option maxRecDepth 1000000
set_option maxHeartbeats 0
def isTrue (r : Option (AV × St)) : Bool := match r with | some (.bool true, _) => true | _ => false
theorem knows_bool : isTrue (call tab 100000 (.fn 6) [] ⟨[], 0⟩) = true := by decide +kernel
end Go.AM
