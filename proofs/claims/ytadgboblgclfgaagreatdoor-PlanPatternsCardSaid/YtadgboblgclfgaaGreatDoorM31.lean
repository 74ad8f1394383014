/- A part of the proof of: PlanPatterns: a pattern of a Call, and which of some patterns covers it, is what the document says, or the error is told. -/
import Derived.Test.YtadgboblgclfgaaGreatDoorRows
import Derived.JoinedCond
import Derived.KernelRfl
namespace Go.Proofs.YtadgboblgclfgaaGreatDoor
open Go Go.Proofs
set_option maxRecDepth 100000
theorem fk1 : Rows.planPatternsRow.wf (OpenSpec.ofChange (OpenSpec.ofChange Rows.planPatternsSpec).bare) = true := by kernel_rfl
theorem fk2 : laidOutB Tryz.prog = true := by kernel_rfl
theorem fk3 : mapsRowed Tryz.prog = true := by kernel_rfl
theorem fk4 : (Tryz.f5.params.all (Tryz.prog.readableRec ·)) = true := by kernel_rfl
theorem fk5 : namedTie Tryz.prog Rows.planPatternsRow.named (OpenSpec.ofChange Rows.planPatternsSpec).bare.vars = true := by kernel_rfl
theorem fk6 : (Rows.planPatternsRow.stops == []) = true := by kernel_rfl
theorem fk7 : (Tryz.prog.stops == []) = true := by kernel_rfl
theorem fk8 : (Rows.planPatternsRow.knobs == []) = true := by kernel_rfl
theorem fk9 : (Tryz.prog.stopKnobs == []) = true := by kernel_rfl
theorem fk10 : (Rows.planPatternsRow.inPlace == Tryz.prog.inPlace 5) = true := by kernel_rfl
theorem fk11 : (Rows.planPatternsRow.unfollowed == Tryz.prog.unfollowed 5) = true := by kernel_rfl
theorem fk12 : (Rows.planPatternsRow.recurses == Tryz.prog.recurses 5) = true := by kernel_rfl
theorem fk13 : (Rows.planPatternsRow.named == Tryz.prog.varsNamed 5) = true := by kernel_rfl
theorem fk14 : (Rows.planPatternsRow.maps == (Tryz.f5.params.toList ++ (OpenSpec.ofChange Rows.planPatternsSpec).bare.plain.varTypes Tryz.prog).any (Tryz.prog.mapsRec ·)) = true := by kernel_rfl
theorem fk15 : (Rows.planPatternsRow.ifaces == (Tryz.f5.params.toList ++ (OpenSpec.ofChange Rows.planPatternsSpec).bare.plain.varTypes Tryz.prog).any (Tryz.prog.ifacesRec ·)) = true := by kernel_rfl
theorem fk16 : (Rows.planPatternsRow.mapsOut == Tryz.prog.mapsAmong Tryz.f5.resultTypes.toList) = true := by kernel_rfl
theorem fk17 : (Rows.planPatternsRow.loops == (Tryz.f5.params.toList ++ (OpenSpec.ofChange Rows.planPatternsSpec).bare.plain.varTypes Tryz.prog).any (Tryz.prog.loopsFrom ·)) = true := by kernel_rfl
theorem fk17b : (Rows.planPatternsRow.wideKeys == (Tryz.f5.params.toList ++ (OpenSpec.ofChange Rows.planPatternsSpec).bare.plain.varTypes Tryz.prog ++ Tryz.f5.resultTypes.toList).any (Tryz.prog.wideKeysFrom ·)) = true := by kernel_rfl
theorem fk18 : ((OpenSpec.ofChange Rows.planPatternsSpec).bare.vars.all (Tryz.prog.varReadable ·)) = true := by kernel_rfl
theorem fk19 : (Tryz.f5.resultTypes.all (fun t => Tryz.prog.readableRec t && decide (t < Tryz.prog.types.size))) = true := by kernel_rfl
theorem fk20 : (Rows.planPatternsRow.ifacesOut == Tryz.f5.resultTypes.toList.any (Tryz.prog.ifacesRec ·)) = true := by kernel_rfl
theorem fk21 : (Rows.planPatternsRow.loopsOut == Tryz.f5.resultTypes.toList.any (Tryz.prog.loopsFrom ·)) = true := by kernel_rfl
theorem fk22 : (Rows.planPatternsRow.plainKeys == Tryz.prog.plainKeys) = true := by kernel_rfl
theorem fk23 : Rows.planPatternsRow.shortTexts.isNone = true := by kernel_rfl
theorem fk23b : Tryz.prog.stopsHeard = true := by kernel_rfl
theorem fk24 : Tryz.prog.mayEnter = true := by kernel_rfl
theorem fk24b : (Rows.planPatternsRow.lifted == Tryz.prog.liftsFinal) = true := by kernel_rfl
theorem fk24c : (Tryz.prog.make == some Rows.planPatternsRow.make) = true := by kernel_rfl
theorem fk25 : (Rows.planPatternsRow.kinds == (if Rows.planPatternsRow.domain.isEmpty then [] else Tryz.f5.params.toList.map fun t => match Tryz.prog.underlying t with | some (.int k) => some k | _ => none)) = true := by kernel_rfl
theorem fk26 : (Rows.planPatternsRow.pinned == Rows.planPatternsRow.pinnedBy) = true := by kernel_rfl
theorem fk27 : (Rows.planPatternsRow.veiled == (Tryz.f5.params.toList ++ (OpenSpec.ofChange Rows.planPatternsSpec).bare.plain.varTypes Tryz.prog ++ Tryz.f5.resultTypes.toList).any (Tryz.prog.veiledRec ·)) = true := by kernel_rfl
theorem fk28 : Rows.planPatternsRow.veiledFits Tryz.prog Tryz.f5.params.toList (Tryz.f5.params.toList ++ (OpenSpec.ofChange Rows.planPatternsSpec).bare.plain.varTypes Tryz.prog ++ Tryz.f5.resultTypes.toList) = true := by kernel_rfl
theorem facts : joinedFacts Tryz.pinned.checked.prog 5 Tryz.f5 (OpenSpec.ofChange Rows.planPatternsSpec).bare Rows.planPatternsRow = true := by
  unfold joinedFacts
  simp only [Bool.and_eq_true]
  exact ⟨⟨⟨⟨⟨⟨⟨⟨⟨⟨⟨⟨⟨⟨⟨⟨⟨⟨⟨⟨⟨⟨⟨⟨⟨⟨⟨⟨⟨⟨⟨fk1, fk2⟩, fk3⟩, fk4⟩, fk5⟩, fk6⟩, fk7⟩, fk8⟩, fk9⟩, fk10⟩, fk11⟩, fk12⟩, fk13⟩, fk14⟩, fk15⟩, fk16⟩, fk17⟩, fk17b⟩, fk18⟩, fk19⟩, fk20⟩, fk21⟩, fk22⟩, fk23⟩, fk23b⟩, fk24⟩, fk24b⟩, fk24c⟩, fk25⟩, fk26⟩, fk27⟩, fk28⟩
end Go.Proofs.YtadgboblgclfgaaGreatDoor
