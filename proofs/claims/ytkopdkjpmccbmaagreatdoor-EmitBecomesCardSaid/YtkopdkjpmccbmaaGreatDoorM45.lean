/- A part of the proof of: EmitBecomes: what a term becomes by patterns, and a pattern's name, is what the document says, or the error is told. -/
import Derived.Test.YtkopdkjpmccbmaaGreatDoorRows
import Derived.JoinedCond
import Derived.KernelRfl
namespace Go.Proofs.YtkopdkjpmccbmaaGreatDoor
open Go Go.Proofs
set_option maxRecDepth 100000
theorem fk1 : Rows.emitBecomesRow.wf (OpenSpec.ofChange (OpenSpec.ofChange Rows.emitBecomesSpec).bare) = true := by kernel_rfl
theorem fk2 : laidOutB Tryz.prog = true := by kernel_rfl
theorem fk3 : mapsRowed Tryz.prog = true := by kernel_rfl
theorem fk4 : (Tryz.f3.params.all (Tryz.prog.readableRec ·)) = true := by kernel_rfl
theorem fk5 : namedTie Tryz.prog Rows.emitBecomesRow.named (OpenSpec.ofChange Rows.emitBecomesSpec).bare.vars = true := by kernel_rfl
theorem fk6 : (Rows.emitBecomesRow.stops == []) = true := by kernel_rfl
theorem fk7 : (Tryz.prog.stops == []) = true := by kernel_rfl
theorem fk8 : (Rows.emitBecomesRow.knobs == []) = true := by kernel_rfl
theorem fk9 : (Tryz.prog.stopKnobs == []) = true := by kernel_rfl
theorem fk10 : (Rows.emitBecomesRow.inPlace == Tryz.prog.inPlace 3) = true := by kernel_rfl
theorem fk11 : (Rows.emitBecomesRow.unfollowed == Tryz.prog.unfollowed 3) = true := by kernel_rfl
theorem fk12 : (Rows.emitBecomesRow.recurses == Tryz.prog.recurses 3) = true := by kernel_rfl
theorem fk13 : (Rows.emitBecomesRow.named == Tryz.prog.varsNamed 3) = true := by kernel_rfl
theorem fk14 : (Rows.emitBecomesRow.maps == (Tryz.f3.params.toList ++ (OpenSpec.ofChange Rows.emitBecomesSpec).bare.plain.varTypes Tryz.prog).any (Tryz.prog.mapsRec ·)) = true := by kernel_rfl
theorem fk15 : (Rows.emitBecomesRow.ifaces == (Tryz.f3.params.toList ++ (OpenSpec.ofChange Rows.emitBecomesSpec).bare.plain.varTypes Tryz.prog).any (Tryz.prog.ifacesRec ·)) = true := by kernel_rfl
theorem fk16 : (Rows.emitBecomesRow.mapsOut == Tryz.prog.mapsAmong Tryz.f3.resultTypes.toList) = true := by kernel_rfl
theorem fk17 : (Rows.emitBecomesRow.loops == (Tryz.f3.params.toList ++ (OpenSpec.ofChange Rows.emitBecomesSpec).bare.plain.varTypes Tryz.prog).any (Tryz.prog.loopsFrom ·)) = true := by kernel_rfl
theorem fk17b : (Rows.emitBecomesRow.wideKeys == (Tryz.f3.params.toList ++ (OpenSpec.ofChange Rows.emitBecomesSpec).bare.plain.varTypes Tryz.prog ++ Tryz.f3.resultTypes.toList).any (Tryz.prog.wideKeysFrom ·)) = true := by kernel_rfl
theorem fk18 : ((OpenSpec.ofChange Rows.emitBecomesSpec).bare.vars.all (Tryz.prog.varReadable ·)) = true := by kernel_rfl
theorem fk19 : (Tryz.f3.resultTypes.all (fun t => Tryz.prog.readableRec t && decide (t < Tryz.prog.types.size))) = true := by kernel_rfl
theorem fk20 : (Rows.emitBecomesRow.ifacesOut == Tryz.f3.resultTypes.toList.any (Tryz.prog.ifacesRec ·)) = true := by kernel_rfl
theorem fk21 : (Rows.emitBecomesRow.loopsOut == Tryz.f3.resultTypes.toList.any (Tryz.prog.loopsFrom ·)) = true := by kernel_rfl
theorem fk22 : (Rows.emitBecomesRow.plainKeys == Tryz.prog.plainKeys) = true := by kernel_rfl
theorem fk23 : Rows.emitBecomesRow.shortTexts.isNone = true := by kernel_rfl
theorem fk23b : Tryz.prog.stopsHeard = true := by kernel_rfl
theorem fk24 : Tryz.prog.mayEnter = true := by kernel_rfl
theorem fk24b : (Rows.emitBecomesRow.lifted == Tryz.prog.liftsFinal) = true := by kernel_rfl
theorem fk24c : (Tryz.prog.make == some Rows.emitBecomesRow.make) = true := by kernel_rfl
theorem fk25 : (Rows.emitBecomesRow.kinds == (if Rows.emitBecomesRow.domain.isEmpty then [] else Tryz.f3.params.toList.map fun t => match Tryz.prog.underlying t with | some (.int k) => some k | _ => none)) = true := by kernel_rfl
theorem fk26 : (Rows.emitBecomesRow.pinned == Rows.emitBecomesRow.pinnedBy) = true := by kernel_rfl
theorem fk27 : (Rows.emitBecomesRow.veiled == (Tryz.f3.params.toList ++ (OpenSpec.ofChange Rows.emitBecomesSpec).bare.plain.varTypes Tryz.prog ++ Tryz.f3.resultTypes.toList).any (Tryz.prog.veiledRec ·)) = true := by kernel_rfl
theorem fk28 : Rows.emitBecomesRow.veiledFits Tryz.prog Tryz.f3.params.toList (Tryz.f3.params.toList ++ (OpenSpec.ofChange Rows.emitBecomesSpec).bare.plain.varTypes Tryz.prog ++ Tryz.f3.resultTypes.toList) = true := by kernel_rfl
theorem facts : joinedFacts Tryz.pinned.checked.prog 3 Tryz.f3 (OpenSpec.ofChange Rows.emitBecomesSpec).bare Rows.emitBecomesRow = true := by
  unfold joinedFacts
  simp only [Bool.and_eq_true]
  exact ⟨⟨⟨⟨⟨⟨⟨⟨⟨⟨⟨⟨⟨⟨⟨⟨⟨⟨⟨⟨⟨⟨⟨⟨⟨⟨⟨⟨⟨⟨⟨fk1, fk2⟩, fk3⟩, fk4⟩, fk5⟩, fk6⟩, fk7⟩, fk8⟩, fk9⟩, fk10⟩, fk11⟩, fk12⟩, fk13⟩, fk14⟩, fk15⟩, fk16⟩, fk17⟩, fk17b⟩, fk18⟩, fk19⟩, fk20⟩, fk21⟩, fk22⟩, fk23⟩, fk23b⟩, fk24⟩, fk24b⟩, fk24c⟩, fk25⟩, fk26⟩, fk27⟩, fk28⟩
end Go.Proofs.YtkopdkjpmccbmaaGreatDoor
