/-
  DERIVED. GIVEN WITH THE SEED: THE CARDS: each row of YtkopdkjpmccbmaaGreatDoorRows.lean that lists a variable, with what it lists TIED to the program's text (the seventh form; the later family's looks); each row that meets fmt, with fmt's text TOLD by the authors' own Lean function (tested against real Go, not proved from fmt's source: count such statements apart). THE CARD IS WHAT COUNTS. Prove the row's statement (the work); the ties are given (YtkopdkjpmccbmaaGreatDoorTie.lean); close each card by the builder's one call (the guide's Derived/Test/ToyasCard.lean, 'card_holds'). Laid BY PROGRAM, IN A SANDBOX (cutbox-door.mjs). By AI agents, Wed Nov 11 2026. No macro, syntax, notation, axiom, sorry.
-/
import Derived.Test.YtkopdkjpmccbmaaGreatDoorRows
import GoSem.ClaimSeven
namespace Go.Proofs.YtkopdkjpmccbmaaGreatDoor
namespace Rows

/-- THE TIED CARD OF 'finiallaw19.EmitBecomes'. -/
def emitBecomesCard : Claim7 := { stood := { row := emitBecomesRow, standIns := [], harness := (true, "a878e48a7c4db0f88f0d40dcfc27d65ff436a423cb7ec0ca9d02e5afb82d269e"), looks := false }, kinds := [], alts := [], laidByText := true, laidKinds := [.data, .data, .data, .data, .pinned], laidTests := true, laidLooks := .later }
def EmitBecomesCardSaid : Prop := Claim7.holds Tryz.pinned (.plain (OpenSpec.ofChange emitBecomesSpec)) emitBecomesCard

/-- THE TIED CARD OF 'finiallaw19.EmitPrograms'. -/
def emitProgramsCard : Claim7 := { stood := { row := emitProgramsRow, standIns := [], harness := (true, "a878e48a7c4db0f88f0d40dcfc27d65ff436a423cb7ec0ca9d02e5afb82d269e"), looks := false }, kinds := [], alts := [], laidByText := true, laidKinds := [.data, .data, .data, .data, .pinned], laidTests := true, laidLooks := .later }
def EmitProgramsCardSaid : Prop := Claim7.holds Tryz.pinned (.plain (OpenSpec.ofChange emitProgramsSpec)) emitProgramsCard

/-- THE SECOND FORM's CARD OF 'finiallaw19.EmitBecomes'. -/
def emitBecomesUptoCard : Claim7 := { stood := { row := emitBecomesUptoRow, standIns := [], harness := (true, "a878e48a7c4db0f88f0d40dcfc27d65ff436a423cb7ec0ca9d02e5afb82d269e"), looks := false }, kinds := [], alts := [], laidByText := true, laidKinds := [.data, .data, .data, .data, .pinned], laidTests := true, laidLooks := .later }
def EmitBecomesUptoCardSaid : Prop := Claim7.holds Tryz.pinned (.plain (OpenSpec.upto emitBecomesSpec)) emitBecomesUptoCard

/-- THE SECOND FORM's CARD OF 'finiallaw19.EmitPrograms'. -/
def emitProgramsUptoCard : Claim7 := { stood := { row := emitProgramsUptoRow, standIns := [], harness := (true, "a878e48a7c4db0f88f0d40dcfc27d65ff436a423cb7ec0ca9d02e5afb82d269e"), looks := false }, kinds := [], alts := [], laidByText := true, laidKinds := [.data, .data, .data, .data, .pinned], laidTests := true, laidLooks := .later }
def EmitProgramsUptoCardSaid : Prop := Claim7.holds Tryz.pinned (.plain (OpenSpec.upto emitProgramsSpec)) emitProgramsUptoCard
end Rows
end Go.Proofs.YtkopdkjpmccbmaaGreatDoor
