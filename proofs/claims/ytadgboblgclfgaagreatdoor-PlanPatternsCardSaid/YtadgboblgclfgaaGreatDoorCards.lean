/-
  DERIVED. GIVEN WITH THE SEED: THE CARDS: each row of YtadgboblgclfgaaGreatDoorRows.lean that lists a variable, with what it lists TIED to the program's text (the seventh form; the later family's looks); each row that meets fmt, with fmt's text TOLD by the authors' own Lean function (tested against real Go, not proved from fmt's source: count such statements apart). THE CARD IS WHAT COUNTS. Prove the row's statement (the work); the ties are given (YtadgboblgclfgaaGreatDoorTie.lean); close each card by the builder's one call (the guide's Derived/Test/ToyasCard.lean, 'card_holds'). Laid BY PROGRAM, IN A SANDBOX (cutbox-door.mjs). By AI agents, Wed Nov 11 2026. No macro, syntax, notation, axiom, sorry.
-/
import Derived.Test.YtadgboblgclfgaaGreatDoorRows
import GoSem.ClaimSeven
namespace Go.Proofs.YtadgboblgclfgaaGreatDoor
namespace Rows

/-- THE TIED CARD OF 'finiallaw17.UnfoldDecides'. -/
def unfoldDecidesCard : Claim7 := { stood := { row := unfoldDecidesRow, standIns := [], harness := (true, "f196ea77907481e31ad8fc178d64fb6fbe516cd3b349fd976ed15b3746ee79ab"), looks := false }, kinds := [], alts := [], laidByText := true, laidKinds := [.data, .data, .data, .data, .pinned], laidTests := true, laidLooks := .later }
def UnfoldDecidesCardSaid : Prop := Claim7.holds Tryz.pinned (.plain (OpenSpec.ofChange unfoldDecidesSpec)) unfoldDecidesCard

/-- THE TIED CARD OF 'finiallaw17.UnfoldSure'. -/
def unfoldSureCard : Claim7 := { stood := { row := unfoldSureRow, standIns := [], harness := (true, "f196ea77907481e31ad8fc178d64fb6fbe516cd3b349fd976ed15b3746ee79ab"), looks := false }, kinds := [], alts := [], laidByText := true, laidKinds := [.data, .data, .data, .data, .pinned], laidTests := true, laidLooks := .later }
def UnfoldSureCardSaid : Prop := Claim7.holds Tryz.pinned (.plain (OpenSpec.ofChange unfoldSureSpec)) unfoldSureCard

/-- THE TIED CARD OF 'finiallaw18.PlanPatterns'. -/
def planPatternsCard : Claim7 := { stood := { row := planPatternsRow, standIns := [], harness := (true, "f196ea77907481e31ad8fc178d64fb6fbe516cd3b349fd976ed15b3746ee79ab"), looks := false }, kinds := [], alts := [], laidByText := true, laidKinds := [.data, .data, .data, .data, .pinned], laidTests := true, laidLooks := .later }
def PlanPatternsCardSaid : Prop := Claim7.holds Tryz.pinned (.plain (OpenSpec.ofChange planPatternsSpec)) planPatternsCard

/-- THE TIED CARD OF 'finiallaw18.PlanMakes'. -/
def planMakesCard : Claim7 := { stood := { row := planMakesRow, standIns := [], harness := (true, "f196ea77907481e31ad8fc178d64fb6fbe516cd3b349fd976ed15b3746ee79ab"), looks := false }, kinds := [], alts := [], laidByText := true, laidKinds := [.data, .data, .data, .data, .pinned], laidTests := true, laidLooks := .later }
def PlanMakesCardSaid : Prop := Claim7.holds Tryz.pinned (.plain (OpenSpec.ofChange planMakesSpec)) planMakesCard

/-- THE TIED CARD OF 'finiallaw18.PlanCloses'. -/
def planClosesCard : Claim7 := { stood := { row := planClosesRow, standIns := [], harness := (true, "f196ea77907481e31ad8fc178d64fb6fbe516cd3b349fd976ed15b3746ee79ab"), looks := false }, kinds := [], alts := [], laidByText := true, laidKinds := [.data, .data, .data, .data, .pinned], laidTests := true, laidLooks := .later }
def PlanClosesCardSaid : Prop := Claim7.holds Tryz.pinned (.plain (OpenSpec.ofChange planClosesSpec)) planClosesCard

/-- THE TIED CARD OF 'finiallaw18.PlanMore'. -/
def planMoreCard : Claim7 := { stood := { row := planMoreRow, standIns := [], harness := (true, "f196ea77907481e31ad8fc178d64fb6fbe516cd3b349fd976ed15b3746ee79ab"), looks := false }, kinds := [], alts := [], laidByText := true, laidKinds := [.data, .data, .data, .data, .pinned], laidTests := true, laidLooks := .later }
def PlanMoreCardSaid : Prop := Claim7.holds Tryz.pinned (.plain (OpenSpec.ofChange planMoreSpec)) planMoreCard

/-- THE SECOND FORM's CARD OF 'finiallaw17.UnfoldDecides'. -/
def unfoldDecidesUptoCard : Claim7 := { stood := { row := unfoldDecidesUptoRow, standIns := [], harness := (true, "f196ea77907481e31ad8fc178d64fb6fbe516cd3b349fd976ed15b3746ee79ab"), looks := false }, kinds := [], alts := [], laidByText := true, laidKinds := [.data, .data, .data, .data, .pinned], laidTests := true, laidLooks := .later }
def UnfoldDecidesUptoCardSaid : Prop := Claim7.holds Tryz.pinned (.plain (OpenSpec.upto unfoldDecidesSpec)) unfoldDecidesUptoCard

/-- THE SECOND FORM's CARD OF 'finiallaw17.UnfoldSure'. -/
def unfoldSureUptoCard : Claim7 := { stood := { row := unfoldSureUptoRow, standIns := [], harness := (true, "f196ea77907481e31ad8fc178d64fb6fbe516cd3b349fd976ed15b3746ee79ab"), looks := false }, kinds := [], alts := [], laidByText := true, laidKinds := [.data, .data, .data, .data, .pinned], laidTests := true, laidLooks := .later }
def UnfoldSureUptoCardSaid : Prop := Claim7.holds Tryz.pinned (.plain (OpenSpec.upto unfoldSureSpec)) unfoldSureUptoCard

/-- THE SECOND FORM's CARD OF 'finiallaw18.PlanPatterns'. -/
def planPatternsUptoCard : Claim7 := { stood := { row := planPatternsUptoRow, standIns := [], harness := (true, "f196ea77907481e31ad8fc178d64fb6fbe516cd3b349fd976ed15b3746ee79ab"), looks := false }, kinds := [], alts := [], laidByText := true, laidKinds := [.data, .data, .data, .data, .pinned], laidTests := true, laidLooks := .later }
def PlanPatternsUptoCardSaid : Prop := Claim7.holds Tryz.pinned (.plain (OpenSpec.upto planPatternsSpec)) planPatternsUptoCard

/-- THE SECOND FORM's CARD OF 'finiallaw18.PlanMakes'. -/
def planMakesUptoCard : Claim7 := { stood := { row := planMakesUptoRow, standIns := [], harness := (true, "f196ea77907481e31ad8fc178d64fb6fbe516cd3b349fd976ed15b3746ee79ab"), looks := false }, kinds := [], alts := [], laidByText := true, laidKinds := [.data, .data, .data, .data, .pinned], laidTests := true, laidLooks := .later }
def PlanMakesUptoCardSaid : Prop := Claim7.holds Tryz.pinned (.plain (OpenSpec.upto planMakesSpec)) planMakesUptoCard

/-- THE SECOND FORM's CARD OF 'finiallaw18.PlanCloses'. -/
def planClosesUptoCard : Claim7 := { stood := { row := planClosesUptoRow, standIns := [], harness := (true, "f196ea77907481e31ad8fc178d64fb6fbe516cd3b349fd976ed15b3746ee79ab"), looks := false }, kinds := [], alts := [], laidByText := true, laidKinds := [.data, .data, .data, .data, .pinned], laidTests := true, laidLooks := .later }
def PlanClosesUptoCardSaid : Prop := Claim7.holds Tryz.pinned (.plain (OpenSpec.upto planClosesSpec)) planClosesUptoCard

/-- THE SECOND FORM's CARD OF 'finiallaw18.PlanMore'. -/
def planMoreUptoCard : Claim7 := { stood := { row := planMoreUptoRow, standIns := [], harness := (true, "f196ea77907481e31ad8fc178d64fb6fbe516cd3b349fd976ed15b3746ee79ab"), looks := false }, kinds := [], alts := [], laidByText := true, laidKinds := [.data, .data, .data, .data, .pinned], laidTests := true, laidLooks := .later }
def PlanMoreUptoCardSaid : Prop := Claim7.holds Tryz.pinned (.plain (OpenSpec.upto planMoreSpec)) planMoreUptoCard
end Rows
end Go.Proofs.YtadgboblgclfgaaGreatDoor
