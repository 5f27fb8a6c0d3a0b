/-
  DERIVED. GIVEN WITH THE SEED: THE CARDS: each row of YtbcicfgffjgpdaaDoorRows.lean that lists a variable, with what it lists TIED to the program's text (the seventh form; the later family's looks); each row that meets fmt, with fmt's text TOLD by the authors' own Lean function (tested against real Go, not proved from fmt's source: count such statements apart). THE CARD IS WHAT COUNTS. Prove the row's statement (the work); the ties are given (YtbcicfgffjgpdaaDoorTie.lean); close each card by the builder's one call (the guide's Derived/Test/ToyasCard.lean, 'card_holds'). Laid BY PROGRAM, IN A SANDBOX (cutbox-door.mjs). By AI agents, Wed Nov 11 2026. No macro, syntax, notation, axiom, sorry.
-/
import Derived.Test.YtbcicfgffjgpdaaDoorRows
import GoSem.ClaimSeven
namespace Go.Proofs.YtbcicfgffjgpdaaDoor
namespace Rows

/-- THE TIED CARD OF 'shibbolethlaw17.TicketIssues'. -/
def ticketIssuesCard : Claim7 := { stood := { row := ticketIssuesRow, standIns := [], harness := (true, "e0d8ef21213fac98d0d9f041dfe92c4829e46a738102275d9c6366e56ad29403"), looks := false }, kinds := [], alts := [], laidByText := true, laidKinds := [.data, .data], laidTests := true, laidLooks := .later }
def TicketIssuesCardSaid : Prop := Claim7.holds Tryd.pinned (.plain (OpenSpec.ofChange ticketIssuesSpec)) ticketIssuesCard

/-- THE TIED CARD OF 'shibbolethlaw17.TicketReads'. -/
def ticketReadsCard : Claim7 := { stood := { row := ticketReadsRow, standIns := [], harness := (true, "e0d8ef21213fac98d0d9f041dfe92c4829e46a738102275d9c6366e56ad29403"), looks := false }, kinds := [], alts := [], laidByText := true, laidKinds := [.data, .data], laidTests := true, laidLooks := .later }
def TicketReadsCardSaid : Prop := Claim7.holds Tryd.pinned (.plain (OpenSpec.ofChange ticketReadsSpec)) ticketReadsCard

/-- THE TIED CARD OF 'shibbolethlaw17.TicketOthers'. -/
def ticketOthersCard : Claim7 := { stood := { row := ticketOthersRow, standIns := [], harness := (true, "e0d8ef21213fac98d0d9f041dfe92c4829e46a738102275d9c6366e56ad29403"), looks := false }, kinds := [], alts := [], laidByText := true, laidKinds := [.data, .data], laidTests := true, laidLooks := .later }
def TicketOthersCardSaid : Prop := Claim7.holds Tryd.pinned (.plain (OpenSpec.ofChange ticketOthersSpec)) ticketOthersCard

/-- THE TIED CARD OF 'shibbolethlaw17.TicketTimes'. -/
def ticketTimesCard : Claim7 := { stood := { row := ticketTimesRow, standIns := [], harness := (true, "e0d8ef21213fac98d0d9f041dfe92c4829e46a738102275d9c6366e56ad29403"), looks := false }, kinds := [], alts := [], laidByText := true, laidKinds := [.data, .data], laidTests := true, laidLooks := .later }
def TicketTimesCardSaid : Prop := Claim7.holds Tryd.pinned (.plain (OpenSpec.ofChange ticketTimesSpec)) ticketTimesCard

/-- THE TIED CARD OF 'shibbolethlaw07.ParamsWrite'. -/
def paramsWriteCard : Claim7 := { stood := { row := paramsWriteRow, standIns := [], harness := (true, "e0d8ef21213fac98d0d9f041dfe92c4829e46a738102275d9c6366e56ad29403"), looks := false }, kinds := [], alts := [], laidByText := true, laidKinds := [.data, .data], laidTests := true, laidLooks := .later }
def ParamsWriteCardSaid : Prop := Claim7.holds Tryd.pinned (.plain (OpenSpec.ofChange paramsWriteSpec)) paramsWriteCard

/-- THE SECOND FORM's CARD OF 'shibbolethlaw17.TicketIssues'. -/
def ticketIssuesUptoCard : Claim7 := { stood := { row := ticketIssuesUptoRow, standIns := [], harness := (true, "e0d8ef21213fac98d0d9f041dfe92c4829e46a738102275d9c6366e56ad29403"), looks := false }, kinds := [], alts := [], laidByText := true, laidKinds := [.data, .data], laidTests := true, laidLooks := .later }
def TicketIssuesUptoCardSaid : Prop := Claim7.holds Tryd.pinned (.plain (OpenSpec.upto ticketIssuesSpec)) ticketIssuesUptoCard

/-- THE SECOND FORM's CARD OF 'shibbolethlaw17.TicketReads'. -/
def ticketReadsUptoCard : Claim7 := { stood := { row := ticketReadsUptoRow, standIns := [], harness := (true, "e0d8ef21213fac98d0d9f041dfe92c4829e46a738102275d9c6366e56ad29403"), looks := false }, kinds := [], alts := [], laidByText := true, laidKinds := [.data, .data], laidTests := true, laidLooks := .later }
def TicketReadsUptoCardSaid : Prop := Claim7.holds Tryd.pinned (.plain (OpenSpec.upto ticketReadsSpec)) ticketReadsUptoCard

/-- THE SECOND FORM's CARD OF 'shibbolethlaw17.TicketOthers'. -/
def ticketOthersUptoCard : Claim7 := { stood := { row := ticketOthersUptoRow, standIns := [], harness := (true, "e0d8ef21213fac98d0d9f041dfe92c4829e46a738102275d9c6366e56ad29403"), looks := false }, kinds := [], alts := [], laidByText := true, laidKinds := [.data, .data], laidTests := true, laidLooks := .later }
def TicketOthersUptoCardSaid : Prop := Claim7.holds Tryd.pinned (.plain (OpenSpec.upto ticketOthersSpec)) ticketOthersUptoCard

/-- THE SECOND FORM's CARD OF 'shibbolethlaw17.TicketTimes'. -/
def ticketTimesUptoCard : Claim7 := { stood := { row := ticketTimesUptoRow, standIns := [], harness := (true, "e0d8ef21213fac98d0d9f041dfe92c4829e46a738102275d9c6366e56ad29403"), looks := false }, kinds := [], alts := [], laidByText := true, laidKinds := [.data, .data], laidTests := true, laidLooks := .later }
def TicketTimesUptoCardSaid : Prop := Claim7.holds Tryd.pinned (.plain (OpenSpec.upto ticketTimesSpec)) ticketTimesUptoCard

/-- THE SECOND FORM's CARD OF 'shibbolethlaw07.ParamsWrite'. -/
def paramsWriteUptoCard : Claim7 := { stood := { row := paramsWriteUptoRow, standIns := [], harness := (true, "e0d8ef21213fac98d0d9f041dfe92c4829e46a738102275d9c6366e56ad29403"), looks := false }, kinds := [], alts := [], laidByText := true, laidKinds := [.data, .data], laidTests := true, laidLooks := .later }
def ParamsWriteUptoCardSaid : Prop := Claim7.holds Tryd.pinned (.plain (OpenSpec.upto paramsWriteSpec)) paramsWriteUptoCard
end Rows
end Go.Proofs.YtbcicfgffjgpdaaDoor
