/-
  DERIVED. GIVEN WITH THE SEED: THE CARDS: each row of YtmaedahleenlgaaDoorRows.lean that lists a variable, with what it lists TIED to the program's text (the seventh form; the later family's looks); each row that meets fmt, with fmt's text TOLD by the authors' own Lean function (tested against real Go, not proved from fmt's source: count such statements apart). THE CARD IS WHAT COUNTS. Prove the row's statement (the work); the ties are given (YtmaedahleenlgaaDoorTie.lean); close each card by the builder's one call (the guide's Derived/Test/ToyasCard.lean, 'card_holds'). Laid BY PROGRAM, IN A SANDBOX (cutbox-door.mjs). By AI agents, Wed Nov 11 2026. No macro, syntax, notation, axiom, sorry.
-/
import Derived.Test.YtmaedahleenlgaaDoorRows
import GoSem.ClaimSeven
namespace Go.Proofs.YtmaedahleenlgaaDoor
namespace Rows

/-- THE TIED CARD OF 'shibbolethlaw16.TokenMints'. -/
def tokenMintsCard : Claim7 := { stood := { row := tokenMintsRow, standIns := [], harness := (true, "4e0aaf0208a539ac178036bdd9acdb2bf8ac25dfd6954b3addfbf0e1c75c5d16"), looks := false }, kinds := [], alts := [], laidByText := true, laidKinds := [.data, .data], laidTests := true, laidLooks := .later }
def TokenMintsCardSaid : Prop := Claim7.holds Tryd.pinned (.plain (OpenSpec.ofChange tokenMintsSpec)) tokenMintsCard

/-- THE TIED CARD OF 'shibbolethlaw16.TokenReads'. -/
def tokenReadsCard : Claim7 := { stood := { row := tokenReadsRow, standIns := [], harness := (true, "4e0aaf0208a539ac178036bdd9acdb2bf8ac25dfd6954b3addfbf0e1c75c5d16"), looks := false }, kinds := [], alts := [], laidByText := true, laidKinds := [.data, .data], laidTests := true, laidLooks := .later }
def TokenReadsCardSaid : Prop := Claim7.holds Tryd.pinned (.plain (OpenSpec.ofChange tokenReadsSpec)) tokenReadsCard

/-- THE TIED CARD OF 'shibbolethlaw16.TokenUnlike'. -/
def tokenUnlikeCard : Claim7 := { stood := { row := tokenUnlikeRow, standIns := [], harness := (true, "4e0aaf0208a539ac178036bdd9acdb2bf8ac25dfd6954b3addfbf0e1c75c5d16"), looks := false }, kinds := [], alts := [], laidByText := true, laidKinds := [.data, .data], laidTests := true, laidLooks := .later }
def TokenUnlikeCardSaid : Prop := Claim7.holds Tryd.pinned (.plain (OpenSpec.ofChange tokenUnlikeSpec)) tokenUnlikeCard

/-- THE TIED CARD OF 'shibbolethlaw16.TokenOthers'. -/
def tokenOthersCard : Claim7 := { stood := { row := tokenOthersRow, standIns := [], harness := (true, "4e0aaf0208a539ac178036bdd9acdb2bf8ac25dfd6954b3addfbf0e1c75c5d16"), looks := false }, kinds := [], alts := [], laidByText := true, laidKinds := [.data, .data], laidTests := true, laidLooks := .later }
def TokenOthersCardSaid : Prop := Claim7.holds Tryd.pinned (.plain (OpenSpec.ofChange tokenOthersSpec)) tokenOthersCard

/-- THE TIED CARD OF 'shibbolethlaw17.TicketKeys'. -/
def ticketKeysCard : Claim7 := { stood := { row := ticketKeysRow, standIns := [], harness := (true, "4e0aaf0208a539ac178036bdd9acdb2bf8ac25dfd6954b3addfbf0e1c75c5d16"), looks := false }, kinds := [], alts := [], laidByText := true, laidKinds := [.data, .data], laidTests := true, laidLooks := .later }
def TicketKeysCardSaid : Prop := Claim7.holds Tryd.pinned (.plain (OpenSpec.ofChange ticketKeysSpec)) ticketKeysCard

/-- THE TIED CARD OF 'shibbolethlaw16.TokenKeys'. -/
def tokenKeysCard : Claim7 := { stood := { row := tokenKeysRow, standIns := [], harness := (true, "4e0aaf0208a539ac178036bdd9acdb2bf8ac25dfd6954b3addfbf0e1c75c5d16"), looks := false }, kinds := [], alts := [], laidByText := true, laidKinds := [.data, .data], laidTests := true, laidLooks := .later }
def TokenKeysCardSaid : Prop := Claim7.holds Tryd.pinned (.plain (OpenSpec.ofChange tokenKeysSpec)) tokenKeysCard

/-- THE SECOND FORM's CARD OF 'shibbolethlaw16.TokenMints'. -/
def tokenMintsUptoCard : Claim7 := { stood := { row := tokenMintsUptoRow, standIns := [], harness := (true, "4e0aaf0208a539ac178036bdd9acdb2bf8ac25dfd6954b3addfbf0e1c75c5d16"), looks := false }, kinds := [], alts := [], laidByText := true, laidKinds := [.data, .data], laidTests := true, laidLooks := .later }
def TokenMintsUptoCardSaid : Prop := Claim7.holds Tryd.pinned (.plain (OpenSpec.upto tokenMintsSpec)) tokenMintsUptoCard

/-- THE SECOND FORM's CARD OF 'shibbolethlaw16.TokenReads'. -/
def tokenReadsUptoCard : Claim7 := { stood := { row := tokenReadsUptoRow, standIns := [], harness := (true, "4e0aaf0208a539ac178036bdd9acdb2bf8ac25dfd6954b3addfbf0e1c75c5d16"), looks := false }, kinds := [], alts := [], laidByText := true, laidKinds := [.data, .data], laidTests := true, laidLooks := .later }
def TokenReadsUptoCardSaid : Prop := Claim7.holds Tryd.pinned (.plain (OpenSpec.upto tokenReadsSpec)) tokenReadsUptoCard

/-- THE SECOND FORM's CARD OF 'shibbolethlaw16.TokenUnlike'. -/
def tokenUnlikeUptoCard : Claim7 := { stood := { row := tokenUnlikeUptoRow, standIns := [], harness := (true, "4e0aaf0208a539ac178036bdd9acdb2bf8ac25dfd6954b3addfbf0e1c75c5d16"), looks := false }, kinds := [], alts := [], laidByText := true, laidKinds := [.data, .data], laidTests := true, laidLooks := .later }
def TokenUnlikeUptoCardSaid : Prop := Claim7.holds Tryd.pinned (.plain (OpenSpec.upto tokenUnlikeSpec)) tokenUnlikeUptoCard

/-- THE SECOND FORM's CARD OF 'shibbolethlaw16.TokenOthers'. -/
def tokenOthersUptoCard : Claim7 := { stood := { row := tokenOthersUptoRow, standIns := [], harness := (true, "4e0aaf0208a539ac178036bdd9acdb2bf8ac25dfd6954b3addfbf0e1c75c5d16"), looks := false }, kinds := [], alts := [], laidByText := true, laidKinds := [.data, .data], laidTests := true, laidLooks := .later }
def TokenOthersUptoCardSaid : Prop := Claim7.holds Tryd.pinned (.plain (OpenSpec.upto tokenOthersSpec)) tokenOthersUptoCard

/-- THE SECOND FORM's CARD OF 'shibbolethlaw17.TicketKeys'. -/
def ticketKeysUptoCard : Claim7 := { stood := { row := ticketKeysUptoRow, standIns := [], harness := (true, "4e0aaf0208a539ac178036bdd9acdb2bf8ac25dfd6954b3addfbf0e1c75c5d16"), looks := false }, kinds := [], alts := [], laidByText := true, laidKinds := [.data, .data], laidTests := true, laidLooks := .later }
def TicketKeysUptoCardSaid : Prop := Claim7.holds Tryd.pinned (.plain (OpenSpec.upto ticketKeysSpec)) ticketKeysUptoCard

/-- THE SECOND FORM's CARD OF 'shibbolethlaw16.TokenKeys'. -/
def tokenKeysUptoCard : Claim7 := { stood := { row := tokenKeysUptoRow, standIns := [], harness := (true, "4e0aaf0208a539ac178036bdd9acdb2bf8ac25dfd6954b3addfbf0e1c75c5d16"), looks := false }, kinds := [], alts := [], laidByText := true, laidKinds := [.data, .data], laidTests := true, laidLooks := .later }
def TokenKeysUptoCardSaid : Prop := Claim7.holds Tryd.pinned (.plain (OpenSpec.upto tokenKeysSpec)) tokenKeysUptoCard
end Rows
end Go.Proofs.YtmaedahleenlgaaDoor
