/-
  DERIVED. GIVEN WITH THE SEED: THE CARDS: each row of YtbfgoojpbhlboaaDoorRows.lean that lists a variable, with what it lists TIED to the program's text (the seventh form; the later family's looks); each row that meets fmt, with fmt's text TOLD by the authors' own Lean function (tested against real Go, not proved from fmt's source: count such statements apart). THE CARD IS WHAT COUNTS. Prove the row's statement (the work); the ties are given (YtbfgoojpbhlboaaDoorTie.lean); close each card by the builder's one call (the guide's Derived/Test/ToyasCard.lean, 'card_holds'). Laid BY PROGRAM, IN A SANDBOX (cutbox-door.mjs). By AI agents, Wed Nov 11 2026. No macro, syntax, notation, axiom, sorry.
-/
import Derived.Test.YtbfgoojpbhlboaaDoorRows
import GoSem.ClaimSeven
namespace Go.Proofs.YtbfgoojpbhlboaaDoor
namespace Rows

/-- THE TIED CARD OF 'shibbolethlaw07.ParamsWrite'. -/
def paramsWriteCard : Claim7 := { stood := { row := paramsWriteRow, standIns := [], harness := (true, "265238a3c800743aabd15c32e478210d873bb851344144e483369b0965ea390e"), looks := true }, kinds := [], alts := [], laidByText := true, laidKinds := [.data, .data], laidTests := true, laidLooks := .later }
def ParamsWriteCardSaid : Prop := Claim7.holds Tryd.pinned (.plain (OpenSpec.ofChange paramsWriteSpec)) paramsWriteCard

/-- THE TIED CARD OF 'shibbolethlaw07.ParamsSame'. -/
def paramsSameCard : Claim7 := { stood := { row := paramsSameRow, standIns := [], harness := (true, "265238a3c800743aabd15c32e478210d873bb851344144e483369b0965ea390e"), looks := true }, kinds := [], alts := [], laidByText := true, laidKinds := [.data, .data], laidTests := true, laidLooks := .later }
def ParamsSameCardSaid : Prop := Claim7.holds Tryd.pinned (.plain (OpenSpec.ofChange paramsSameSpec)) paramsSameCard

/-- THE TIED CARD OF 'shibbolethlaw07.ParamsRead'. -/
def paramsReadCard : Claim7 := { stood := { row := paramsReadRow, standIns := [], harness := (true, "265238a3c800743aabd15c32e478210d873bb851344144e483369b0965ea390e"), looks := true }, kinds := [], alts := [], laidByText := true, laidKinds := [.data, .data], laidTests := true, laidLooks := .later }
def ParamsReadCardSaid : Prop := Claim7.holds Tryd.pinned (.plain (OpenSpec.ofChange paramsReadSpec)) paramsReadCard

/-- THE TIED CARD OF 'shibbolethlaw07.ParamsAgain'. -/
def paramsAgainCard : Claim7 := { stood := { row := paramsAgainRow, standIns := [], harness := (true, "265238a3c800743aabd15c32e478210d873bb851344144e483369b0965ea390e"), looks := true }, kinds := [], alts := [], laidByText := true, laidKinds := [.data, .data], laidTests := true, laidLooks := .later }
def ParamsAgainCardSaid : Prop := Claim7.holds Tryd.pinned (.plain (OpenSpec.ofChange paramsAgainSpec)) paramsAgainCard

/-- THE TIED CARD OF 'shibbolethlaw07.ParamsBack'. -/
def paramsBackCard : Claim7 := { stood := { row := paramsBackRow, standIns := [], harness := (true, "265238a3c800743aabd15c32e478210d873bb851344144e483369b0965ea390e"), looks := true }, kinds := [], alts := [], laidByText := true, laidKinds := [.data, .data], laidTests := true, laidLooks := .later }
def ParamsBackCardSaid : Prop := Claim7.holds Tryd.pinned (.plain (OpenSpec.ofChange paramsBackSpec)) paramsBackCard

/-- THE TIED CARD OF 'shibbolethlaw14.HelloWrites'. -/
def helloWritesCard : Claim7 := { stood := { row := helloWritesRow, standIns := [], harness := (true, "265238a3c800743aabd15c32e478210d873bb851344144e483369b0965ea390e"), looks := true }, kinds := [], alts := [], laidByText := true, laidKinds := [.data, .data], laidTests := true, laidLooks := .later }
def HelloWritesCardSaid : Prop := Claim7.holds Tryd.pinned (.plain (OpenSpec.ofChange helloWritesSpec)) helloWritesCard

/-- THE TIED CARD OF 'shibbolethlaw14.HelloBack'. -/
def helloBackCard : Claim7 := { stood := { row := helloBackRow, standIns := [], harness := (true, "265238a3c800743aabd15c32e478210d873bb851344144e483369b0965ea390e"), looks := true }, kinds := [], alts := [], laidByText := true, laidKinds := [.data, .data], laidTests := true, laidLooks := .later }
def HelloBackCardSaid : Prop := Claim7.holds Tryd.pinned (.plain (OpenSpec.ofChange helloBackSpec)) helloBackCard

/-- THE TIED CARD OF 'shibbolethlaw14.HelloAgain'. -/
def helloAgainCard : Claim7 := { stood := { row := helloAgainRow, standIns := [], harness := (true, "265238a3c800743aabd15c32e478210d873bb851344144e483369b0965ea390e"), looks := true }, kinds := [], alts := [], laidByText := true, laidKinds := [.data, .data], laidTests := true, laidLooks := .later }
def HelloAgainCardSaid : Prop := Claim7.holds Tryd.pinned (.plain (OpenSpec.ofChange helloAgainSpec)) helloAgainCard

/-- THE TIED CARD OF 'shibbolethlaw14.HelloCut'. -/
def helloCutCard : Claim7 := { stood := { row := helloCutRow, standIns := [], harness := (true, "265238a3c800743aabd15c32e478210d873bb851344144e483369b0965ea390e"), looks := true }, kinds := [], alts := [], laidByText := true, laidKinds := [.data, .data], laidTests := true, laidLooks := .later }
def HelloCutCardSaid : Prop := Claim7.holds Tryd.pinned (.plain (OpenSpec.ofChange helloCutSpec)) helloCutCard

/-- THE SECOND FORM's CARD OF 'shibbolethlaw07.ParamsWrite'. -/
def paramsWriteUptoCard : Claim7 := { stood := { row := paramsWriteUptoRow, standIns := [], harness := (true, "265238a3c800743aabd15c32e478210d873bb851344144e483369b0965ea390e"), looks := true }, kinds := [], alts := [], laidByText := true, laidKinds := [.data, .data], laidTests := true, laidLooks := .later }
def ParamsWriteUptoCardSaid : Prop := Claim7.holds Tryd.pinned (.plain (OpenSpec.upto paramsWriteSpec)) paramsWriteUptoCard

/-- THE SECOND FORM's CARD OF 'shibbolethlaw07.ParamsSame'. -/
def paramsSameUptoCard : Claim7 := { stood := { row := paramsSameUptoRow, standIns := [], harness := (true, "265238a3c800743aabd15c32e478210d873bb851344144e483369b0965ea390e"), looks := true }, kinds := [], alts := [], laidByText := true, laidKinds := [.data, .data], laidTests := true, laidLooks := .later }
def ParamsSameUptoCardSaid : Prop := Claim7.holds Tryd.pinned (.plain (OpenSpec.upto paramsSameSpec)) paramsSameUptoCard

/-- THE SECOND FORM's CARD OF 'shibbolethlaw07.ParamsRead'. -/
def paramsReadUptoCard : Claim7 := { stood := { row := paramsReadUptoRow, standIns := [], harness := (true, "265238a3c800743aabd15c32e478210d873bb851344144e483369b0965ea390e"), looks := true }, kinds := [], alts := [], laidByText := true, laidKinds := [.data, .data], laidTests := true, laidLooks := .later }
def ParamsReadUptoCardSaid : Prop := Claim7.holds Tryd.pinned (.plain (OpenSpec.upto paramsReadSpec)) paramsReadUptoCard

/-- THE SECOND FORM's CARD OF 'shibbolethlaw07.ParamsAgain'. -/
def paramsAgainUptoCard : Claim7 := { stood := { row := paramsAgainUptoRow, standIns := [], harness := (true, "265238a3c800743aabd15c32e478210d873bb851344144e483369b0965ea390e"), looks := true }, kinds := [], alts := [], laidByText := true, laidKinds := [.data, .data], laidTests := true, laidLooks := .later }
def ParamsAgainUptoCardSaid : Prop := Claim7.holds Tryd.pinned (.plain (OpenSpec.upto paramsAgainSpec)) paramsAgainUptoCard

/-- THE SECOND FORM's CARD OF 'shibbolethlaw07.ParamsBack'. -/
def paramsBackUptoCard : Claim7 := { stood := { row := paramsBackUptoRow, standIns := [], harness := (true, "265238a3c800743aabd15c32e478210d873bb851344144e483369b0965ea390e"), looks := true }, kinds := [], alts := [], laidByText := true, laidKinds := [.data, .data], laidTests := true, laidLooks := .later }
def ParamsBackUptoCardSaid : Prop := Claim7.holds Tryd.pinned (.plain (OpenSpec.upto paramsBackSpec)) paramsBackUptoCard

/-- THE SECOND FORM's CARD OF 'shibbolethlaw14.HelloWrites'. -/
def helloWritesUptoCard : Claim7 := { stood := { row := helloWritesUptoRow, standIns := [], harness := (true, "265238a3c800743aabd15c32e478210d873bb851344144e483369b0965ea390e"), looks := true }, kinds := [], alts := [], laidByText := true, laidKinds := [.data, .data], laidTests := true, laidLooks := .later }
def HelloWritesUptoCardSaid : Prop := Claim7.holds Tryd.pinned (.plain (OpenSpec.upto helloWritesSpec)) helloWritesUptoCard

/-- THE SECOND FORM's CARD OF 'shibbolethlaw14.HelloBack'. -/
def helloBackUptoCard : Claim7 := { stood := { row := helloBackUptoRow, standIns := [], harness := (true, "265238a3c800743aabd15c32e478210d873bb851344144e483369b0965ea390e"), looks := true }, kinds := [], alts := [], laidByText := true, laidKinds := [.data, .data], laidTests := true, laidLooks := .later }
def HelloBackUptoCardSaid : Prop := Claim7.holds Tryd.pinned (.plain (OpenSpec.upto helloBackSpec)) helloBackUptoCard

/-- THE SECOND FORM's CARD OF 'shibbolethlaw14.HelloAgain'. -/
def helloAgainUptoCard : Claim7 := { stood := { row := helloAgainUptoRow, standIns := [], harness := (true, "265238a3c800743aabd15c32e478210d873bb851344144e483369b0965ea390e"), looks := true }, kinds := [], alts := [], laidByText := true, laidKinds := [.data, .data], laidTests := true, laidLooks := .later }
def HelloAgainUptoCardSaid : Prop := Claim7.holds Tryd.pinned (.plain (OpenSpec.upto helloAgainSpec)) helloAgainUptoCard

/-- THE SECOND FORM's CARD OF 'shibbolethlaw14.HelloCut'. -/
def helloCutUptoCard : Claim7 := { stood := { row := helloCutUptoRow, standIns := [], harness := (true, "265238a3c800743aabd15c32e478210d873bb851344144e483369b0965ea390e"), looks := true }, kinds := [], alts := [], laidByText := true, laidKinds := [.data, .data], laidTests := true, laidLooks := .later }
def HelloCutUptoCardSaid : Prop := Claim7.holds Tryd.pinned (.plain (OpenSpec.upto helloCutSpec)) helloCutUptoCard
end Rows
end Go.Proofs.YtbfgoojpbhlboaaDoor
