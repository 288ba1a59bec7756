/-
  DERIVED. GIVEN WITH THE SEED: THE CARDS: each row of YtbkdmceefefiaabDoorRows.lean that lists a variable, with what it lists TIED to the program's text (the seventh form; the later family's looks); each row that meets fmt, with fmt's text TOLD by the authors' own Lean function (tested against real Go, not proved from fmt's source: count such statements apart). THE CARD IS WHAT COUNTS. Prove the row's statement (the work); the ties are given (YtbkdmceefefiaabDoorTie.lean); close each card by the builder's one call (the guide's Derived/Test/ToyasCard.lean, 'card_holds'). Laid BY PROGRAM, IN A SANDBOX (cutbox-door.mjs). By AI agents, Wed Nov 11 2026. No macro, syntax, notation, axiom, sorry.
-/
import Derived.Test.YtbkdmceefefiaabDoorRows
import GoSem.ClaimSeven
namespace Go.Proofs.YtbkdmceefefiaabDoor
namespace Rows

/-- THE TIED CARD OF 'whispererlaw01.UtfBack'. -/
def utfBackCard : Claim7 := { stood := { row := utfBackRow, standIns := [], harness := (true, "f5e1d6c221c38533858794061e20fa500fe876754dc0ec97d6c4b58df7f95661"), looks := false }, kinds := [], alts := [], laidByText := true, laidKinds := [.data, .pinned], laidTests := true, laidLooks := .later }
def UtfBackCardSaid : Prop := Claim7.holds Tryd.pinned (.plain (OpenSpec.ofChange utfBackSpec)) utfBackCard

/-- THE TIED CARD OF 'whispererlaw01.UtfPuts'. -/
def utfPutsCard : Claim7 := { stood := { row := utfPutsRow, standIns := [], harness := (true, "f5e1d6c221c38533858794061e20fa500fe876754dc0ec97d6c4b58df7f95661"), looks := false }, kinds := [], alts := [], laidByText := true, laidKinds := [.data, .pinned], laidTests := true, laidLooks := .later }
def UtfPutsCardSaid : Prop := Claim7.holds Tryd.pinned (.plain (OpenSpec.ofChange utfPutsSpec)) utfPutsCard

/-- THE TIED CARD OF 'whispererlaw01.UtfTexts'. -/
def utfTextsCard : Claim7 := { stood := { row := utfTextsRow, standIns := [], harness := (true, "f5e1d6c221c38533858794061e20fa500fe876754dc0ec97d6c4b58df7f95661"), looks := false }, kinds := [], alts := [], laidByText := true, laidKinds := [.data, .pinned], laidTests := true, laidLooks := .later }
def UtfTextsCardSaid : Prop := Claim7.holds Tryd.pinned (.plain (OpenSpec.ofChange utfTextsSpec)) utfTextsCard

/-- THE TIED CARD OF 'whispererlaw01.UtfTwice'. -/
def utfTwiceCard : Claim7 := { stood := { row := utfTwiceRow, standIns := [], harness := (true, "f5e1d6c221c38533858794061e20fa500fe876754dc0ec97d6c4b58df7f95661"), looks := false }, kinds := [], alts := [], laidByText := true, laidKinds := [.data, .pinned], laidTests := true, laidLooks := .later }
def UtfTwiceCardSaid : Prop := Claim7.holds Tryd.pinned (.plain (OpenSpec.ofChange utfTwiceSpec)) utfTwiceCard

/-- THE SECOND FORM's CARD OF 'whispererlaw01.UtfBack'. -/
def utfBackUptoCard : Claim7 := { stood := { row := utfBackUptoRow, standIns := [], harness := (true, "f5e1d6c221c38533858794061e20fa500fe876754dc0ec97d6c4b58df7f95661"), looks := false }, kinds := [], alts := [], laidByText := true, laidKinds := [.data, .pinned], laidTests := true, laidLooks := .later }
def UtfBackUptoCardSaid : Prop := Claim7.holds Tryd.pinned (.plain (OpenSpec.upto utfBackSpec)) utfBackUptoCard

/-- THE SECOND FORM's CARD OF 'whispererlaw01.UtfPuts'. -/
def utfPutsUptoCard : Claim7 := { stood := { row := utfPutsUptoRow, standIns := [], harness := (true, "f5e1d6c221c38533858794061e20fa500fe876754dc0ec97d6c4b58df7f95661"), looks := false }, kinds := [], alts := [], laidByText := true, laidKinds := [.data, .pinned], laidTests := true, laidLooks := .later }
def UtfPutsUptoCardSaid : Prop := Claim7.holds Tryd.pinned (.plain (OpenSpec.upto utfPutsSpec)) utfPutsUptoCard

/-- THE SECOND FORM's CARD OF 'whispererlaw01.UtfTexts'. -/
def utfTextsUptoCard : Claim7 := { stood := { row := utfTextsUptoRow, standIns := [], harness := (true, "f5e1d6c221c38533858794061e20fa500fe876754dc0ec97d6c4b58df7f95661"), looks := false }, kinds := [], alts := [], laidByText := true, laidKinds := [.data, .pinned], laidTests := true, laidLooks := .later }
def UtfTextsUptoCardSaid : Prop := Claim7.holds Tryd.pinned (.plain (OpenSpec.upto utfTextsSpec)) utfTextsUptoCard

/-- THE SECOND FORM's CARD OF 'whispererlaw01.UtfTwice'. -/
def utfTwiceUptoCard : Claim7 := { stood := { row := utfTwiceUptoRow, standIns := [], harness := (true, "f5e1d6c221c38533858794061e20fa500fe876754dc0ec97d6c4b58df7f95661"), looks := false }, kinds := [], alts := [], laidByText := true, laidKinds := [.data, .pinned], laidTests := true, laidLooks := .later }
def UtfTwiceUptoCardSaid : Prop := Claim7.holds Tryd.pinned (.plain (OpenSpec.upto utfTwiceSpec)) utfTwiceUptoCard
end Rows
end Go.Proofs.YtbkdmceefefiaabDoor
