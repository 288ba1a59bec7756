/-
  DERIVED. GIVEN WITH THE SEED: THE CARDS: each row of YtbkdmceefefiaaaDoorRows.lean that lists a variable, with what it lists TIED to the program's text (the seventh form; the later family's looks); each row that meets fmt, with fmt's text TOLD by the authors' own Lean function (tested against real Go, not proved from fmt's source: count such statements apart). THE CARD IS WHAT COUNTS. Prove the row's statement (the work); the ties are given (YtbkdmceefefiaaaDoorTie.lean); close each card by the builder's one call (the guide's Derived/Test/ToyasCard.lean, 'card_holds'). Laid BY PROGRAM, IN A SANDBOX (cutbox-door.mjs). By AI agents, Wed Nov 11 2026. No macro, syntax, notation, axiom, sorry.
-/
import Derived.Test.YtbkdmceefefiaaaDoorRows
import GoSem.ClaimSeven
namespace Go.Proofs.YtbkdmceefefiaaaDoor
namespace Rows

/-- THE TIED CARD OF 'whispererlaw01.UtfNexts'. -/
def utfNextsCard : Claim7 := { stood := { row := utfNextsRow, standIns := [], harness := (true, "2442023ba257807664322ebf60de477dbb096d081bddaac53d7491d55ca3a620"), looks := false }, kinds := [], alts := [], laidByText := true, laidKinds := [.data, .pinned], laidTests := true, laidLooks := .later }
def UtfNextsCardSaid : Prop := Claim7.holds Tryd.pinned (.plain (OpenSpec.ofChange utfNextsSpec)) utfNextsCard

/-- THE TIED CARD OF 'whispererlaw01.UtfBegins'. -/
def utfBeginsCard : Claim7 := { stood := { row := utfBeginsRow, standIns := [], harness := (true, "2442023ba257807664322ebf60de477dbb096d081bddaac53d7491d55ca3a620"), looks := false }, kinds := [], alts := [], laidByText := true, laidKinds := [.data, .pinned], laidTests := true, laidLooks := .later }
def UtfBeginsCardSaid : Prop := Claim7.holds Tryd.pinned (.plain (OpenSpec.ofChange utfBeginsSpec)) utfBeginsCard

/-- THE TIED CARD OF 'whispererlaw01.UtfInvalid'. -/
def utfInvalidCard : Claim7 := { stood := { row := utfInvalidRow, standIns := [], harness := (true, "2442023ba257807664322ebf60de477dbb096d081bddaac53d7491d55ca3a620"), looks := false }, kinds := [], alts := [], laidByText := true, laidKinds := [.data, .pinned], laidTests := true, laidLooks := .later }
def UtfInvalidCardSaid : Prop := Claim7.holds Tryd.pinned (.plain (OpenSpec.ofChange utfInvalidSpec)) utfInvalidCard

/-- THE SECOND FORM's CARD OF 'whispererlaw01.UtfNexts'. -/
def utfNextsUptoCard : Claim7 := { stood := { row := utfNextsUptoRow, standIns := [], harness := (true, "2442023ba257807664322ebf60de477dbb096d081bddaac53d7491d55ca3a620"), looks := false }, kinds := [], alts := [], laidByText := true, laidKinds := [.data, .pinned], laidTests := true, laidLooks := .later }
def UtfNextsUptoCardSaid : Prop := Claim7.holds Tryd.pinned (.plain (OpenSpec.upto utfNextsSpec)) utfNextsUptoCard

/-- THE SECOND FORM's CARD OF 'whispererlaw01.UtfBegins'. -/
def utfBeginsUptoCard : Claim7 := { stood := { row := utfBeginsUptoRow, standIns := [], harness := (true, "2442023ba257807664322ebf60de477dbb096d081bddaac53d7491d55ca3a620"), looks := false }, kinds := [], alts := [], laidByText := true, laidKinds := [.data, .pinned], laidTests := true, laidLooks := .later }
def UtfBeginsUptoCardSaid : Prop := Claim7.holds Tryd.pinned (.plain (OpenSpec.upto utfBeginsSpec)) utfBeginsUptoCard

/-- THE SECOND FORM's CARD OF 'whispererlaw01.UtfInvalid'. -/
def utfInvalidUptoCard : Claim7 := { stood := { row := utfInvalidUptoRow, standIns := [], harness := (true, "2442023ba257807664322ebf60de477dbb096d081bddaac53d7491d55ca3a620"), looks := false }, kinds := [], alts := [], laidByText := true, laidKinds := [.data, .pinned], laidTests := true, laidLooks := .later }
def UtfInvalidUptoCardSaid : Prop := Claim7.holds Tryd.pinned (.plain (OpenSpec.upto utfInvalidSpec)) utfInvalidUptoCard
end Rows
end Go.Proofs.YtbkdmceefefiaaaDoor
