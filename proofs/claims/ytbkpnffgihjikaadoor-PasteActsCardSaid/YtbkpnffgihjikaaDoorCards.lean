/-
  DERIVED. GIVEN WITH THE SEED: THE CARDS: each row of YtbkpnffgihjikaaDoorRows.lean that lists a variable, with what it lists TIED to the program's text (the seventh form; the later family's looks); each row that meets fmt, with fmt's text TOLD by the authors' own Lean function (tested against real Go, not proved from fmt's source: count such statements apart). THE CARD IS WHAT COUNTS. Prove the row's statement (the work); the ties are given (YtbkpnffgihjikaaDoorTie.lean); close each card by the builder's one call (the guide's Derived/Test/ToyasCard.lean, 'card_holds'). Laid BY PROGRAM, IN A SANDBOX (cutbox-door.mjs). By AI agents, Wed Nov 11 2026. No macro, syntax, notation, axiom, sorry.
-/
import Derived.Test.YtbkpnffgihjikaaDoorRows
import GoSem.ClaimSeven
namespace Go.Proofs.YtbkpnffgihjikaaDoor
namespace Rows

/-- THE TIED CARD OF 'whispererlaw12.PasteNone'. -/
def pasteNoneCard : Claim7 := { stood := { row := pasteNoneRow, standIns := [], harness := (true, "31d0a834adbb2c3bd5ce4fa207de5f0c79d689fd67b29c9f47ec4e7736828d87"), looks := false }, kinds := [], alts := [], laidByText := true, laidKinds := [.data, .pinned], laidTests := true, laidLooks := .later }
def PasteNoneCardSaid : Prop := Claim7.holds Tryd.pinned (.plain (OpenSpec.ofChange pasteNoneSpec)) pasteNoneCard

/-- THE TIED CARD OF 'whispererlaw12.PasteDrops'. -/
def pasteDropsCard : Claim7 := { stood := { row := pasteDropsRow, standIns := [], harness := (true, "31d0a834adbb2c3bd5ce4fa207de5f0c79d689fd67b29c9f47ec4e7736828d87"), looks := false }, kinds := [], alts := [], laidByText := true, laidKinds := [.data, .pinned], laidTests := true, laidLooks := .later }
def PasteDropsCardSaid : Prop := Claim7.holds Tryd.pinned (.plain (OpenSpec.ofChange pasteDropsSpec)) pasteDropsCard

/-- THE TIED CARD OF 'whispererlaw11.EditbufKills'. -/
def editbufKillsCard : Claim7 := { stood := { row := editbufKillsRow, standIns := [], harness := (true, "31d0a834adbb2c3bd5ce4fa207de5f0c79d689fd67b29c9f47ec4e7736828d87"), looks := false }, kinds := [], alts := [], laidByText := true, laidKinds := [.data, .pinned], laidTests := true, laidLooks := .later }
def EditbufKillsCardSaid : Prop := Claim7.holds Tryd.pinned (.plain (OpenSpec.ofChange editbufKillsSpec)) editbufKillsCard

/-- THE TIED CARD OF 'whispererlaw11.EditbufMoves'. -/
def editbufMovesCard : Claim7 := { stood := { row := editbufMovesRow, standIns := [], harness := (true, "31d0a834adbb2c3bd5ce4fa207de5f0c79d689fd67b29c9f47ec4e7736828d87"), looks := false }, kinds := [], alts := [], laidByText := true, laidKinds := [.data, .pinned], laidTests := true, laidLooks := .later }
def EditbufMovesCardSaid : Prop := Claim7.holds Tryd.pinned (.plain (OpenSpec.ofChange editbufMovesSpec)) editbufMovesCard

/-- THE TIED CARD OF 'whispererlaw11.EditbufActs'. -/
def editbufActsCard : Claim7 := { stood := { row := editbufActsRow, standIns := [], harness := (true, "31d0a834adbb2c3bd5ce4fa207de5f0c79d689fd67b29c9f47ec4e7736828d87"), looks := false }, kinds := [], alts := [], laidByText := true, laidKinds := [.data, .pinned], laidTests := true, laidLooks := .later }
def EditbufActsCardSaid : Prop := Claim7.holds Tryd.pinned (.plain (OpenSpec.ofChange editbufActsSpec)) editbufActsCard

/-- THE TIED CARD OF 'whispererlaw11.EditbufNone'. -/
def editbufNoneCard : Claim7 := { stood := { row := editbufNoneRow, standIns := [], harness := (true, "31d0a834adbb2c3bd5ce4fa207de5f0c79d689fd67b29c9f47ec4e7736828d87"), looks := false }, kinds := [], alts := [], laidByText := true, laidKinds := [.data, .pinned], laidTests := true, laidLooks := .later }
def EditbufNoneCardSaid : Prop := Claim7.holds Tryd.pinned (.plain (OpenSpec.ofChange editbufNoneSpec)) editbufNoneCard

/-- THE TIED CARD OF 'whispererlaw11.EditbufFull'. -/
def editbufFullCard : Claim7 := { stood := { row := editbufFullRow, standIns := [], harness := (true, "31d0a834adbb2c3bd5ce4fa207de5f0c79d689fd67b29c9f47ec4e7736828d87"), looks := false }, kinds := [], alts := [], laidByText := true, laidKinds := [.data, .pinned], laidTests := true, laidLooks := .later }
def EditbufFullCardSaid : Prop := Claim7.holds Tryd.pinned (.plain (OpenSpec.ofChange editbufFullSpec)) editbufFullCard

/-- THE TIED CARD OF 'whispererlaw11.EditbufVacates'. -/
def editbufVacatesCard : Claim7 := { stood := { row := editbufVacatesRow, standIns := [], harness := (true, "31d0a834adbb2c3bd5ce4fa207de5f0c79d689fd67b29c9f47ec4e7736828d87"), looks := false }, kinds := [], alts := [], laidByText := true, laidKinds := [.data, .pinned], laidTests := true, laidLooks := .later }
def EditbufVacatesCardSaid : Prop := Claim7.holds Tryd.pinned (.plain (OpenSpec.ofChange editbufVacatesSpec)) editbufVacatesCard

/-- THE TIED CARD OF 'whispererlaw12.PasteWhole'. -/
def pasteWholeCard : Claim7 := { stood := { row := pasteWholeRow, standIns := [], harness := (true, "31d0a834adbb2c3bd5ce4fa207de5f0c79d689fd67b29c9f47ec4e7736828d87"), looks := false }, kinds := [], alts := [], laidByText := true, laidKinds := [.data, .pinned], laidTests := true, laidLooks := .later }
def PasteWholeCardSaid : Prop := Claim7.holds Tryd.pinned (.plain (OpenSpec.ofChange pasteWholeSpec)) pasteWholeCard

/-- THE TIED CARD OF 'whispererlaw12.PasteTyped'. -/
def pasteTypedCard : Claim7 := { stood := { row := pasteTypedRow, standIns := [], harness := (true, "31d0a834adbb2c3bd5ce4fa207de5f0c79d689fd67b29c9f47ec4e7736828d87"), looks := false }, kinds := [], alts := [], laidByText := true, laidKinds := [.data, .pinned], laidTests := true, laidLooks := .later }
def PasteTypedCardSaid : Prop := Claim7.holds Tryd.pinned (.plain (OpenSpec.ofChange pasteTypedSpec)) pasteTypedCard

/-- THE TIED CARD OF 'whispererlaw12.PasteActs'. -/
def pasteActsCard : Claim7 := { stood := { row := pasteActsRow, standIns := [], harness := (true, "31d0a834adbb2c3bd5ce4fa207de5f0c79d689fd67b29c9f47ec4e7736828d87"), looks := false }, kinds := [], alts := [], laidByText := true, laidKinds := [.data, .pinned], laidTests := true, laidLooks := .later }
def PasteActsCardSaid : Prop := Claim7.holds Tryd.pinned (.plain (OpenSpec.ofChange pasteActsSpec)) pasteActsCard

/-- THE SECOND FORM's CARD OF 'whispererlaw12.PasteNone'. -/
def pasteNoneUptoCard : Claim7 := { stood := { row := pasteNoneUptoRow, standIns := [], harness := (true, "31d0a834adbb2c3bd5ce4fa207de5f0c79d689fd67b29c9f47ec4e7736828d87"), looks := false }, kinds := [], alts := [], laidByText := true, laidKinds := [.data, .pinned], laidTests := true, laidLooks := .later }
def PasteNoneUptoCardSaid : Prop := Claim7.holds Tryd.pinned (.plain (OpenSpec.upto pasteNoneSpec)) pasteNoneUptoCard

/-- THE SECOND FORM's CARD OF 'whispererlaw12.PasteDrops'. -/
def pasteDropsUptoCard : Claim7 := { stood := { row := pasteDropsUptoRow, standIns := [], harness := (true, "31d0a834adbb2c3bd5ce4fa207de5f0c79d689fd67b29c9f47ec4e7736828d87"), looks := false }, kinds := [], alts := [], laidByText := true, laidKinds := [.data, .pinned], laidTests := true, laidLooks := .later }
def PasteDropsUptoCardSaid : Prop := Claim7.holds Tryd.pinned (.plain (OpenSpec.upto pasteDropsSpec)) pasteDropsUptoCard

/-- THE SECOND FORM's CARD OF 'whispererlaw11.EditbufKills'. -/
def editbufKillsUptoCard : Claim7 := { stood := { row := editbufKillsUptoRow, standIns := [], harness := (true, "31d0a834adbb2c3bd5ce4fa207de5f0c79d689fd67b29c9f47ec4e7736828d87"), looks := false }, kinds := [], alts := [], laidByText := true, laidKinds := [.data, .pinned], laidTests := true, laidLooks := .later }
def EditbufKillsUptoCardSaid : Prop := Claim7.holds Tryd.pinned (.plain (OpenSpec.upto editbufKillsSpec)) editbufKillsUptoCard

/-- THE SECOND FORM's CARD OF 'whispererlaw11.EditbufMoves'. -/
def editbufMovesUptoCard : Claim7 := { stood := { row := editbufMovesUptoRow, standIns := [], harness := (true, "31d0a834adbb2c3bd5ce4fa207de5f0c79d689fd67b29c9f47ec4e7736828d87"), looks := false }, kinds := [], alts := [], laidByText := true, laidKinds := [.data, .pinned], laidTests := true, laidLooks := .later }
def EditbufMovesUptoCardSaid : Prop := Claim7.holds Tryd.pinned (.plain (OpenSpec.upto editbufMovesSpec)) editbufMovesUptoCard

/-- THE SECOND FORM's CARD OF 'whispererlaw11.EditbufActs'. -/
def editbufActsUptoCard : Claim7 := { stood := { row := editbufActsUptoRow, standIns := [], harness := (true, "31d0a834adbb2c3bd5ce4fa207de5f0c79d689fd67b29c9f47ec4e7736828d87"), looks := false }, kinds := [], alts := [], laidByText := true, laidKinds := [.data, .pinned], laidTests := true, laidLooks := .later }
def EditbufActsUptoCardSaid : Prop := Claim7.holds Tryd.pinned (.plain (OpenSpec.upto editbufActsSpec)) editbufActsUptoCard

/-- THE SECOND FORM's CARD OF 'whispererlaw11.EditbufNone'. -/
def editbufNoneUptoCard : Claim7 := { stood := { row := editbufNoneUptoRow, standIns := [], harness := (true, "31d0a834adbb2c3bd5ce4fa207de5f0c79d689fd67b29c9f47ec4e7736828d87"), looks := false }, kinds := [], alts := [], laidByText := true, laidKinds := [.data, .pinned], laidTests := true, laidLooks := .later }
def EditbufNoneUptoCardSaid : Prop := Claim7.holds Tryd.pinned (.plain (OpenSpec.upto editbufNoneSpec)) editbufNoneUptoCard

/-- THE SECOND FORM's CARD OF 'whispererlaw11.EditbufFull'. -/
def editbufFullUptoCard : Claim7 := { stood := { row := editbufFullUptoRow, standIns := [], harness := (true, "31d0a834adbb2c3bd5ce4fa207de5f0c79d689fd67b29c9f47ec4e7736828d87"), looks := false }, kinds := [], alts := [], laidByText := true, laidKinds := [.data, .pinned], laidTests := true, laidLooks := .later }
def EditbufFullUptoCardSaid : Prop := Claim7.holds Tryd.pinned (.plain (OpenSpec.upto editbufFullSpec)) editbufFullUptoCard

/-- THE SECOND FORM's CARD OF 'whispererlaw11.EditbufVacates'. -/
def editbufVacatesUptoCard : Claim7 := { stood := { row := editbufVacatesUptoRow, standIns := [], harness := (true, "31d0a834adbb2c3bd5ce4fa207de5f0c79d689fd67b29c9f47ec4e7736828d87"), looks := false }, kinds := [], alts := [], laidByText := true, laidKinds := [.data, .pinned], laidTests := true, laidLooks := .later }
def EditbufVacatesUptoCardSaid : Prop := Claim7.holds Tryd.pinned (.plain (OpenSpec.upto editbufVacatesSpec)) editbufVacatesUptoCard

/-- THE SECOND FORM's CARD OF 'whispererlaw12.PasteWhole'. -/
def pasteWholeUptoCard : Claim7 := { stood := { row := pasteWholeUptoRow, standIns := [], harness := (true, "31d0a834adbb2c3bd5ce4fa207de5f0c79d689fd67b29c9f47ec4e7736828d87"), looks := false }, kinds := [], alts := [], laidByText := true, laidKinds := [.data, .pinned], laidTests := true, laidLooks := .later }
def PasteWholeUptoCardSaid : Prop := Claim7.holds Tryd.pinned (.plain (OpenSpec.upto pasteWholeSpec)) pasteWholeUptoCard

/-- THE SECOND FORM's CARD OF 'whispererlaw12.PasteTyped'. -/
def pasteTypedUptoCard : Claim7 := { stood := { row := pasteTypedUptoRow, standIns := [], harness := (true, "31d0a834adbb2c3bd5ce4fa207de5f0c79d689fd67b29c9f47ec4e7736828d87"), looks := false }, kinds := [], alts := [], laidByText := true, laidKinds := [.data, .pinned], laidTests := true, laidLooks := .later }
def PasteTypedUptoCardSaid : Prop := Claim7.holds Tryd.pinned (.plain (OpenSpec.upto pasteTypedSpec)) pasteTypedUptoCard

/-- THE SECOND FORM's CARD OF 'whispererlaw12.PasteActs'. -/
def pasteActsUptoCard : Claim7 := { stood := { row := pasteActsUptoRow, standIns := [], harness := (true, "31d0a834adbb2c3bd5ce4fa207de5f0c79d689fd67b29c9f47ec4e7736828d87"), looks := false }, kinds := [], alts := [], laidByText := true, laidKinds := [.data, .pinned], laidTests := true, laidLooks := .later }
def PasteActsUptoCardSaid : Prop := Claim7.holds Tryd.pinned (.plain (OpenSpec.upto pasteActsSpec)) pasteActsUptoCard
end Rows
end Go.Proofs.YtbkpnffgihjikaaDoor
