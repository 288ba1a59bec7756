/-
  DERIVED. GIVEN WITH THE SEED: THE CARDS: each row of YtbflcikfaoojmaaDoorRows.lean that lists a variable, with what it lists TIED to the program's text (the seventh form; the later family's looks); each row that meets fmt, with fmt's text TOLD by the authors' own Lean function (tested against real Go, not proved from fmt's source: count such statements apart). THE CARD IS WHAT COUNTS. Prove the row's statement (the work); the ties are given (YtbflcikfaoojmaaDoorTie.lean); close each card by the builder's one call (the guide's Derived/Test/ToyasCard.lean, 'card_holds'). Laid BY PROGRAM, IN A SANDBOX (cutbox-door.mjs). By AI agents, Wed Nov 11 2026. No macro, syntax, notation, axiom, sorry.
-/
import Derived.Test.YtbflcikfaoojmaaDoorRows
import GoSem.ClaimSeven
namespace Go.Proofs.YtbflcikfaoojmaaDoor
namespace Rows

/-- THE TIED CARD OF 'whispererlaw20.TwinTurns'. -/
def twinTurnsCard : Claim7 := { stood := { row := twinTurnsRow, standIns := [], harness := (true, "c9e64198f42174ffdb666c9280a6953444cbfb9a03ef8ce4512ed26f3aa0bb78"), looks := false }, kinds := [], alts := [], laidByText := true, laidKinds := [.data, .pinned], laidTests := true, laidLooks := .later }
def TwinTurnsCardSaid : Prop := Claim7.holds Tryd.pinned (.plain (OpenSpec.ofChange twinTurnsSpec)) twinTurnsCard

/-- THE TIED CARD OF 'whispererlaw20.TwinPlans'. -/
def twinPlansCard : Claim7 := { stood := { row := twinPlansRow, standIns := [], harness := (true, "c9e64198f42174ffdb666c9280a6953444cbfb9a03ef8ce4512ed26f3aa0bb78"), looks := false }, kinds := [], alts := [], laidByText := true, laidKinds := [.data, .pinned], laidTests := true, laidLooks := .later }
def TwinPlansCardSaid : Prop := Claim7.holds Tryd.pinned (.plain (OpenSpec.ofChange twinPlansSpec)) twinPlansCard

/-- THE TIED CARD OF 'whispererlaw20.TwinBack'. -/
def twinBackCard : Claim7 := { stood := { row := twinBackRow, standIns := [], harness := (true, "c9e64198f42174ffdb666c9280a6953444cbfb9a03ef8ce4512ed26f3aa0bb78"), looks := false }, kinds := [], alts := [], laidByText := true, laidKinds := [.data, .pinned], laidTests := true, laidLooks := .later }
def TwinBackCardSaid : Prop := Claim7.holds Tryd.pinned (.plain (OpenSpec.ofChange twinBackSpec)) twinBackCard

/-- THE TIED CARD OF 'whispererlaw20.TwinRows'. -/
def twinRowsCard : Claim7 := { stood := { row := twinRowsRow, standIns := [], harness := (true, "c9e64198f42174ffdb666c9280a6953444cbfb9a03ef8ce4512ed26f3aa0bb78"), looks := false }, kinds := [], alts := [], laidByText := true, laidKinds := [.data, .pinned], laidTests := true, laidLooks := .later }
def TwinRowsCardSaid : Prop := Claim7.holds Tryd.pinned (.plain (OpenSpec.ofChange twinRowsSpec)) twinRowsCard

/-- THE TIED CARD OF 'whispererlaw20.TwinPlain'. -/
def twinPlainCard : Claim7 := { stood := { row := twinPlainRow, standIns := [], harness := (true, "c9e64198f42174ffdb666c9280a6953444cbfb9a03ef8ce4512ed26f3aa0bb78"), looks := false }, kinds := [], alts := [], laidByText := true, laidKinds := [.data, .pinned], laidTests := true, laidLooks := .later }
def TwinPlainCardSaid : Prop := Claim7.holds Tryd.pinned (.plain (OpenSpec.ofChange twinPlainSpec)) twinPlainCard

/-- THE TIED CARD OF 'whispererlaw20.TwinKeys'. -/
def twinKeysCard : Claim7 := { stood := { row := twinKeysRow, standIns := [], harness := (true, "c9e64198f42174ffdb666c9280a6953444cbfb9a03ef8ce4512ed26f3aa0bb78"), looks := false }, kinds := [], alts := [], laidByText := true, laidKinds := [.data, .pinned], laidTests := true, laidLooks := .later }
def TwinKeysCardSaid : Prop := Claim7.holds Tryd.pinned (.plain (OpenSpec.ofChange twinKeysSpec)) twinKeysCard

/-- THE SECOND FORM's CARD OF 'whispererlaw20.TwinTurns'. -/
def twinTurnsUptoCard : Claim7 := { stood := { row := twinTurnsUptoRow, standIns := [], harness := (true, "c9e64198f42174ffdb666c9280a6953444cbfb9a03ef8ce4512ed26f3aa0bb78"), looks := false }, kinds := [], alts := [], laidByText := true, laidKinds := [.data, .pinned], laidTests := true, laidLooks := .later }
def TwinTurnsUptoCardSaid : Prop := Claim7.holds Tryd.pinned (.plain (OpenSpec.upto twinTurnsSpec)) twinTurnsUptoCard

/-- THE SECOND FORM's CARD OF 'whispererlaw20.TwinPlans'. -/
def twinPlansUptoCard : Claim7 := { stood := { row := twinPlansUptoRow, standIns := [], harness := (true, "c9e64198f42174ffdb666c9280a6953444cbfb9a03ef8ce4512ed26f3aa0bb78"), looks := false }, kinds := [], alts := [], laidByText := true, laidKinds := [.data, .pinned], laidTests := true, laidLooks := .later }
def TwinPlansUptoCardSaid : Prop := Claim7.holds Tryd.pinned (.plain (OpenSpec.upto twinPlansSpec)) twinPlansUptoCard

/-- THE SECOND FORM's CARD OF 'whispererlaw20.TwinBack'. -/
def twinBackUptoCard : Claim7 := { stood := { row := twinBackUptoRow, standIns := [], harness := (true, "c9e64198f42174ffdb666c9280a6953444cbfb9a03ef8ce4512ed26f3aa0bb78"), looks := false }, kinds := [], alts := [], laidByText := true, laidKinds := [.data, .pinned], laidTests := true, laidLooks := .later }
def TwinBackUptoCardSaid : Prop := Claim7.holds Tryd.pinned (.plain (OpenSpec.upto twinBackSpec)) twinBackUptoCard

/-- THE SECOND FORM's CARD OF 'whispererlaw20.TwinRows'. -/
def twinRowsUptoCard : Claim7 := { stood := { row := twinRowsUptoRow, standIns := [], harness := (true, "c9e64198f42174ffdb666c9280a6953444cbfb9a03ef8ce4512ed26f3aa0bb78"), looks := false }, kinds := [], alts := [], laidByText := true, laidKinds := [.data, .pinned], laidTests := true, laidLooks := .later }
def TwinRowsUptoCardSaid : Prop := Claim7.holds Tryd.pinned (.plain (OpenSpec.upto twinRowsSpec)) twinRowsUptoCard

/-- THE SECOND FORM's CARD OF 'whispererlaw20.TwinPlain'. -/
def twinPlainUptoCard : Claim7 := { stood := { row := twinPlainUptoRow, standIns := [], harness := (true, "c9e64198f42174ffdb666c9280a6953444cbfb9a03ef8ce4512ed26f3aa0bb78"), looks := false }, kinds := [], alts := [], laidByText := true, laidKinds := [.data, .pinned], laidTests := true, laidLooks := .later }
def TwinPlainUptoCardSaid : Prop := Claim7.holds Tryd.pinned (.plain (OpenSpec.upto twinPlainSpec)) twinPlainUptoCard

/-- THE SECOND FORM's CARD OF 'whispererlaw20.TwinKeys'. -/
def twinKeysUptoCard : Claim7 := { stood := { row := twinKeysUptoRow, standIns := [], harness := (true, "c9e64198f42174ffdb666c9280a6953444cbfb9a03ef8ce4512ed26f3aa0bb78"), looks := false }, kinds := [], alts := [], laidByText := true, laidKinds := [.data, .pinned], laidTests := true, laidLooks := .later }
def TwinKeysUptoCardSaid : Prop := Claim7.holds Tryd.pinned (.plain (OpenSpec.upto twinKeysSpec)) twinKeysUptoCard
end Rows
end Go.Proofs.YtbflcikfaoojmaaDoor
