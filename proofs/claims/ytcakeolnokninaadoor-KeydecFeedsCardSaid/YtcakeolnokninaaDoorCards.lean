/-
  DERIVED. GIVEN WITH THE SEED: THE CARDS: each row of YtcakeolnokninaaDoorRows.lean that lists a variable, with what it lists TIED to the program's text (the seventh form; the later family's looks); each row that meets fmt, with fmt's text TOLD by the authors' own Lean function (tested against real Go, not proved from fmt's source: count such statements apart). THE CARD IS WHAT COUNTS. Prove the row's statement (the work); the ties are given (YtcakeolnokninaaDoorTie.lean); close each card by the builder's one call (the guide's Derived/Test/ToyasCard.lean, 'card_holds'). Laid BY PROGRAM, IN A SANDBOX (cutbox-door.mjs). By AI agents, Wed Nov 11 2026. No macro, syntax, notation, axiom, sorry.
-/
import Derived.Test.YtcakeolnokninaaDoorRows
import GoSem.ClaimSeven
namespace Go.Proofs.YtcakeolnokninaaDoor
namespace Rows

/-- THE TIED CARD OF 'whispererlaw15.SinkApart'. -/
def sinkApartCard : Claim7 := { stood := { row := sinkApartRow, standIns := [], harness := (true, "7402fed5384c7373145cfe1cfd9a36489d95f8ddc780ae51505ea33baf5cf05d"), looks := false }, kinds := [], alts := [], laidByText := true, laidKinds := [.data, .pinned], laidTests := true, laidLooks := .later }
def SinkApartCardSaid : Prop := Claim7.holds Tryd.pinned (.plain (OpenSpec.ofChange sinkApartSpec)) sinkApartCard

/-- THE TIED CARD OF 'whispererlaw15.SinkNone'. -/
def sinkNoneCard : Claim7 := { stood := { row := sinkNoneRow, standIns := [], harness := (true, "7402fed5384c7373145cfe1cfd9a36489d95f8ddc780ae51505ea33baf5cf05d"), looks := false }, kinds := [], alts := [], laidByText := true, laidKinds := [.data, .pinned], laidTests := true, laidLooks := .later }
def SinkNoneCardSaid : Prop := Claim7.holds Tryd.pinned (.plain (OpenSpec.ofChange sinkNoneSpec)) sinkNoneCard

/-- THE TIED CARD OF 'whispererlaw10.KeydecPieces'. -/
def keydecPiecesCard : Claim7 := { stood := { row := keydecPiecesRow, standIns := [], harness := (true, "7402fed5384c7373145cfe1cfd9a36489d95f8ddc780ae51505ea33baf5cf05d"), looks := false }, kinds := [], alts := [], laidByText := true, laidKinds := [.data, .pinned], laidTests := true, laidLooks := .later }
def KeydecPiecesCardSaid : Prop := Claim7.holds Tryd.pinned (.plain (OpenSpec.ofChange keydecPiecesSpec)) keydecPiecesCard

/-- THE TIED CARD OF 'whispererlaw10.KeydecResets'. -/
def keydecResetsCard : Claim7 := { stood := { row := keydecResetsRow, standIns := [], harness := (true, "7402fed5384c7373145cfe1cfd9a36489d95f8ddc780ae51505ea33baf5cf05d"), looks := false }, kinds := [], alts := [], laidByText := true, laidKinds := [.data, .pinned], laidTests := true, laidLooks := .later }
def KeydecResetsCardSaid : Prop := Claim7.holds Tryd.pinned (.plain (OpenSpec.ofChange keydecResetsSpec)) keydecResetsCard

/-- THE TIED CARD OF 'whispererlaw10.KeydecTexts'. -/
def keydecTextsCard : Claim7 := { stood := { row := keydecTextsRow, standIns := [], harness := (true, "7402fed5384c7373145cfe1cfd9a36489d95f8ddc780ae51505ea33baf5cf05d"), looks := false }, kinds := [], alts := [], laidByText := true, laidKinds := [.data, .pinned], laidTests := true, laidLooks := .later }
def KeydecTextsCardSaid : Prop := Claim7.holds Tryd.pinned (.plain (OpenSpec.ofChange keydecTextsSpec)) keydecTextsCard

/-- THE TIED CARD OF 'whispererlaw10.KeydecCounts'. -/
def keydecCountsCard : Claim7 := { stood := { row := keydecCountsRow, standIns := [], harness := (true, "7402fed5384c7373145cfe1cfd9a36489d95f8ddc780ae51505ea33baf5cf05d"), looks := false }, kinds := [], alts := [], laidByText := true, laidKinds := [.data, .pinned], laidTests := true, laidLooks := .later }
def KeydecCountsCardSaid : Prop := Claim7.holds Tryd.pinned (.plain (OpenSpec.ofChange keydecCountsSpec)) keydecCountsCard

/-- THE TIED CARD OF 'whispererlaw10.KeydecBack'. -/
def keydecBackCard : Claim7 := { stood := { row := keydecBackRow, standIns := [], harness := (true, "7402fed5384c7373145cfe1cfd9a36489d95f8ddc780ae51505ea33baf5cf05d"), looks := false }, kinds := [], alts := [], laidByText := true, laidKinds := [.data, .pinned], laidTests := true, laidLooks := .later }
def KeydecBackCardSaid : Prop := Claim7.holds Tryd.pinned (.plain (OpenSpec.ofChange keydecBackSpec)) keydecBackCard

/-- THE TIED CARD OF 'whispererlaw10.KeydecFeeds'. -/
def keydecFeedsCard : Claim7 := { stood := { row := keydecFeedsRow, standIns := [], harness := (true, "7402fed5384c7373145cfe1cfd9a36489d95f8ddc780ae51505ea33baf5cf05d"), looks := false }, kinds := [], alts := [], laidByText := true, laidKinds := [.data, .pinned], laidTests := true, laidLooks := .later }
def KeydecFeedsCardSaid : Prop := Claim7.holds Tryd.pinned (.plain (OpenSpec.ofChange keydecFeedsSpec)) keydecFeedsCard

/-- THE TIED CARD OF 'whispererlaw10.KeydecNone'. -/
def keydecNoneCard : Claim7 := { stood := { row := keydecNoneRow, standIns := [], harness := (true, "7402fed5384c7373145cfe1cfd9a36489d95f8ddc780ae51505ea33baf5cf05d"), looks := false }, kinds := [], alts := [], laidByText := true, laidKinds := [.data, .pinned], laidTests := true, laidLooks := .later }
def KeydecNoneCardSaid : Prop := Claim7.holds Tryd.pinned (.plain (OpenSpec.ofChange keydecNoneSpec)) keydecNoneCard

/-- THE SECOND FORM's CARD OF 'whispererlaw15.SinkApart'. -/
def sinkApartUptoCard : Claim7 := { stood := { row := sinkApartUptoRow, standIns := [], harness := (true, "7402fed5384c7373145cfe1cfd9a36489d95f8ddc780ae51505ea33baf5cf05d"), looks := false }, kinds := [], alts := [], laidByText := true, laidKinds := [.data, .pinned], laidTests := true, laidLooks := .later }
def SinkApartUptoCardSaid : Prop := Claim7.holds Tryd.pinned (.plain (OpenSpec.upto sinkApartSpec)) sinkApartUptoCard

/-- THE SECOND FORM's CARD OF 'whispererlaw15.SinkNone'. -/
def sinkNoneUptoCard : Claim7 := { stood := { row := sinkNoneUptoRow, standIns := [], harness := (true, "7402fed5384c7373145cfe1cfd9a36489d95f8ddc780ae51505ea33baf5cf05d"), looks := false }, kinds := [], alts := [], laidByText := true, laidKinds := [.data, .pinned], laidTests := true, laidLooks := .later }
def SinkNoneUptoCardSaid : Prop := Claim7.holds Tryd.pinned (.plain (OpenSpec.upto sinkNoneSpec)) sinkNoneUptoCard

/-- THE SECOND FORM's CARD OF 'whispererlaw10.KeydecPieces'. -/
def keydecPiecesUptoCard : Claim7 := { stood := { row := keydecPiecesUptoRow, standIns := [], harness := (true, "7402fed5384c7373145cfe1cfd9a36489d95f8ddc780ae51505ea33baf5cf05d"), looks := false }, kinds := [], alts := [], laidByText := true, laidKinds := [.data, .pinned], laidTests := true, laidLooks := .later }
def KeydecPiecesUptoCardSaid : Prop := Claim7.holds Tryd.pinned (.plain (OpenSpec.upto keydecPiecesSpec)) keydecPiecesUptoCard

/-- THE SECOND FORM's CARD OF 'whispererlaw10.KeydecResets'. -/
def keydecResetsUptoCard : Claim7 := { stood := { row := keydecResetsUptoRow, standIns := [], harness := (true, "7402fed5384c7373145cfe1cfd9a36489d95f8ddc780ae51505ea33baf5cf05d"), looks := false }, kinds := [], alts := [], laidByText := true, laidKinds := [.data, .pinned], laidTests := true, laidLooks := .later }
def KeydecResetsUptoCardSaid : Prop := Claim7.holds Tryd.pinned (.plain (OpenSpec.upto keydecResetsSpec)) keydecResetsUptoCard

/-- THE SECOND FORM's CARD OF 'whispererlaw10.KeydecTexts'. -/
def keydecTextsUptoCard : Claim7 := { stood := { row := keydecTextsUptoRow, standIns := [], harness := (true, "7402fed5384c7373145cfe1cfd9a36489d95f8ddc780ae51505ea33baf5cf05d"), looks := false }, kinds := [], alts := [], laidByText := true, laidKinds := [.data, .pinned], laidTests := true, laidLooks := .later }
def KeydecTextsUptoCardSaid : Prop := Claim7.holds Tryd.pinned (.plain (OpenSpec.upto keydecTextsSpec)) keydecTextsUptoCard

/-- THE SECOND FORM's CARD OF 'whispererlaw10.KeydecCounts'. -/
def keydecCountsUptoCard : Claim7 := { stood := { row := keydecCountsUptoRow, standIns := [], harness := (true, "7402fed5384c7373145cfe1cfd9a36489d95f8ddc780ae51505ea33baf5cf05d"), looks := false }, kinds := [], alts := [], laidByText := true, laidKinds := [.data, .pinned], laidTests := true, laidLooks := .later }
def KeydecCountsUptoCardSaid : Prop := Claim7.holds Tryd.pinned (.plain (OpenSpec.upto keydecCountsSpec)) keydecCountsUptoCard

/-- THE SECOND FORM's CARD OF 'whispererlaw10.KeydecBack'. -/
def keydecBackUptoCard : Claim7 := { stood := { row := keydecBackUptoRow, standIns := [], harness := (true, "7402fed5384c7373145cfe1cfd9a36489d95f8ddc780ae51505ea33baf5cf05d"), looks := false }, kinds := [], alts := [], laidByText := true, laidKinds := [.data, .pinned], laidTests := true, laidLooks := .later }
def KeydecBackUptoCardSaid : Prop := Claim7.holds Tryd.pinned (.plain (OpenSpec.upto keydecBackSpec)) keydecBackUptoCard

/-- THE SECOND FORM's CARD OF 'whispererlaw10.KeydecFeeds'. -/
def keydecFeedsUptoCard : Claim7 := { stood := { row := keydecFeedsUptoRow, standIns := [], harness := (true, "7402fed5384c7373145cfe1cfd9a36489d95f8ddc780ae51505ea33baf5cf05d"), looks := false }, kinds := [], alts := [], laidByText := true, laidKinds := [.data, .pinned], laidTests := true, laidLooks := .later }
def KeydecFeedsUptoCardSaid : Prop := Claim7.holds Tryd.pinned (.plain (OpenSpec.upto keydecFeedsSpec)) keydecFeedsUptoCard

/-- THE SECOND FORM's CARD OF 'whispererlaw10.KeydecNone'. -/
def keydecNoneUptoCard : Claim7 := { stood := { row := keydecNoneUptoRow, standIns := [], harness := (true, "7402fed5384c7373145cfe1cfd9a36489d95f8ddc780ae51505ea33baf5cf05d"), looks := false }, kinds := [], alts := [], laidByText := true, laidKinds := [.data, .pinned], laidTests := true, laidLooks := .later }
def KeydecNoneUptoCardSaid : Prop := Claim7.holds Tryd.pinned (.plain (OpenSpec.upto keydecNoneSpec)) keydecNoneUptoCard
end Rows
end Go.Proofs.YtcakeolnokninaaDoor
