/-
  NARROWER THAN 'FOR EVERY INPUT', by the rows' own cells (each row's printed sentence says how): SinkApart: laid · SinkNone: laid · KeydecPieces: laid · KeydecResets: laid · KeydecTexts: laid · KeydecCounts: laid · KeydecBack: laid · KeydecFeeds: laid · KeydecNone: laid.
  DERIVED. THE GIVEN ROWS OF THIS SEAT. 9 by the template 'for every input the law returns true; each argument reads behind the call as it read before'; 0 by the template 'total and deterministic' (their statements: YtcakeolnokninaaDoorTotals.lean).
  GIVEN WITH THE SEED: the statements are not yours to turn. If you find one false, say at which input.
  Laid BY PROGRAM, IN A SANDBOX (cutbox-rows.mjs): the forced cells as the released guide's own fill.sh prints them over the translation 369dc5858e96eedf… (all of the seat's roots in one cut). By AI agents, Wed Nov 11 2026. No macro, syntax, notation, axiom, sorry.
-/
import Derived.Test.YtcakeolnokninaaDoorChecked
import GoSem.PinnedTables
import GoSem.Claim
import GoSem.ClaimJoined
import GoSem.ClaimMapViews
import Derived.JoinedTies
import Derived.KernelRfl
namespace Go.Proofs.YtcakeolnokninaaDoor
/- THE CELL 'sum', in the pinned program and in every row, IS THE sha256 OF THE DUMP (.gsa) THAT YtcakeolnokninaaDoorProg.lean LOADS. Nothing in Lean hashes anything: it is a label: what it is worth is what the hold of that sum in a sandbox is worth. -/
noncomputable def Tryd.pinned : Pinned := { name := "ytcakeolnokninaadoor", sum := "369dc5858e96eedf2757a4119a0e20b2fadcfa4b0c424659d8d243faa7ad943d", checked := Tryd.checked }
namespace Rows
def none {H : Type} : Left H := { results := [], args := [] }

/- WHAT THE LISTED PACKAGE-LEVEL VARIABLES READ AS WHEN THE CALL BEGINS. Each datum BY PROGRAM (the guide's laid-datum.mjs) off the statement by which the dump's own 'gosem.cut.vars' lays the variable. In a bare row this is a premise. The card (YtcakeolnokninaaDoorCards.lean) ties it to the program's text. -/
def laid_unicode_utf8_acceptRanges {H : Type} : DataW H := .agg [.agg [.lit (.int .u8 128), .lit (.int .u8 191)], .agg [.lit (.int .u8 160), .lit (.int .u8 191)], .agg [.lit (.int .u8 128), .lit (.int .u8 159)], .agg [.lit (.int .u8 144), .lit (.int .u8 191)], .agg [.lit (.int .u8 128), .lit (.int .u8 143)], .agg [.lit (.int .u8 0), .lit (.int .u8 0)], .agg [.lit (.int .u8 0), .lit (.int .u8 0)], .agg [.lit (.int .u8 0), .lit (.int .u8 0)], .agg [.lit (.int .u8 0), .lit (.int .u8 0)], .agg [.lit (.int .u8 0), .lit (.int .u8 0)], .agg [.lit (.int .u8 0), .lit (.int .u8 0)], .agg [.lit (.int .u8 0), .lit (.int .u8 0)], .agg [.lit (.int .u8 0), .lit (.int .u8 0)], .agg [.lit (.int .u8 0), .lit (.int .u8 0)], .agg [.lit (.int .u8 0), .lit (.int .u8 0)], .agg [.lit (.int .u8 0), .lit (.int .u8 0)]]
/-- One of Go's own tables, pinned by name: the form's constant. -/
def laid_unicode_utf8_first : DataW Unit := Go.Pinned.utf8First

/-- 'whispererlaw15.SinkApart': WHATEVER THE INPUT: true; the input reads as it did. -/
def sinkApartSpec : ChangeSpec := { name := "sinkApart", fn := fun _ => fun
  | [d1, d2] => { results := [.lit (.bool true)], args := [d1, d2] }
  | _ => none }
def sinkApartRow : OpenClaim := { program := "ytcakeolnokninaadoor", sum := "369dc5858e96eedf2757a4119a0e20b2fadcfa4b0c424659d8d243faa7ad943d", func := "whisperer/whispererlaw15.SinkApart", spec := "sinkApart", named := ["unicode/utf8.first", "unicode/utf8.acceptRanges"], apart := false, laid := [("unicode/utf8.acceptRanges", laid_unicode_utf8_acceptRanges), ("unicode/utf8.first", laid_unicode_utf8_first)] }
def SinkApartSaid : Prop := sinkApartRow.holds Tryd.pinned (OpenSpec.ofChange sinkApartSpec)

/-- ITS FALSE NEIGHBOUR: 'it returns false'. Refute it at one input. -/
def sinkApartWrong : ChangeSpec := { name := "sinkApart", fn := fun _ => fun
  | [d1, d2] => { results := [.lit (.bool false)], args := [d1, d2] }
  | _ => none }
def SinkApartWrongFalsely : Prop := sinkApartRow.holds Tryd.pinned (OpenSpec.ofChange sinkApartWrong)

/-- 'whispererlaw15.SinkNone': WHATEVER THE INPUT: true; the input reads as it did. -/
def sinkNoneSpec : ChangeSpec := { name := "sinkNone", fn := fun _ => fun
  | [d] => { results := [.lit (.bool true)], args := [d] }
  | _ => none }
def sinkNoneRow : OpenClaim := { program := "ytcakeolnokninaadoor", sum := "369dc5858e96eedf2757a4119a0e20b2fadcfa4b0c424659d8d243faa7ad943d", func := "whisperer/whispererlaw15.SinkNone", spec := "sinkNone", named := ["unicode/utf8.first", "unicode/utf8.acceptRanges"], apart := false, laid := [("unicode/utf8.acceptRanges", laid_unicode_utf8_acceptRanges), ("unicode/utf8.first", laid_unicode_utf8_first)] }
def SinkNoneSaid : Prop := sinkNoneRow.holds Tryd.pinned (OpenSpec.ofChange sinkNoneSpec)

/-- ITS FALSE NEIGHBOUR: 'it returns false'. Refute it at one input. -/
def sinkNoneWrong : ChangeSpec := { name := "sinkNone", fn := fun _ => fun
  | [d] => { results := [.lit (.bool false)], args := [d] }
  | _ => none }
def SinkNoneWrongFalsely : Prop := sinkNoneRow.holds Tryd.pinned (OpenSpec.ofChange sinkNoneWrong)

/-- 'whispererlaw10.KeydecPieces': WHATEVER THE INPUT: true; the input reads as it did. -/
def keydecPiecesSpec : ChangeSpec := { name := "keydecPieces", fn := fun _ => fun
  | [d1, d2] => { results := [.lit (.bool true)], args := [d1, d2] }
  | _ => none }
def keydecPiecesRow : OpenClaim := { program := "ytcakeolnokninaadoor", sum := "369dc5858e96eedf2757a4119a0e20b2fadcfa4b0c424659d8d243faa7ad943d", func := "whisperer/whispererlaw10.KeydecPieces", spec := "keydecPieces", named := ["unicode/utf8.first", "unicode/utf8.acceptRanges"], apart := false, laid := [("unicode/utf8.acceptRanges", laid_unicode_utf8_acceptRanges), ("unicode/utf8.first", laid_unicode_utf8_first)] }
def KeydecPiecesSaid : Prop := keydecPiecesRow.holds Tryd.pinned (OpenSpec.ofChange keydecPiecesSpec)

/-- ITS FALSE NEIGHBOUR: 'it returns false'. Refute it at one input. -/
def keydecPiecesWrong : ChangeSpec := { name := "keydecPieces", fn := fun _ => fun
  | [d1, d2] => { results := [.lit (.bool false)], args := [d1, d2] }
  | _ => none }
def KeydecPiecesWrongFalsely : Prop := keydecPiecesRow.holds Tryd.pinned (OpenSpec.ofChange keydecPiecesWrong)

/-- 'whispererlaw10.KeydecResets': WHATEVER THE INPUT: true; the input reads as it did. -/
def keydecResetsSpec : ChangeSpec := { name := "keydecResets", fn := fun _ => fun
  | [d1, d2] => { results := [.lit (.bool true)], args := [d1, d2] }
  | _ => none }
def keydecResetsRow : OpenClaim := { program := "ytcakeolnokninaadoor", sum := "369dc5858e96eedf2757a4119a0e20b2fadcfa4b0c424659d8d243faa7ad943d", func := "whisperer/whispererlaw10.KeydecResets", spec := "keydecResets", named := ["unicode/utf8.first", "unicode/utf8.acceptRanges"], apart := false, laid := [("unicode/utf8.acceptRanges", laid_unicode_utf8_acceptRanges), ("unicode/utf8.first", laid_unicode_utf8_first)] }
def KeydecResetsSaid : Prop := keydecResetsRow.holds Tryd.pinned (OpenSpec.ofChange keydecResetsSpec)

/-- ITS FALSE NEIGHBOUR: 'it returns false'. Refute it at one input. -/
def keydecResetsWrong : ChangeSpec := { name := "keydecResets", fn := fun _ => fun
  | [d1, d2] => { results := [.lit (.bool false)], args := [d1, d2] }
  | _ => none }
def KeydecResetsWrongFalsely : Prop := keydecResetsRow.holds Tryd.pinned (OpenSpec.ofChange keydecResetsWrong)

/-- 'whispererlaw10.KeydecTexts': WHATEVER THE INPUT: true; the input reads as it did. -/
def keydecTextsSpec : ChangeSpec := { name := "keydecTexts", fn := fun _ => fun
  | [d1, d2] => { results := [.lit (.bool true)], args := [d1, d2] }
  | _ => none }
def keydecTextsRow : OpenClaim := { program := "ytcakeolnokninaadoor", sum := "369dc5858e96eedf2757a4119a0e20b2fadcfa4b0c424659d8d243faa7ad943d", func := "whisperer/whispererlaw10.KeydecTexts", spec := "keydecTexts", named := ["unicode/utf8.first", "unicode/utf8.acceptRanges"], apart := false, laid := [("unicode/utf8.acceptRanges", laid_unicode_utf8_acceptRanges), ("unicode/utf8.first", laid_unicode_utf8_first)] }
def KeydecTextsSaid : Prop := keydecTextsRow.holds Tryd.pinned (OpenSpec.ofChange keydecTextsSpec)

/-- ITS FALSE NEIGHBOUR: 'it returns false'. Refute it at one input. -/
def keydecTextsWrong : ChangeSpec := { name := "keydecTexts", fn := fun _ => fun
  | [d1, d2] => { results := [.lit (.bool false)], args := [d1, d2] }
  | _ => none }
def KeydecTextsWrongFalsely : Prop := keydecTextsRow.holds Tryd.pinned (OpenSpec.ofChange keydecTextsWrong)

/-- 'whispererlaw10.KeydecCounts': WHATEVER THE INPUT: true; the input reads as it did. -/
def keydecCountsSpec : ChangeSpec := { name := "keydecCounts", fn := fun _ => fun
  | [d] => { results := [.lit (.bool true)], args := [d] }
  | _ => none }
def keydecCountsRow : OpenClaim := { program := "ytcakeolnokninaadoor", sum := "369dc5858e96eedf2757a4119a0e20b2fadcfa4b0c424659d8d243faa7ad943d", func := "whisperer/whispererlaw10.KeydecCounts", spec := "keydecCounts", named := ["unicode/utf8.first", "unicode/utf8.acceptRanges"], apart := false, laid := [("unicode/utf8.acceptRanges", laid_unicode_utf8_acceptRanges), ("unicode/utf8.first", laid_unicode_utf8_first)] }
def KeydecCountsSaid : Prop := keydecCountsRow.holds Tryd.pinned (OpenSpec.ofChange keydecCountsSpec)

/-- ITS FALSE NEIGHBOUR: 'it returns false'. Refute it at one input. -/
def keydecCountsWrong : ChangeSpec := { name := "keydecCounts", fn := fun _ => fun
  | [d] => { results := [.lit (.bool false)], args := [d] }
  | _ => none }
def KeydecCountsWrongFalsely : Prop := keydecCountsRow.holds Tryd.pinned (OpenSpec.ofChange keydecCountsWrong)

/-- 'whispererlaw10.KeydecBack': WHATEVER THE INPUT: true; the input reads as it did. -/
def keydecBackSpec : ChangeSpec := { name := "keydecBack", fn := fun _ => fun
  | [d] => { results := [.lit (.bool true)], args := [d] }
  | _ => none }
def keydecBackRow : OpenClaim := { program := "ytcakeolnokninaadoor", sum := "369dc5858e96eedf2757a4119a0e20b2fadcfa4b0c424659d8d243faa7ad943d", func := "whisperer/whispererlaw10.KeydecBack", spec := "keydecBack", named := ["unicode/utf8.first", "unicode/utf8.acceptRanges"], apart := false, laid := [("unicode/utf8.acceptRanges", laid_unicode_utf8_acceptRanges), ("unicode/utf8.first", laid_unicode_utf8_first)] }
def KeydecBackSaid : Prop := keydecBackRow.holds Tryd.pinned (OpenSpec.ofChange keydecBackSpec)

/-- ITS FALSE NEIGHBOUR: 'it returns false'. Refute it at one input. -/
def keydecBackWrong : ChangeSpec := { name := "keydecBack", fn := fun _ => fun
  | [d] => { results := [.lit (.bool false)], args := [d] }
  | _ => none }
def KeydecBackWrongFalsely : Prop := keydecBackRow.holds Tryd.pinned (OpenSpec.ofChange keydecBackWrong)

/-- 'whispererlaw10.KeydecFeeds': WHATEVER THE INPUT: true; the input reads as it did. -/
def keydecFeedsSpec : ChangeSpec := { name := "keydecFeeds", fn := fun _ => fun
  | [d] => { results := [.lit (.bool true)], args := [d] }
  | _ => none }
def keydecFeedsRow : OpenClaim := { program := "ytcakeolnokninaadoor", sum := "369dc5858e96eedf2757a4119a0e20b2fadcfa4b0c424659d8d243faa7ad943d", func := "whisperer/whispererlaw10.KeydecFeeds", spec := "keydecFeeds", named := ["unicode/utf8.first", "unicode/utf8.acceptRanges"], apart := false, laid := [("unicode/utf8.acceptRanges", laid_unicode_utf8_acceptRanges), ("unicode/utf8.first", laid_unicode_utf8_first)] }
def KeydecFeedsSaid : Prop := keydecFeedsRow.holds Tryd.pinned (OpenSpec.ofChange keydecFeedsSpec)

/-- ITS FALSE NEIGHBOUR: 'it returns false'. Refute it at one input. -/
def keydecFeedsWrong : ChangeSpec := { name := "keydecFeeds", fn := fun _ => fun
  | [d] => { results := [.lit (.bool false)], args := [d] }
  | _ => none }
def KeydecFeedsWrongFalsely : Prop := keydecFeedsRow.holds Tryd.pinned (OpenSpec.ofChange keydecFeedsWrong)

/-- 'whispererlaw10.KeydecNone': WHATEVER THE INPUT: true; the input reads as it did. -/
def keydecNoneSpec : ChangeSpec := { name := "keydecNone", fn := fun _ => fun
  | [d1, d2] => { results := [.lit (.bool true)], args := [d1, d2] }
  | _ => none }
def keydecNoneRow : OpenClaim := { program := "ytcakeolnokninaadoor", sum := "369dc5858e96eedf2757a4119a0e20b2fadcfa4b0c424659d8d243faa7ad943d", func := "whisperer/whispererlaw10.KeydecNone", spec := "keydecNone", named := ["unicode/utf8.first", "unicode/utf8.acceptRanges"], apart := false, laid := [("unicode/utf8.acceptRanges", laid_unicode_utf8_acceptRanges), ("unicode/utf8.first", laid_unicode_utf8_first)] }
def KeydecNoneSaid : Prop := keydecNoneRow.holds Tryd.pinned (OpenSpec.ofChange keydecNoneSpec)

/-- ITS FALSE NEIGHBOUR: 'it returns false'. Refute it at one input. -/
def keydecNoneWrong : ChangeSpec := { name := "keydecNone", fn := fun _ => fun
  | [d1, d2] => { results := [.lit (.bool false)], args := [d1, d2] }
  | _ => none }
def KeydecNoneWrongFalsely : Prop := keydecNoneRow.holds Tryd.pinned (OpenSpec.ofChange keydecNoneWrong)

/- THE SECOND FORM. 'bulk': how many values and letters a reading holds, each counted each time it is reached (what is shared counts as often as it is met; a slice's spare places count too). A statement '..UptoSaid' is the law's where the arguments, and the package variables that the reading takes, are together of bulk at most 1048576: NARROWER than '..Said'. Prove '..Said' where nothing that the law and all that it calls make is longer than what came in: it says more and counts as full. Else prove '..UptoSaid'. A law counts once. -/
mutual
def uptoBulk {H : Type} : DataW H → Nat
  | .lit (.string bytes) => bytes.length + 1
  | .lit _ => 1
  | .nil => 1
  | .ptr d => uptoBulk d + 1
  | .slice elems spare => uptoBulkAll elems + uptoBulkAll spare + 1
  | .agg parts => uptoBulkAll parts + 1
  | .iface _ d => uptoBulk d + 1
  | .map entries => uptoBulkEntries entries + 1
  | .held _ => 1
def uptoBulkAll {H : Type} : List (DataW H) → Nat
  | [] => 0
  | d :: r => uptoBulk d + uptoBulkAll r
def uptoBulkEntries {H : Type} : List (Lit × DataW H) → Nat
  | [] => 0
  | x :: r => uptoBulkEntry x + uptoBulkEntries r
def uptoBulkEntry {H : Type} : Lit × DataW H → Nat
  | (.string bytes, d) => bytes.length + uptoBulk d + 1
  | (_, d) => uptoBulk d + 1
 end
def uptoSmall : (H : Type) → List (DataW H) → Bool := fun _ ds => decide (uptoBulkAll ds ≤ 1048576)
def OpenSpec.upto (s : _root_.Go.ChangeSpec) : _root_.Go.OpenSpec := { _root_.Go.OpenSpec.ofChange s with cond := some uptoSmall }

/-- 'whispererlaw15.SinkApart', WHERE WHAT IT READS IS OF BULK AT MOST 1048576: true; the input reads as it did. -/
def sinkApartUptoRow : OpenClaim := { program := "ytcakeolnokninaadoor", sum := "369dc5858e96eedf2757a4119a0e20b2fadcfa4b0c424659d8d243faa7ad943d", func := "whisperer/whispererlaw15.SinkApart", spec := "sinkApart", named := ["unicode/utf8.first", "unicode/utf8.acceptRanges"], apart := false, laid := [("unicode/utf8.acceptRanges", laid_unicode_utf8_acceptRanges), ("unicode/utf8.first", laid_unicode_utf8_first)], narrowed := true }
def SinkApartUptoSaid : Prop := sinkApartUptoRow.holds Tryd.pinned (OpenSpec.upto sinkApartSpec)

/-- 'whispererlaw15.SinkNone', WHERE WHAT IT READS IS OF BULK AT MOST 1048576: true; the input reads as it did. -/
def sinkNoneUptoRow : OpenClaim := { program := "ytcakeolnokninaadoor", sum := "369dc5858e96eedf2757a4119a0e20b2fadcfa4b0c424659d8d243faa7ad943d", func := "whisperer/whispererlaw15.SinkNone", spec := "sinkNone", named := ["unicode/utf8.first", "unicode/utf8.acceptRanges"], apart := false, laid := [("unicode/utf8.acceptRanges", laid_unicode_utf8_acceptRanges), ("unicode/utf8.first", laid_unicode_utf8_first)], narrowed := true }
def SinkNoneUptoSaid : Prop := sinkNoneUptoRow.holds Tryd.pinned (OpenSpec.upto sinkNoneSpec)

/-- 'whispererlaw10.KeydecPieces', WHERE WHAT IT READS IS OF BULK AT MOST 1048576: true; the input reads as it did. -/
def keydecPiecesUptoRow : OpenClaim := { program := "ytcakeolnokninaadoor", sum := "369dc5858e96eedf2757a4119a0e20b2fadcfa4b0c424659d8d243faa7ad943d", func := "whisperer/whispererlaw10.KeydecPieces", spec := "keydecPieces", named := ["unicode/utf8.first", "unicode/utf8.acceptRanges"], apart := false, laid := [("unicode/utf8.acceptRanges", laid_unicode_utf8_acceptRanges), ("unicode/utf8.first", laid_unicode_utf8_first)], narrowed := true }
def KeydecPiecesUptoSaid : Prop := keydecPiecesUptoRow.holds Tryd.pinned (OpenSpec.upto keydecPiecesSpec)

/-- 'whispererlaw10.KeydecResets', WHERE WHAT IT READS IS OF BULK AT MOST 1048576: true; the input reads as it did. -/
def keydecResetsUptoRow : OpenClaim := { program := "ytcakeolnokninaadoor", sum := "369dc5858e96eedf2757a4119a0e20b2fadcfa4b0c424659d8d243faa7ad943d", func := "whisperer/whispererlaw10.KeydecResets", spec := "keydecResets", named := ["unicode/utf8.first", "unicode/utf8.acceptRanges"], apart := false, laid := [("unicode/utf8.acceptRanges", laid_unicode_utf8_acceptRanges), ("unicode/utf8.first", laid_unicode_utf8_first)], narrowed := true }
def KeydecResetsUptoSaid : Prop := keydecResetsUptoRow.holds Tryd.pinned (OpenSpec.upto keydecResetsSpec)

/-- 'whispererlaw10.KeydecTexts', WHERE WHAT IT READS IS OF BULK AT MOST 1048576: true; the input reads as it did. -/
def keydecTextsUptoRow : OpenClaim := { program := "ytcakeolnokninaadoor", sum := "369dc5858e96eedf2757a4119a0e20b2fadcfa4b0c424659d8d243faa7ad943d", func := "whisperer/whispererlaw10.KeydecTexts", spec := "keydecTexts", named := ["unicode/utf8.first", "unicode/utf8.acceptRanges"], apart := false, laid := [("unicode/utf8.acceptRanges", laid_unicode_utf8_acceptRanges), ("unicode/utf8.first", laid_unicode_utf8_first)], narrowed := true }
def KeydecTextsUptoSaid : Prop := keydecTextsUptoRow.holds Tryd.pinned (OpenSpec.upto keydecTextsSpec)

/-- 'whispererlaw10.KeydecCounts', WHERE WHAT IT READS IS OF BULK AT MOST 1048576: true; the input reads as it did. -/
def keydecCountsUptoRow : OpenClaim := { program := "ytcakeolnokninaadoor", sum := "369dc5858e96eedf2757a4119a0e20b2fadcfa4b0c424659d8d243faa7ad943d", func := "whisperer/whispererlaw10.KeydecCounts", spec := "keydecCounts", named := ["unicode/utf8.first", "unicode/utf8.acceptRanges"], apart := false, laid := [("unicode/utf8.acceptRanges", laid_unicode_utf8_acceptRanges), ("unicode/utf8.first", laid_unicode_utf8_first)], narrowed := true }
def KeydecCountsUptoSaid : Prop := keydecCountsUptoRow.holds Tryd.pinned (OpenSpec.upto keydecCountsSpec)

/-- 'whispererlaw10.KeydecBack', WHERE WHAT IT READS IS OF BULK AT MOST 1048576: true; the input reads as it did. -/
def keydecBackUptoRow : OpenClaim := { program := "ytcakeolnokninaadoor", sum := "369dc5858e96eedf2757a4119a0e20b2fadcfa4b0c424659d8d243faa7ad943d", func := "whisperer/whispererlaw10.KeydecBack", spec := "keydecBack", named := ["unicode/utf8.first", "unicode/utf8.acceptRanges"], apart := false, laid := [("unicode/utf8.acceptRanges", laid_unicode_utf8_acceptRanges), ("unicode/utf8.first", laid_unicode_utf8_first)], narrowed := true }
def KeydecBackUptoSaid : Prop := keydecBackUptoRow.holds Tryd.pinned (OpenSpec.upto keydecBackSpec)

/-- 'whispererlaw10.KeydecFeeds', WHERE WHAT IT READS IS OF BULK AT MOST 1048576: true; the input reads as it did. -/
def keydecFeedsUptoRow : OpenClaim := { program := "ytcakeolnokninaadoor", sum := "369dc5858e96eedf2757a4119a0e20b2fadcfa4b0c424659d8d243faa7ad943d", func := "whisperer/whispererlaw10.KeydecFeeds", spec := "keydecFeeds", named := ["unicode/utf8.first", "unicode/utf8.acceptRanges"], apart := false, laid := [("unicode/utf8.acceptRanges", laid_unicode_utf8_acceptRanges), ("unicode/utf8.first", laid_unicode_utf8_first)], narrowed := true }
def KeydecFeedsUptoSaid : Prop := keydecFeedsUptoRow.holds Tryd.pinned (OpenSpec.upto keydecFeedsSpec)

/-- 'whispererlaw10.KeydecNone', WHERE WHAT IT READS IS OF BULK AT MOST 1048576: true; the input reads as it did. -/
def keydecNoneUptoRow : OpenClaim := { program := "ytcakeolnokninaadoor", sum := "369dc5858e96eedf2757a4119a0e20b2fadcfa4b0c424659d8d243faa7ad943d", func := "whisperer/whispererlaw10.KeydecNone", spec := "keydecNone", named := ["unicode/utf8.first", "unicode/utf8.acceptRanges"], apart := false, laid := [("unicode/utf8.acceptRanges", laid_unicode_utf8_acceptRanges), ("unicode/utf8.first", laid_unicode_utf8_first)], narrowed := true }
def KeydecNoneUptoSaid : Prop := keydecNoneUptoRow.holds Tryd.pinned (OpenSpec.upto keydecNoneSpec)

end Rows
end Go.Proofs.YtcakeolnokninaaDoor
