/-
  NARROWER THAN 'FOR EVERY INPUT', by the rows' own cells (each row's printed sentence says how): PasteNone: laid · PasteDrops: laid · EditbufKills: laid · EditbufMoves: laid · EditbufActs: laid · EditbufNone: laid · EditbufFull: laid · EditbufVacates: laid · PasteWhole: laid · PasteTyped: laid · PasteActs: laid.
  DERIVED. THE GIVEN ROWS OF THIS SEAT. 11 by the template 'for every input the law returns true; each argument reads behind the call as it read before'; 0 by the template 'total and deterministic' (their statements: YtbkpnffgihjikaaDoorTotals.lean).
  GIVEN WITH THE SEED: the statements are not yours to turn. If you find one false, say at which input.
  Laid BY PROGRAM, IN A SANDBOX (cutbox-rows.mjs): the forced cells as the released guide's own fill.sh prints them over the translation 5c5d8b9bc02b8cbc… (all of the seat's roots in one cut). By AI agents, Wed Nov 11 2026. No macro, syntax, notation, axiom, sorry.
-/
import Derived.Test.YtbkpnffgihjikaaDoorChecked
import GoSem.PinnedTables
import GoSem.Claim
import GoSem.ClaimJoined
import GoSem.ClaimMapViews
import Derived.JoinedTies
import Derived.KernelRfl
namespace Go.Proofs.YtbkpnffgihjikaaDoor
/- THE CELL 'sum', in the pinned program and in every row, IS THE sha256 OF THE DUMP (.gsa) THAT YtbkpnffgihjikaaDoorProg.lean LOADS. Nothing in Lean hashes anything: it is a label: what it is worth is what the hold of that sum in a sandbox is worth. -/
noncomputable def Tryd.pinned : Pinned := { name := "ytbkpnffgihjikaadoor", sum := "5c5d8b9bc02b8cbc2ec171dea121b6d59058896b10f4c48358c4d5951ec41c00", checked := Tryd.checked }
namespace Rows
def none {H : Type} : Left H := { results := [], args := [] }

/- WHAT THE LISTED PACKAGE-LEVEL VARIABLES READ AS WHEN THE CALL BEGINS. Each datum BY PROGRAM (the guide's laid-datum.mjs) off the statement by which the dump's own 'gosem.cut.vars' lays the variable. In a bare row this is a premise. The card (YtbkpnffgihjikaaDoorCards.lean) ties it to the program's text. -/
def laid_unicode_utf8_acceptRanges {H : Type} : DataW H := .agg [.agg [.lit (.int .u8 128), .lit (.int .u8 191)], .agg [.lit (.int .u8 160), .lit (.int .u8 191)], .agg [.lit (.int .u8 128), .lit (.int .u8 159)], .agg [.lit (.int .u8 144), .lit (.int .u8 191)], .agg [.lit (.int .u8 128), .lit (.int .u8 143)], .agg [.lit (.int .u8 0), .lit (.int .u8 0)], .agg [.lit (.int .u8 0), .lit (.int .u8 0)], .agg [.lit (.int .u8 0), .lit (.int .u8 0)], .agg [.lit (.int .u8 0), .lit (.int .u8 0)], .agg [.lit (.int .u8 0), .lit (.int .u8 0)], .agg [.lit (.int .u8 0), .lit (.int .u8 0)], .agg [.lit (.int .u8 0), .lit (.int .u8 0)], .agg [.lit (.int .u8 0), .lit (.int .u8 0)], .agg [.lit (.int .u8 0), .lit (.int .u8 0)], .agg [.lit (.int .u8 0), .lit (.int .u8 0)], .agg [.lit (.int .u8 0), .lit (.int .u8 0)]]
/-- One of Go's own tables, pinned by name: the form's constant. -/
def laid_unicode_utf8_first : DataW Unit := Go.Pinned.utf8First

/-- 'whispererlaw12.PasteNone': WHATEVER THE INPUT: true; the input reads as it did. -/
def pasteNoneSpec : ChangeSpec := { name := "pasteNone", fn := fun _ => fun
  | [d1, d2] => { results := [.lit (.bool true)], args := [d1, d2] }
  | _ => none }
def pasteNoneRow : OpenClaim := { program := "ytbkpnffgihjikaadoor", sum := "5c5d8b9bc02b8cbc2ec171dea121b6d59058896b10f4c48358c4d5951ec41c00", func := "whisperer/whispererlaw12.PasteNone", spec := "pasteNone", named := ["unicode/utf8.first", "unicode/utf8.acceptRanges"], apart := false, laid := [("unicode/utf8.acceptRanges", laid_unicode_utf8_acceptRanges), ("unicode/utf8.first", laid_unicode_utf8_first)] }
def PasteNoneSaid : Prop := pasteNoneRow.holds Tryd.pinned (OpenSpec.ofChange pasteNoneSpec)

/-- ITS FALSE NEIGHBOUR: 'it returns false'. Refute it at one input. -/
def pasteNoneWrong : ChangeSpec := { name := "pasteNone", fn := fun _ => fun
  | [d1, d2] => { results := [.lit (.bool false)], args := [d1, d2] }
  | _ => none }
def PasteNoneWrongFalsely : Prop := pasteNoneRow.holds Tryd.pinned (OpenSpec.ofChange pasteNoneWrong)

/-- 'whispererlaw12.PasteDrops': WHATEVER THE INPUT: true; the input reads as it did. -/
def pasteDropsSpec : ChangeSpec := { name := "pasteDrops", fn := fun _ => fun
  | [d1, d2] => { results := [.lit (.bool true)], args := [d1, d2] }
  | _ => none }
def pasteDropsRow : OpenClaim := { program := "ytbkpnffgihjikaadoor", sum := "5c5d8b9bc02b8cbc2ec171dea121b6d59058896b10f4c48358c4d5951ec41c00", func := "whisperer/whispererlaw12.PasteDrops", spec := "pasteDrops", named := ["unicode/utf8.first", "unicode/utf8.acceptRanges"], apart := false, laid := [("unicode/utf8.acceptRanges", laid_unicode_utf8_acceptRanges), ("unicode/utf8.first", laid_unicode_utf8_first)] }
def PasteDropsSaid : Prop := pasteDropsRow.holds Tryd.pinned (OpenSpec.ofChange pasteDropsSpec)

/-- ITS FALSE NEIGHBOUR: 'it returns false'. Refute it at one input. -/
def pasteDropsWrong : ChangeSpec := { name := "pasteDrops", fn := fun _ => fun
  | [d1, d2] => { results := [.lit (.bool false)], args := [d1, d2] }
  | _ => none }
def PasteDropsWrongFalsely : Prop := pasteDropsRow.holds Tryd.pinned (OpenSpec.ofChange pasteDropsWrong)

/-- 'whispererlaw11.EditbufKills': WHATEVER THE INPUT: true; the input reads as it did. -/
def editbufKillsSpec : ChangeSpec := { name := "editbufKills", fn := fun _ => fun
  | [d1, d2] => { results := [.lit (.bool true)], args := [d1, d2] }
  | _ => none }
def editbufKillsRow : OpenClaim := { program := "ytbkpnffgihjikaadoor", sum := "5c5d8b9bc02b8cbc2ec171dea121b6d59058896b10f4c48358c4d5951ec41c00", func := "whisperer/whispererlaw11.EditbufKills", spec := "editbufKills", unfollowed := true, recurses := true, named := ["unicode/utf8.first", "unicode/utf8.acceptRanges"], apart := false, laid := [("unicode/utf8.acceptRanges", laid_unicode_utf8_acceptRanges), ("unicode/utf8.first", laid_unicode_utf8_first)] }
def EditbufKillsSaid : Prop := editbufKillsRow.holds Tryd.pinned (OpenSpec.ofChange editbufKillsSpec)

/-- ITS FALSE NEIGHBOUR: 'it returns false'. Refute it at one input. -/
def editbufKillsWrong : ChangeSpec := { name := "editbufKills", fn := fun _ => fun
  | [d1, d2] => { results := [.lit (.bool false)], args := [d1, d2] }
  | _ => none }
def EditbufKillsWrongFalsely : Prop := editbufKillsRow.holds Tryd.pinned (OpenSpec.ofChange editbufKillsWrong)

/-- 'whispererlaw11.EditbufMoves': WHATEVER THE INPUT: true; the input reads as it did. -/
def editbufMovesSpec : ChangeSpec := { name := "editbufMoves", fn := fun _ => fun
  | [d1, d2] => { results := [.lit (.bool true)], args := [d1, d2] }
  | _ => none }
def editbufMovesRow : OpenClaim := { program := "ytbkpnffgihjikaadoor", sum := "5c5d8b9bc02b8cbc2ec171dea121b6d59058896b10f4c48358c4d5951ec41c00", func := "whisperer/whispererlaw11.EditbufMoves", spec := "editbufMoves", unfollowed := true, recurses := true, named := ["unicode/utf8.first", "unicode/utf8.acceptRanges"], apart := false, laid := [("unicode/utf8.acceptRanges", laid_unicode_utf8_acceptRanges), ("unicode/utf8.first", laid_unicode_utf8_first)] }
def EditbufMovesSaid : Prop := editbufMovesRow.holds Tryd.pinned (OpenSpec.ofChange editbufMovesSpec)

/-- ITS FALSE NEIGHBOUR: 'it returns false'. Refute it at one input. -/
def editbufMovesWrong : ChangeSpec := { name := "editbufMoves", fn := fun _ => fun
  | [d1, d2] => { results := [.lit (.bool false)], args := [d1, d2] }
  | _ => none }
def EditbufMovesWrongFalsely : Prop := editbufMovesRow.holds Tryd.pinned (OpenSpec.ofChange editbufMovesWrong)

/-- 'whispererlaw11.EditbufActs': WHATEVER THE INPUT: true; the input reads as it did. -/
def editbufActsSpec : ChangeSpec := { name := "editbufActs", fn := fun _ => fun
  | [d1, d2] => { results := [.lit (.bool true)], args := [d1, d2] }
  | _ => none }
def editbufActsRow : OpenClaim := { program := "ytbkpnffgihjikaadoor", sum := "5c5d8b9bc02b8cbc2ec171dea121b6d59058896b10f4c48358c4d5951ec41c00", func := "whisperer/whispererlaw11.EditbufActs", spec := "editbufActs", unfollowed := true, recurses := true, named := ["unicode/utf8.first", "unicode/utf8.acceptRanges"], apart := false, laid := [("unicode/utf8.acceptRanges", laid_unicode_utf8_acceptRanges), ("unicode/utf8.first", laid_unicode_utf8_first)] }
def EditbufActsSaid : Prop := editbufActsRow.holds Tryd.pinned (OpenSpec.ofChange editbufActsSpec)

/-- ITS FALSE NEIGHBOUR: 'it returns false'. Refute it at one input. -/
def editbufActsWrong : ChangeSpec := { name := "editbufActs", fn := fun _ => fun
  | [d1, d2] => { results := [.lit (.bool false)], args := [d1, d2] }
  | _ => none }
def EditbufActsWrongFalsely : Prop := editbufActsRow.holds Tryd.pinned (OpenSpec.ofChange editbufActsWrong)

/-- 'whispererlaw11.EditbufNone': WHATEVER THE INPUT: true; the input reads as it did. -/
def editbufNoneSpec : ChangeSpec := { name := "editbufNone", fn := fun _ => fun
  | [d1, d2] => { results := [.lit (.bool true)], args := [d1, d2] }
  | _ => none }
def editbufNoneRow : OpenClaim := { program := "ytbkpnffgihjikaadoor", sum := "5c5d8b9bc02b8cbc2ec171dea121b6d59058896b10f4c48358c4d5951ec41c00", func := "whisperer/whispererlaw11.EditbufNone", spec := "editbufNone", unfollowed := true, recurses := true, named := ["unicode/utf8.first", "unicode/utf8.acceptRanges"], apart := false, laid := [("unicode/utf8.acceptRanges", laid_unicode_utf8_acceptRanges), ("unicode/utf8.first", laid_unicode_utf8_first)] }
def EditbufNoneSaid : Prop := editbufNoneRow.holds Tryd.pinned (OpenSpec.ofChange editbufNoneSpec)

/-- ITS FALSE NEIGHBOUR: 'it returns false'. Refute it at one input. -/
def editbufNoneWrong : ChangeSpec := { name := "editbufNone", fn := fun _ => fun
  | [d1, d2] => { results := [.lit (.bool false)], args := [d1, d2] }
  | _ => none }
def EditbufNoneWrongFalsely : Prop := editbufNoneRow.holds Tryd.pinned (OpenSpec.ofChange editbufNoneWrong)

/-- 'whispererlaw11.EditbufFull': WHATEVER THE INPUT: true; the input reads as it did. -/
def editbufFullSpec : ChangeSpec := { name := "editbufFull", fn := fun _ => fun
  | [d1, d2] => { results := [.lit (.bool true)], args := [d1, d2] }
  | _ => none }
def editbufFullRow : OpenClaim := { program := "ytbkpnffgihjikaadoor", sum := "5c5d8b9bc02b8cbc2ec171dea121b6d59058896b10f4c48358c4d5951ec41c00", func := "whisperer/whispererlaw11.EditbufFull", spec := "editbufFull", unfollowed := true, recurses := true, named := ["unicode/utf8.first", "unicode/utf8.acceptRanges"], apart := false, laid := [("unicode/utf8.acceptRanges", laid_unicode_utf8_acceptRanges), ("unicode/utf8.first", laid_unicode_utf8_first)] }
def EditbufFullSaid : Prop := editbufFullRow.holds Tryd.pinned (OpenSpec.ofChange editbufFullSpec)

/-- ITS FALSE NEIGHBOUR: 'it returns false'. Refute it at one input. -/
def editbufFullWrong : ChangeSpec := { name := "editbufFull", fn := fun _ => fun
  | [d1, d2] => { results := [.lit (.bool false)], args := [d1, d2] }
  | _ => none }
def EditbufFullWrongFalsely : Prop := editbufFullRow.holds Tryd.pinned (OpenSpec.ofChange editbufFullWrong)

/-- 'whispererlaw11.EditbufVacates': WHATEVER THE INPUT: true; the input reads as it did. -/
def editbufVacatesSpec : ChangeSpec := { name := "editbufVacates", fn := fun _ => fun
  | [d1, d2] => { results := [.lit (.bool true)], args := [d1, d2] }
  | _ => none }
def editbufVacatesRow : OpenClaim := { program := "ytbkpnffgihjikaadoor", sum := "5c5d8b9bc02b8cbc2ec171dea121b6d59058896b10f4c48358c4d5951ec41c00", func := "whisperer/whispererlaw11.EditbufVacates", spec := "editbufVacates", unfollowed := true, recurses := true, named := ["unicode/utf8.first", "unicode/utf8.acceptRanges"], apart := false, laid := [("unicode/utf8.acceptRanges", laid_unicode_utf8_acceptRanges), ("unicode/utf8.first", laid_unicode_utf8_first)] }
def EditbufVacatesSaid : Prop := editbufVacatesRow.holds Tryd.pinned (OpenSpec.ofChange editbufVacatesSpec)

/-- ITS FALSE NEIGHBOUR: 'it returns false'. Refute it at one input. -/
def editbufVacatesWrong : ChangeSpec := { name := "editbufVacates", fn := fun _ => fun
  | [d1, d2] => { results := [.lit (.bool false)], args := [d1, d2] }
  | _ => none }
def EditbufVacatesWrongFalsely : Prop := editbufVacatesRow.holds Tryd.pinned (OpenSpec.ofChange editbufVacatesWrong)

/-- 'whispererlaw12.PasteWhole': WHATEVER THE INPUT: true; the input reads as it did. -/
def pasteWholeSpec : ChangeSpec := { name := "pasteWhole", fn := fun _ => fun
  | [d1, d2, d3] => { results := [.lit (.bool true)], args := [d1, d2, d3] }
  | _ => none }
def pasteWholeRow : OpenClaim := { program := "ytbkpnffgihjikaadoor", sum := "5c5d8b9bc02b8cbc2ec171dea121b6d59058896b10f4c48358c4d5951ec41c00", func := "whisperer/whispererlaw12.PasteWhole", spec := "pasteWhole", unfollowed := true, recurses := true, named := ["unicode/utf8.first", "unicode/utf8.acceptRanges"], apart := false, laid := [("unicode/utf8.acceptRanges", laid_unicode_utf8_acceptRanges), ("unicode/utf8.first", laid_unicode_utf8_first)] }
def PasteWholeSaid : Prop := pasteWholeRow.holds Tryd.pinned (OpenSpec.ofChange pasteWholeSpec)

/-- ITS FALSE NEIGHBOUR: 'it returns false'. Refute it at one input. -/
def pasteWholeWrong : ChangeSpec := { name := "pasteWhole", fn := fun _ => fun
  | [d1, d2, d3] => { results := [.lit (.bool false)], args := [d1, d2, d3] }
  | _ => none }
def PasteWholeWrongFalsely : Prop := pasteWholeRow.holds Tryd.pinned (OpenSpec.ofChange pasteWholeWrong)

/-- 'whispererlaw12.PasteTyped': WHATEVER THE INPUT: true; the input reads as it did. -/
def pasteTypedSpec : ChangeSpec := { name := "pasteTyped", fn := fun _ => fun
  | [d1, d2, d3] => { results := [.lit (.bool true)], args := [d1, d2, d3] }
  | _ => none }
def pasteTypedRow : OpenClaim := { program := "ytbkpnffgihjikaadoor", sum := "5c5d8b9bc02b8cbc2ec171dea121b6d59058896b10f4c48358c4d5951ec41c00", func := "whisperer/whispererlaw12.PasteTyped", spec := "pasteTyped", unfollowed := true, recurses := true, named := ["unicode/utf8.first", "unicode/utf8.acceptRanges"], apart := false, laid := [("unicode/utf8.acceptRanges", laid_unicode_utf8_acceptRanges), ("unicode/utf8.first", laid_unicode_utf8_first)] }
def PasteTypedSaid : Prop := pasteTypedRow.holds Tryd.pinned (OpenSpec.ofChange pasteTypedSpec)

/-- ITS FALSE NEIGHBOUR: 'it returns false'. Refute it at one input. -/
def pasteTypedWrong : ChangeSpec := { name := "pasteTyped", fn := fun _ => fun
  | [d1, d2, d3] => { results := [.lit (.bool false)], args := [d1, d2, d3] }
  | _ => none }
def PasteTypedWrongFalsely : Prop := pasteTypedRow.holds Tryd.pinned (OpenSpec.ofChange pasteTypedWrong)

/-- 'whispererlaw12.PasteActs': WHATEVER THE INPUT: true; the input reads as it did. -/
def pasteActsSpec : ChangeSpec := { name := "pasteActs", fn := fun _ => fun
  | [d1, d2, d3] => { results := [.lit (.bool true)], args := [d1, d2, d3] }
  | _ => none }
def pasteActsRow : OpenClaim := { program := "ytbkpnffgihjikaadoor", sum := "5c5d8b9bc02b8cbc2ec171dea121b6d59058896b10f4c48358c4d5951ec41c00", func := "whisperer/whispererlaw12.PasteActs", spec := "pasteActs", unfollowed := true, recurses := true, named := ["unicode/utf8.first", "unicode/utf8.acceptRanges"], apart := false, laid := [("unicode/utf8.acceptRanges", laid_unicode_utf8_acceptRanges), ("unicode/utf8.first", laid_unicode_utf8_first)] }
def PasteActsSaid : Prop := pasteActsRow.holds Tryd.pinned (OpenSpec.ofChange pasteActsSpec)

/-- ITS FALSE NEIGHBOUR: 'it returns false'. Refute it at one input. -/
def pasteActsWrong : ChangeSpec := { name := "pasteActs", fn := fun _ => fun
  | [d1, d2, d3] => { results := [.lit (.bool false)], args := [d1, d2, d3] }
  | _ => none }
def PasteActsWrongFalsely : Prop := pasteActsRow.holds Tryd.pinned (OpenSpec.ofChange pasteActsWrong)

/- THE SECOND FORM. 'bulk': how many values and letters a reading holds, each counted each time it is reached (what is shared counts as often as it is met; a slice's spare places count too). A statement '..UptoSaid' is the law's where the arguments, and the package variables that the reading takes, are together of bulk at most 1048576: NARROWER than '..Said'. Prove '..Said' where nothing that the law and all that it calls make is longer than what came in: it says more and counts as full. Else prove '..UptoSaid'. A law counts once. -/
mutual
def uptoBulk {H : Type} : DataW H → Nat
  | .lit (.string bytes) => bytes.length + 1
  | .lit _ => 1
  | .nil => 1
  | .ptr d => uptoBulk d + 1
  | .slice elems spare => uptoBulkAll elems + uptoBulkAll spare + 1
  | .agg parts => uptoBulkAll parts + 1
  | .iface _ d => uptoBulk d + 1
  | .map entries => uptoBulkEntries entries + 1
  | .held _ => 1
def uptoBulkAll {H : Type} : List (DataW H) → Nat
  | [] => 0
  | d :: r => uptoBulk d + uptoBulkAll r
def uptoBulkEntries {H : Type} : List (Lit × DataW H) → Nat
  | [] => 0
  | x :: r => uptoBulkEntry x + uptoBulkEntries r
def uptoBulkEntry {H : Type} : Lit × DataW H → Nat
  | (.string bytes, d) => bytes.length + uptoBulk d + 1
  | (_, d) => uptoBulk d + 1
 end
def uptoSmall : (H : Type) → List (DataW H) → Bool := fun _ ds => decide (uptoBulkAll ds ≤ 1048576)
def OpenSpec.upto (s : _root_.Go.ChangeSpec) : _root_.Go.OpenSpec := { _root_.Go.OpenSpec.ofChange s with cond := some uptoSmall }

/-- 'whispererlaw12.PasteNone', WHERE WHAT IT READS IS OF BULK AT MOST 1048576: true; the input reads as it did. -/
def pasteNoneUptoRow : OpenClaim := { program := "ytbkpnffgihjikaadoor", sum := "5c5d8b9bc02b8cbc2ec171dea121b6d59058896b10f4c48358c4d5951ec41c00", func := "whisperer/whispererlaw12.PasteNone", spec := "pasteNone", named := ["unicode/utf8.first", "unicode/utf8.acceptRanges"], apart := false, laid := [("unicode/utf8.acceptRanges", laid_unicode_utf8_acceptRanges), ("unicode/utf8.first", laid_unicode_utf8_first)], narrowed := true }
def PasteNoneUptoSaid : Prop := pasteNoneUptoRow.holds Tryd.pinned (OpenSpec.upto pasteNoneSpec)

/-- 'whispererlaw12.PasteDrops', WHERE WHAT IT READS IS OF BULK AT MOST 1048576: true; the input reads as it did. -/
def pasteDropsUptoRow : OpenClaim := { program := "ytbkpnffgihjikaadoor", sum := "5c5d8b9bc02b8cbc2ec171dea121b6d59058896b10f4c48358c4d5951ec41c00", func := "whisperer/whispererlaw12.PasteDrops", spec := "pasteDrops", named := ["unicode/utf8.first", "unicode/utf8.acceptRanges"], apart := false, laid := [("unicode/utf8.acceptRanges", laid_unicode_utf8_acceptRanges), ("unicode/utf8.first", laid_unicode_utf8_first)], narrowed := true }
def PasteDropsUptoSaid : Prop := pasteDropsUptoRow.holds Tryd.pinned (OpenSpec.upto pasteDropsSpec)

/-- 'whispererlaw11.EditbufKills', WHERE WHAT IT READS IS OF BULK AT MOST 1048576: true; the input reads as it did. -/
def editbufKillsUptoRow : OpenClaim := { program := "ytbkpnffgihjikaadoor", sum := "5c5d8b9bc02b8cbc2ec171dea121b6d59058896b10f4c48358c4d5951ec41c00", func := "whisperer/whispererlaw11.EditbufKills", spec := "editbufKills", unfollowed := true, recurses := true, named := ["unicode/utf8.first", "unicode/utf8.acceptRanges"], apart := false, laid := [("unicode/utf8.acceptRanges", laid_unicode_utf8_acceptRanges), ("unicode/utf8.first", laid_unicode_utf8_first)], narrowed := true }
def EditbufKillsUptoSaid : Prop := editbufKillsUptoRow.holds Tryd.pinned (OpenSpec.upto editbufKillsSpec)

/-- 'whispererlaw11.EditbufMoves', WHERE WHAT IT READS IS OF BULK AT MOST 1048576: true; the input reads as it did. -/
def editbufMovesUptoRow : OpenClaim := { program := "ytbkpnffgihjikaadoor", sum := "5c5d8b9bc02b8cbc2ec171dea121b6d59058896b10f4c48358c4d5951ec41c00", func := "whisperer/whispererlaw11.EditbufMoves", spec := "editbufMoves", unfollowed := true, recurses := true, named := ["unicode/utf8.first", "unicode/utf8.acceptRanges"], apart := false, laid := [("unicode/utf8.acceptRanges", laid_unicode_utf8_acceptRanges), ("unicode/utf8.first", laid_unicode_utf8_first)], narrowed := true }
def EditbufMovesUptoSaid : Prop := editbufMovesUptoRow.holds Tryd.pinned (OpenSpec.upto editbufMovesSpec)

/-- 'whispererlaw11.EditbufActs', WHERE WHAT IT READS IS OF BULK AT MOST 1048576: true; the input reads as it did. -/
def editbufActsUptoRow : OpenClaim := { program := "ytbkpnffgihjikaadoor", sum := "5c5d8b9bc02b8cbc2ec171dea121b6d59058896b10f4c48358c4d5951ec41c00", func := "whisperer/whispererlaw11.EditbufActs", spec := "editbufActs", unfollowed := true, recurses := true, named := ["unicode/utf8.first", "unicode/utf8.acceptRanges"], apart := false, laid := [("unicode/utf8.acceptRanges", laid_unicode_utf8_acceptRanges), ("unicode/utf8.first", laid_unicode_utf8_first)], narrowed := true }
def EditbufActsUptoSaid : Prop := editbufActsUptoRow.holds Tryd.pinned (OpenSpec.upto editbufActsSpec)

/-- 'whispererlaw11.EditbufNone', WHERE WHAT IT READS IS OF BULK AT MOST 1048576: true; the input reads as it did. -/
def editbufNoneUptoRow : OpenClaim := { program := "ytbkpnffgihjikaadoor", sum := "5c5d8b9bc02b8cbc2ec171dea121b6d59058896b10f4c48358c4d5951ec41c00", func := "whisperer/whispererlaw11.EditbufNone", spec := "editbufNone", unfollowed := true, recurses := true, named := ["unicode/utf8.first", "unicode/utf8.acceptRanges"], apart := false, laid := [("unicode/utf8.acceptRanges", laid_unicode_utf8_acceptRanges), ("unicode/utf8.first", laid_unicode_utf8_first)], narrowed := true }
def EditbufNoneUptoSaid : Prop := editbufNoneUptoRow.holds Tryd.pinned (OpenSpec.upto editbufNoneSpec)

/-- 'whispererlaw11.EditbufFull', WHERE WHAT IT READS IS OF BULK AT MOST 1048576: true; the input reads as it did. -/
def editbufFullUptoRow : OpenClaim := { program := "ytbkpnffgihjikaadoor", sum := "5c5d8b9bc02b8cbc2ec171dea121b6d59058896b10f4c48358c4d5951ec41c00", func := "whisperer/whispererlaw11.EditbufFull", spec := "editbufFull", unfollowed := true, recurses := true, named := ["unicode/utf8.first", "unicode/utf8.acceptRanges"], apart := false, laid := [("unicode/utf8.acceptRanges", laid_unicode_utf8_acceptRanges), ("unicode/utf8.first", laid_unicode_utf8_first)], narrowed := true }
def EditbufFullUptoSaid : Prop := editbufFullUptoRow.holds Tryd.pinned (OpenSpec.upto editbufFullSpec)

/-- 'whispererlaw11.EditbufVacates', WHERE WHAT IT READS IS OF BULK AT MOST 1048576: true; the input reads as it did. -/
def editbufVacatesUptoRow : OpenClaim := { program := "ytbkpnffgihjikaadoor", sum := "5c5d8b9bc02b8cbc2ec171dea121b6d59058896b10f4c48358c4d5951ec41c00", func := "whisperer/whispererlaw11.EditbufVacates", spec := "editbufVacates", unfollowed := true, recurses := true, named := ["unicode/utf8.first", "unicode/utf8.acceptRanges"], apart := false, laid := [("unicode/utf8.acceptRanges", laid_unicode_utf8_acceptRanges), ("unicode/utf8.first", laid_unicode_utf8_first)], narrowed := true }
def EditbufVacatesUptoSaid : Prop := editbufVacatesUptoRow.holds Tryd.pinned (OpenSpec.upto editbufVacatesSpec)

/-- 'whispererlaw12.PasteWhole', WHERE WHAT IT READS IS OF BULK AT MOST 1048576: true; the input reads as it did. -/
def pasteWholeUptoRow : OpenClaim := { program := "ytbkpnffgihjikaadoor", sum := "5c5d8b9bc02b8cbc2ec171dea121b6d59058896b10f4c48358c4d5951ec41c00", func := "whisperer/whispererlaw12.PasteWhole", spec := "pasteWhole", unfollowed := true, recurses := true, named := ["unicode/utf8.first", "unicode/utf8.acceptRanges"], apart := false, laid := [("unicode/utf8.acceptRanges", laid_unicode_utf8_acceptRanges), ("unicode/utf8.first", laid_unicode_utf8_first)], narrowed := true }
def PasteWholeUptoSaid : Prop := pasteWholeUptoRow.holds Tryd.pinned (OpenSpec.upto pasteWholeSpec)

/-- 'whispererlaw12.PasteTyped', WHERE WHAT IT READS IS OF BULK AT MOST 1048576: true; the input reads as it did. -/
def pasteTypedUptoRow : OpenClaim := { program := "ytbkpnffgihjikaadoor", sum := "5c5d8b9bc02b8cbc2ec171dea121b6d59058896b10f4c48358c4d5951ec41c00", func := "whisperer/whispererlaw12.PasteTyped", spec := "pasteTyped", unfollowed := true, recurses := true, named := ["unicode/utf8.first", "unicode/utf8.acceptRanges"], apart := false, laid := [("unicode/utf8.acceptRanges", laid_unicode_utf8_acceptRanges), ("unicode/utf8.first", laid_unicode_utf8_first)], narrowed := true }
def PasteTypedUptoSaid : Prop := pasteTypedUptoRow.holds Tryd.pinned (OpenSpec.upto pasteTypedSpec)

/-- 'whispererlaw12.PasteActs', WHERE WHAT IT READS IS OF BULK AT MOST 1048576: true; the input reads as it did. -/
def pasteActsUptoRow : OpenClaim := { program := "ytbkpnffgihjikaadoor", sum := "5c5d8b9bc02b8cbc2ec171dea121b6d59058896b10f4c48358c4d5951ec41c00", func := "whisperer/whispererlaw12.PasteActs", spec := "pasteActs", unfollowed := true, recurses := true, named := ["unicode/utf8.first", "unicode/utf8.acceptRanges"], apart := false, laid := [("unicode/utf8.acceptRanges", laid_unicode_utf8_acceptRanges), ("unicode/utf8.first", laid_unicode_utf8_first)], narrowed := true }
def PasteActsUptoSaid : Prop := pasteActsUptoRow.holds Tryd.pinned (OpenSpec.upto pasteActsSpec)

end Rows
end Go.Proofs.YtbkpnffgihjikaaDoor
