/-
  NARROWER THAN 'FOR EVERY INPUT', by the rows' own cells (each row's printed sentence says how): TwinTurns: laid · TwinPlans: laid · TwinBack: laid · TwinRows: laid · TwinPlain: laid · TwinKeys: laid.
  DERIVED. THE GIVEN ROWS OF THIS SEAT. 6 by the template 'for every input the law returns true; each argument reads behind the call as it read before'; 0 by the template 'total and deterministic' (their statements: YtbflcikfaoojmaaDoorTotals.lean).
  GIVEN WITH THE SEED: the statements are not yours to turn. If you find one false, say at which input.
  Laid BY PROGRAM, IN A SANDBOX (cutbox-rows.mjs): the forced cells as the released guide's own fill.sh prints them over the translation 9f9151661385d684… (all of the seat's roots in one cut). By AI agents, Wed Nov 11 2026. No macro, syntax, notation, axiom, sorry.
-/
import Derived.Test.YtbflcikfaoojmaaDoorChecked
import GoSem.PinnedTables
import GoSem.Claim
import GoSem.ClaimJoined
import GoSem.ClaimMapViews
import Derived.JoinedTies
import Derived.KernelRfl
namespace Go.Proofs.YtbflcikfaoojmaaDoor
/- THE CELL 'sum', in the pinned program and in every row, IS THE sha256 OF THE DUMP (.gsa) THAT YtbflcikfaoojmaaDoorProg.lean LOADS. Nothing in Lean hashes anything: it is a label: what it is worth is what the hold of that sum in a sandbox is worth. -/
noncomputable def Tryd.pinned : Pinned := { name := "ytbflcikfaoojmaadoor", sum := "9f9151661385d6845efe40332da737efed8ace938fb6d5d49ab9426835b07903", checked := Tryd.checked }
namespace Rows
def none {H : Type} : Left H := { results := [], args := [] }

/- WHAT THE LISTED PACKAGE-LEVEL VARIABLES READ AS WHEN THE CALL BEGINS. Each datum BY PROGRAM (the guide's laid-datum.mjs) off the statement by which the dump's own 'gosem.cut.vars' lays the variable. In a bare row this is a premise. The card (YtbflcikfaoojmaaDoorCards.lean) ties it to the program's text. -/
def laid_unicode_utf8_acceptRanges {H : Type} : DataW H := .agg [.agg [.lit (.int .u8 128), .lit (.int .u8 191)], .agg [.lit (.int .u8 160), .lit (.int .u8 191)], .agg [.lit (.int .u8 128), .lit (.int .u8 159)], .agg [.lit (.int .u8 144), .lit (.int .u8 191)], .agg [.lit (.int .u8 128), .lit (.int .u8 143)], .agg [.lit (.int .u8 0), .lit (.int .u8 0)], .agg [.lit (.int .u8 0), .lit (.int .u8 0)], .agg [.lit (.int .u8 0), .lit (.int .u8 0)], .agg [.lit (.int .u8 0), .lit (.int .u8 0)], .agg [.lit (.int .u8 0), .lit (.int .u8 0)], .agg [.lit (.int .u8 0), .lit (.int .u8 0)], .agg [.lit (.int .u8 0), .lit (.int .u8 0)], .agg [.lit (.int .u8 0), .lit (.int .u8 0)], .agg [.lit (.int .u8 0), .lit (.int .u8 0)], .agg [.lit (.int .u8 0), .lit (.int .u8 0)], .agg [.lit (.int .u8 0), .lit (.int .u8 0)]]
/-- One of Go's own tables, pinned by name: the form's constant. -/
def laid_unicode_utf8_first : DataW Unit := Go.Pinned.utf8First

/-- 'whispererlaw20.TwinTurns': WHATEVER THE INPUT: true; the input reads as it did. -/
def twinTurnsSpec : ChangeSpec := { name := "twinTurns", fn := fun _ => fun
  | [d1, d2] => { results := [.lit (.bool true)], args := [d1, d2] }
  | _ => none }
def twinTurnsRow : OpenClaim := { program := "ytbflcikfaoojmaadoor", sum := "9f9151661385d6845efe40332da737efed8ace938fb6d5d49ab9426835b07903", func := "whisperer/whispererlaw20.TwinTurns", spec := "twinTurns", inPlace := ["math.Float64bits"], unfollowed := true, recurses := true, named := ["unicode/utf8.first", "unicode/utf8.acceptRanges"], apart := false, laid := [("unicode/utf8.acceptRanges", laid_unicode_utf8_acceptRanges), ("unicode/utf8.first", laid_unicode_utf8_first)] }
def TwinTurnsSaid : Prop := twinTurnsRow.holds Tryd.pinned (OpenSpec.ofChange twinTurnsSpec)

/-- ITS FALSE NEIGHBOUR: 'it returns false'. Refute it at one input. -/
def twinTurnsWrong : ChangeSpec := { name := "twinTurns", fn := fun _ => fun
  | [d1, d2] => { results := [.lit (.bool false)], args := [d1, d2] }
  | _ => none }
def TwinTurnsWrongFalsely : Prop := twinTurnsRow.holds Tryd.pinned (OpenSpec.ofChange twinTurnsWrong)

/-- 'whispererlaw20.TwinPlans': WHATEVER THE INPUT: true; the input reads as it did. -/
def twinPlansSpec : ChangeSpec := { name := "twinPlans", fn := fun _ => fun
  | [d1, d2] => { results := [.lit (.bool true)], args := [d1, d2] }
  | _ => none }
def twinPlansRow : OpenClaim := { program := "ytbflcikfaoojmaadoor", sum := "9f9151661385d6845efe40332da737efed8ace938fb6d5d49ab9426835b07903", func := "whisperer/whispererlaw20.TwinPlans", spec := "twinPlans", inPlace := ["math.Float64bits"], unfollowed := true, recurses := true, named := ["unicode/utf8.first", "unicode/utf8.acceptRanges"], apart := false, laid := [("unicode/utf8.acceptRanges", laid_unicode_utf8_acceptRanges), ("unicode/utf8.first", laid_unicode_utf8_first)] }
def TwinPlansSaid : Prop := twinPlansRow.holds Tryd.pinned (OpenSpec.ofChange twinPlansSpec)

/-- ITS FALSE NEIGHBOUR: 'it returns false'. Refute it at one input. -/
def twinPlansWrong : ChangeSpec := { name := "twinPlans", fn := fun _ => fun
  | [d1, d2] => { results := [.lit (.bool false)], args := [d1, d2] }
  | _ => none }
def TwinPlansWrongFalsely : Prop := twinPlansRow.holds Tryd.pinned (OpenSpec.ofChange twinPlansWrong)

/-- 'whispererlaw20.TwinBack': WHATEVER THE INPUT: true; the input reads as it did. -/
def twinBackSpec : ChangeSpec := { name := "twinBack", fn := fun _ => fun
  | [d1, d2] => { results := [.lit (.bool true)], args := [d1, d2] }
  | _ => none }
def twinBackRow : OpenClaim := { program := "ytbflcikfaoojmaadoor", sum := "9f9151661385d6845efe40332da737efed8ace938fb6d5d49ab9426835b07903", func := "whisperer/whispererlaw20.TwinBack", spec := "twinBack", inPlace := ["math.Float64bits"], unfollowed := true, recurses := true, named := ["unicode/utf8.first", "unicode/utf8.acceptRanges"], apart := false, laid := [("unicode/utf8.acceptRanges", laid_unicode_utf8_acceptRanges), ("unicode/utf8.first", laid_unicode_utf8_first)] }
def TwinBackSaid : Prop := twinBackRow.holds Tryd.pinned (OpenSpec.ofChange twinBackSpec)

/-- ITS FALSE NEIGHBOUR: 'it returns false'. Refute it at one input. -/
def twinBackWrong : ChangeSpec := { name := "twinBack", fn := fun _ => fun
  | [d1, d2] => { results := [.lit (.bool false)], args := [d1, d2] }
  | _ => none }
def TwinBackWrongFalsely : Prop := twinBackRow.holds Tryd.pinned (OpenSpec.ofChange twinBackWrong)

/-- 'whispererlaw20.TwinRows': WHATEVER THE INPUT: true; the input reads as it did. -/
def twinRowsSpec : ChangeSpec := { name := "twinRows", fn := fun _ => fun
  | [d1, d2, d3] => { results := [.lit (.bool true)], args := [d1, d2, d3] }
  | _ => none }
def twinRowsRow : OpenClaim := { program := "ytbflcikfaoojmaadoor", sum := "9f9151661385d6845efe40332da737efed8ace938fb6d5d49ab9426835b07903", func := "whisperer/whispererlaw20.TwinRows", spec := "twinRows", inPlace := ["math.Float64bits"], unfollowed := true, recurses := true, named := ["unicode/utf8.first", "unicode/utf8.acceptRanges"], apart := false, laid := [("unicode/utf8.acceptRanges", laid_unicode_utf8_acceptRanges), ("unicode/utf8.first", laid_unicode_utf8_first)] }
def TwinRowsSaid : Prop := twinRowsRow.holds Tryd.pinned (OpenSpec.ofChange twinRowsSpec)

/-- ITS FALSE NEIGHBOUR: 'it returns false'. Refute it at one input. -/
def twinRowsWrong : ChangeSpec := { name := "twinRows", fn := fun _ => fun
  | [d1, d2, d3] => { results := [.lit (.bool false)], args := [d1, d2, d3] }
  | _ => none }
def TwinRowsWrongFalsely : Prop := twinRowsRow.holds Tryd.pinned (OpenSpec.ofChange twinRowsWrong)

/-- 'whispererlaw20.TwinPlain': WHATEVER THE INPUT: true; the input reads as it did. -/
def twinPlainSpec : ChangeSpec := { name := "twinPlain", fn := fun _ => fun
  | [d1, d2] => { results := [.lit (.bool true)], args := [d1, d2] }
  | _ => none }
def twinPlainRow : OpenClaim := { program := "ytbflcikfaoojmaadoor", sum := "9f9151661385d6845efe40332da737efed8ace938fb6d5d49ab9426835b07903", func := "whisperer/whispererlaw20.TwinPlain", spec := "twinPlain", inPlace := ["math.Float64bits"], unfollowed := true, recurses := true, named := ["unicode/utf8.first", "unicode/utf8.acceptRanges"], apart := false, laid := [("unicode/utf8.acceptRanges", laid_unicode_utf8_acceptRanges), ("unicode/utf8.first", laid_unicode_utf8_first)] }
def TwinPlainSaid : Prop := twinPlainRow.holds Tryd.pinned (OpenSpec.ofChange twinPlainSpec)

/-- ITS FALSE NEIGHBOUR: 'it returns false'. Refute it at one input. -/
def twinPlainWrong : ChangeSpec := { name := "twinPlain", fn := fun _ => fun
  | [d1, d2] => { results := [.lit (.bool false)], args := [d1, d2] }
  | _ => none }
def TwinPlainWrongFalsely : Prop := twinPlainRow.holds Tryd.pinned (OpenSpec.ofChange twinPlainWrong)

/-- 'whispererlaw20.TwinKeys': WHATEVER THE INPUT: true; the input reads as it did. -/
def twinKeysSpec : ChangeSpec := { name := "twinKeys", fn := fun _ => fun
  | [d1, d2] => { results := [.lit (.bool true)], args := [d1, d2] }
  | _ => none }
def twinKeysRow : OpenClaim := { program := "ytbflcikfaoojmaadoor", sum := "9f9151661385d6845efe40332da737efed8ace938fb6d5d49ab9426835b07903", func := "whisperer/whispererlaw20.TwinKeys", spec := "twinKeys", inPlace := ["math.Float64bits"], unfollowed := true, recurses := true, named := ["unicode/utf8.first", "unicode/utf8.acceptRanges"], apart := false, laid := [("unicode/utf8.acceptRanges", laid_unicode_utf8_acceptRanges), ("unicode/utf8.first", laid_unicode_utf8_first)] }
def TwinKeysSaid : Prop := twinKeysRow.holds Tryd.pinned (OpenSpec.ofChange twinKeysSpec)

/-- ITS FALSE NEIGHBOUR: 'it returns false'. Refute it at one input. -/
def twinKeysWrong : ChangeSpec := { name := "twinKeys", fn := fun _ => fun
  | [d1, d2] => { results := [.lit (.bool false)], args := [d1, d2] }
  | _ => none }
def TwinKeysWrongFalsely : Prop := twinKeysRow.holds Tryd.pinned (OpenSpec.ofChange twinKeysWrong)

/- THE SECOND FORM. 'bulk': how many values and letters a reading holds, each counted each time it is reached (what is shared counts as often as it is met; a slice's spare places count too). A statement '..UptoSaid' is the law's where the arguments, and the package variables that the reading takes, are together of bulk at most 1048576: NARROWER than '..Said'. Prove '..Said' where nothing that the law and all that it calls make is longer than what came in: it says more and counts as full. Else prove '..UptoSaid'. A law counts once. -/
mutual
def uptoBulk {H : Type} : DataW H → Nat
  | .lit (.string bytes) => bytes.length + 1
  | .lit _ => 1
  | .nil => 1
  | .ptr d => uptoBulk d + 1
  | .slice elems spare => uptoBulkAll elems + uptoBulkAll spare + 1
  | .agg parts => uptoBulkAll parts + 1
  | .iface _ d => uptoBulk d + 1
  | .map entries => uptoBulkEntries entries + 1
  | .held _ => 1
def uptoBulkAll {H : Type} : List (DataW H) → Nat
  | [] => 0
  | d :: r => uptoBulk d + uptoBulkAll r
def uptoBulkEntries {H : Type} : List (Lit × DataW H) → Nat
  | [] => 0
  | x :: r => uptoBulkEntry x + uptoBulkEntries r
def uptoBulkEntry {H : Type} : Lit × DataW H → Nat
  | (.string bytes, d) => bytes.length + uptoBulk d + 1
  | (_, d) => uptoBulk d + 1
 end
def uptoSmall : (H : Type) → List (DataW H) → Bool := fun _ ds => decide (uptoBulkAll ds ≤ 1048576)
def OpenSpec.upto (s : _root_.Go.ChangeSpec) : _root_.Go.OpenSpec := { _root_.Go.OpenSpec.ofChange s with cond := some uptoSmall }

/-- 'whispererlaw20.TwinTurns', WHERE WHAT IT READS IS OF BULK AT MOST 1048576: true; the input reads as it did. -/
def twinTurnsUptoRow : OpenClaim := { program := "ytbflcikfaoojmaadoor", sum := "9f9151661385d6845efe40332da737efed8ace938fb6d5d49ab9426835b07903", func := "whisperer/whispererlaw20.TwinTurns", spec := "twinTurns", inPlace := ["math.Float64bits"], unfollowed := true, recurses := true, named := ["unicode/utf8.first", "unicode/utf8.acceptRanges"], apart := false, laid := [("unicode/utf8.acceptRanges", laid_unicode_utf8_acceptRanges), ("unicode/utf8.first", laid_unicode_utf8_first)], narrowed := true }
def TwinTurnsUptoSaid : Prop := twinTurnsUptoRow.holds Tryd.pinned (OpenSpec.upto twinTurnsSpec)

/-- 'whispererlaw20.TwinPlans', WHERE WHAT IT READS IS OF BULK AT MOST 1048576: true; the input reads as it did. -/
def twinPlansUptoRow : OpenClaim := { program := "ytbflcikfaoojmaadoor", sum := "9f9151661385d6845efe40332da737efed8ace938fb6d5d49ab9426835b07903", func := "whisperer/whispererlaw20.TwinPlans", spec := "twinPlans", inPlace := ["math.Float64bits"], unfollowed := true, recurses := true, named := ["unicode/utf8.first", "unicode/utf8.acceptRanges"], apart := false, laid := [("unicode/utf8.acceptRanges", laid_unicode_utf8_acceptRanges), ("unicode/utf8.first", laid_unicode_utf8_first)], narrowed := true }
def TwinPlansUptoSaid : Prop := twinPlansUptoRow.holds Tryd.pinned (OpenSpec.upto twinPlansSpec)

/-- 'whispererlaw20.TwinBack', WHERE WHAT IT READS IS OF BULK AT MOST 1048576: true; the input reads as it did. -/
def twinBackUptoRow : OpenClaim := { program := "ytbflcikfaoojmaadoor", sum := "9f9151661385d6845efe40332da737efed8ace938fb6d5d49ab9426835b07903", func := "whisperer/whispererlaw20.TwinBack", spec := "twinBack", inPlace := ["math.Float64bits"], unfollowed := true, recurses := true, named := ["unicode/utf8.first", "unicode/utf8.acceptRanges"], apart := false, laid := [("unicode/utf8.acceptRanges", laid_unicode_utf8_acceptRanges), ("unicode/utf8.first", laid_unicode_utf8_first)], narrowed := true }
def TwinBackUptoSaid : Prop := twinBackUptoRow.holds Tryd.pinned (OpenSpec.upto twinBackSpec)

/-- 'whispererlaw20.TwinRows', WHERE WHAT IT READS IS OF BULK AT MOST 1048576: true; the input reads as it did. -/
def twinRowsUptoRow : OpenClaim := { program := "ytbflcikfaoojmaadoor", sum := "9f9151661385d6845efe40332da737efed8ace938fb6d5d49ab9426835b07903", func := "whisperer/whispererlaw20.TwinRows", spec := "twinRows", inPlace := ["math.Float64bits"], unfollowed := true, recurses := true, named := ["unicode/utf8.first", "unicode/utf8.acceptRanges"], apart := false, laid := [("unicode/utf8.acceptRanges", laid_unicode_utf8_acceptRanges), ("unicode/utf8.first", laid_unicode_utf8_first)], narrowed := true }
def TwinRowsUptoSaid : Prop := twinRowsUptoRow.holds Tryd.pinned (OpenSpec.upto twinRowsSpec)

/-- 'whispererlaw20.TwinPlain', WHERE WHAT IT READS IS OF BULK AT MOST 1048576: true; the input reads as it did. -/
def twinPlainUptoRow : OpenClaim := { program := "ytbflcikfaoojmaadoor", sum := "9f9151661385d6845efe40332da737efed8ace938fb6d5d49ab9426835b07903", func := "whisperer/whispererlaw20.TwinPlain", spec := "twinPlain", inPlace := ["math.Float64bits"], unfollowed := true, recurses := true, named := ["unicode/utf8.first", "unicode/utf8.acceptRanges"], apart := false, laid := [("unicode/utf8.acceptRanges", laid_unicode_utf8_acceptRanges), ("unicode/utf8.first", laid_unicode_utf8_first)], narrowed := true }
def TwinPlainUptoSaid : Prop := twinPlainUptoRow.holds Tryd.pinned (OpenSpec.upto twinPlainSpec)

/-- 'whispererlaw20.TwinKeys', WHERE WHAT IT READS IS OF BULK AT MOST 1048576: true; the input reads as it did. -/
def twinKeysUptoRow : OpenClaim := { program := "ytbflcikfaoojmaadoor", sum := "9f9151661385d6845efe40332da737efed8ace938fb6d5d49ab9426835b07903", func := "whisperer/whispererlaw20.TwinKeys", spec := "twinKeys", inPlace := ["math.Float64bits"], unfollowed := true, recurses := true, named := ["unicode/utf8.first", "unicode/utf8.acceptRanges"], apart := false, laid := [("unicode/utf8.acceptRanges", laid_unicode_utf8_acceptRanges), ("unicode/utf8.first", laid_unicode_utf8_first)], narrowed := true }
def TwinKeysUptoSaid : Prop := twinKeysUptoRow.holds Tryd.pinned (OpenSpec.upto twinKeysSpec)

end Rows
end Go.Proofs.YtbflcikfaoojmaaDoor
