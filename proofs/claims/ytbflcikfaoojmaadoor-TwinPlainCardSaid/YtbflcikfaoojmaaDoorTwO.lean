/- A plan of one item, in memory. -/
import Derived.Test.YtbflcikfaoojmaaDoorTw3
import Derived.Test.YtbflcikfaoojmaaDoorConv
import Derived.Great.BuildSlice
set_option linter.unusedVariables false
set_option linter.unusedSimpArgs false
namespace Go.Proofs.YtbflcikfaoojmaaDoor.Edit
open Go.RowKit Go.Lib Go.Shelf ChangeShapes Mem Utf UtfP

theorem run_store_float {P : Program} {w : World} {a : Addr} {m : Mode} (k : FloatKind) (z : _) : (store a (.float k z) m).run P w = stored P w a (.float k z) m := run_store P w a _ m rfl
theorem Blk.is {w : World} {b : Nat} {cs : Array Value} {t : TypeId} (h : Blk w b cs t) : w.heap[b]? = some (.cells cs t (0, 0)) := h
/-- a plan of one item, its row at bi -/
def planV (bi c : Nat) : Value := .agg #[.int .u32 0, .int .u8 0, .int .u8 0, .slice (some ⟨bi, 0, none⟩) 1 c, .slice none 0 0, .slice none 0 0, .slice none 0 0]
structure OneP (w : World) (bi : Nat) (A : Option Addr) (cap : Nat) (l : List UInt8) : Prop where
  row : Blk w bi #[.float .f64 0, .int .i64 0, .int .i64 0, .slice A l.length cap] 49
  cap : l.length ≤ cap
  bytes : BytesAt w A l
theorem OneP.below {w w' : World} {bi : Nat} {A : Option Addr} {cap : Nat} {l : List UInt8} (h : OneP w bi A cap l) (hb : Below w.heap.size w w') : OneP w' bi A cap l :=
  ⟨h.row.but (But.of_below (S := []) hb) (by intro h; cases h), h.cap, h.bytes.below hb⟩
theorem OneP.lt {w : World} {bi : Nat} {A : Option Addr} {cap : Nat} {l : List UInt8} (h : OneP w bi A cap l) : bi < w.heap.size := h.row.lt

end Go.Proofs.YtbflcikfaoojmaaDoor.Edit
