/- The sums' table as the world holds it, and that a world that has only grown holds it still. Conditions: none but those that each theorem names. -/
import Derived.Test.YtbhbbnfkblibfaaDoorProg
import Derived.Below
namespace Go.Proofs.YtbhbbnfkblibfaaDoor
open Go.RowKit
def tblN : List Nat := [0x00000000, 0x105EC76F, 0x20BD8EDE, 0x30E349B1, 0x417B1DBC, 0x5125DAD3, 0x61C69362, 0x7198540D, 0x82F63B78, 0x92A8FC17, 0xA24BB5A6, 0xB21572C9, 0xC38D26C4, 0xD3D3E1AB, 0xE330A81A, 0xF36E6F75]
/-- The table's sixteen cells. -/
def Tabs (w : World) : Prop := 0 < w.heap.size ∧ ∀ i, i < 16 → w.cell? ⟨0, i, none⟩ = some (.int .u32 ((tblN.getD i 0 : Nat) : Int))
theorem Tabs.below {w w' : World} (h : Tabs w) (b : Below w.heap.size w w') : Tabs w' :=
  ⟨Nat.lt_of_lt_of_le h.1 b.size, fun i hi => by rw [b.cell h.1]; exact h.2 i hi⟩
theorem Tabs.cell {w : World} (h : Tabs w) (i : Nat) (hi : i < 16) : w.cell? ⟨0, i, none⟩ = some (.int .u32 ((tblN.getD i 0 : Nat) : Int)) := h.2 i hi
end Go.Proofs.YtbhbbnfkblibfaaDoor
