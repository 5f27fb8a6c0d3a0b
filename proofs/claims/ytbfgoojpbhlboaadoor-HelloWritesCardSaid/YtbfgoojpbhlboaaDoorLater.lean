/- A cell that is there stays. No condition. -/
import Derived.Test.YtbfgoojpbhlboaaDoorLib
namespace Go.Proofs.YtbfgoojpbhlboaaDoor
open Go Go.RowKit

theorem later_cell {w w1 : World} {B : Nat} (hb : Below B w w1) {a : Addr} {v : Value} (h : w.cell? a = some v) (hB : a.block < B) : w1.cell? a = some v := (hb.cell hB).trans h
theorem frozen_later {w wx : World} {a : Addr} (hb : Below w.heap.size w wx) (hl : a.block < w.heap.size) (h : w.frozen? a = false) : wx.frozen? a = false := (hb.frozen hl).trans h
end Go.Proofs.YtbfgoojpbhlboaaDoor
