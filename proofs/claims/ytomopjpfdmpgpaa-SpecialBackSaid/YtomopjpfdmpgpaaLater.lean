/- A cell that is there stays. No condition. -/
import Derived.Test.YtomopjpfdmpgpaaLib
namespace Go.Proofs.Ytomopjpfdmpgpaa
open Go Go.RowKit

theorem later_cell {w w1 : World} {B : Nat} (hb : Below B w w1) {a : Addr} {v : Value} (h : w.cell? a = some v) (hB : a.block < B) : w1.cell? a = some v := (hb.cell hB).trans h
end Go.Proofs.Ytomopjpfdmpgpaa
