/- A part of a list. No condition, no program. -/
import Derived.Test.YtbfgoojpbhlboaaDoorLib
namespace Go.Proofs.YtbfgoojpbhlboaaDoor
open Go Go.RowKit
def cutL (xs : List Int) (a k : Nat) : List Int := (xs.take (a + k)).drop a
theorem cutL_len {xs : List Int} {a k : Nat} (h : a + k ≤ xs.length) : (cutL xs a k).length = k := by unfold cutL; simp; omega
theorem Frm.mono {C C' : Obj → Bool} {B : Nat} {w w' : World} (h : Frm C B w w') (hc : ∀ o, C o = true → C' o = true) : Frm C' B w w' :=
  ⟨h.os, h.tape, h.output, h.size, fun k o hk hh => h.block k o hk (hh.imp id fun x => by cases hx : C o with | false => rfl | true => rw [hc o hx] at x; cases x)⟩
end Go.Proofs.YtbfgoojpbhlboaaDoor
