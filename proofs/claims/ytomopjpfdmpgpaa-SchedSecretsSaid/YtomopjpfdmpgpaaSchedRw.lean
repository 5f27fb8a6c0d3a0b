/- Rows and derived of law 15, row by row. Printed by gen_rows.py. -/
import Derived.Test.YtomopjpfdmpgpaaSchedIs
set_option linter.unusedVariables false
set_option linter.unusedSimpArgs false
namespace Go.Proofs.Ytomopjpfdmpgpaa
open Go Go.RowKit Go.WideMaps

theorem text_have {T : List Nd} {x : Int} {b : ByteArray} (hw : WfT T) (h : getT T x = some (nT b)) (hb : b.size ≤ 2048) : textT T b = (T, x) := by
  have r := getT_range h
  obtain ⟨i, rfl⟩ : ∃ i : Nat, x = (i : Int) + 1 := ⟨(x - 1).toNat, by omega⟩
  rw [getT_nat] at h
  have hl := lookT_of hw h (by simp [nT])
  unfold textT
  rw [if_pos hb]
  unfold addT
  rw [if_neg (show ¬ (1 : Int) = 2 by decide), show lookT T ⟨1, b, []⟩ = some i from hl]

def YesPost (B tb : Nat) (T : List Nd) (w : World) (e : Ending) (w' : World) : Prop := e = .returned (.bool true) ∧ IsTab B w' tb T ∧ Frm tabO B w w'













end Go.Proofs.Ytomopjpfdmpgpaa
