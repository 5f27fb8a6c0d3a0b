/- What Unwrap, Wrap and the references' functions of layer 4 return. No condition. -/
import Derived.Test.YtmaedahleenlgaaIdeal
set_option linter.unusedVariables false
set_option linter.unusedSimpArgs false
namespace Go.Proofs.Ytmaedahleenlgaa
open Go Go.RowKit

def UnwPost (xs : List Int) (w : World) (e : Ending) (w' : World) : Prop := e = .returned (.tuple #[.int .i64 (unwrap xs).1, .int .i64 (unwrap xs).2.1, .bool (unwrap xs).2.2]) ∧ Below w.heap.size w w'
theorem unw_no {xs : List Int} {w w' : World} (h : ¬(16 ≤ xs.length ∧ xs.length ≤ 1216 ∧ numOf (xs.take 4) ≠ 0 ∧ (∀ x ∈ xs.drop 4, x = 0))) (hw : Below w.heap.size w w') : UnwPost xs w (.returned (.tuple #[.int .i64 0, .int .i64 0, .bool false])) w' := by
  unfold UnwPost unwrap
  rw [if_neg h]
  exact ⟨rfl, hw⟩

def SamePost04 (xs ys : List Int) (w : World) (e : Ending) (w' : World) : Prop := e = .returned (.bool (decide (xs = ys))) ∧ Below w.heap.size w w'

end Go.Proofs.Ytmaedahleenlgaa
