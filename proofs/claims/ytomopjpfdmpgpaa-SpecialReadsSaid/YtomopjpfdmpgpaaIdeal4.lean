/- What is wrapped, by both texts; the example; two statements of layer 4. No condition. -/
import Derived.Test.YtomopjpfdmpgpaaIdeal3
set_option linter.unusedVariables false
set_option linter.unusedSimpArgs false
namespace Go.Proofs.Ytomopjpfdmpgpaa
open Go Go.RowKit

theorem wrapB_no {h n : Int} (k : ¬((1 ≤ h ∧ h ≤ 65536) ∧ 0 ≤ n ∧ n ≤ 1200)) : wrapB h n = [] := if_neg k
theorem wrapB_yes {h n : Int} (k : (1 ≤ h ∧ h ≤ 65536) ∧ 0 ≤ n ∧ n ≤ 1200) : wrapB h n = numB h ++ List.replicate (n + 12).toNat 0 := if_pos k
def WrapPost (h n : Int) (w : World) (e : Ending) (w' : World) : Prop := ∃ v, e = .returned v ∧ OwnI w' w.heap.size .u8 v (wrapB h n) ∧ Below w.heap.size w w'


end Go.Proofs.Ytomopjpfdmpgpaa
