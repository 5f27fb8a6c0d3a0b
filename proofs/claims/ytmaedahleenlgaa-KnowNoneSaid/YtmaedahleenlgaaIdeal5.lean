/- The example of layer 4, and the walk of IdealBytes. No condition. -/
import Derived.Test.YtmaedahleenlgaaIdeal4
import Derived.OpenShut
set_option linter.unusedVariables false
set_option linter.unusedSimpArgs false
namespace Go.Proofs.Ytmaedahleenlgaa
open Go Go.RowKit


theorem unwrap_ok (xs : List Int) : ((unwrap xs).2.2 == ((unwrap xs).1 != 0)) = true := by
  unfold unwrap
  split
  · rename_i h
    simp [h.2.2.1]
  · rfl

end Go.Proofs.Ytmaedahleenlgaa
