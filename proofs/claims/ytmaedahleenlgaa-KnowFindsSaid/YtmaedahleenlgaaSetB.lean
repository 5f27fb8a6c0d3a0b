/- A cell of a row of bools is turned. No condition. -/
import Derived.Test.YtmaedahleenlgaaKnow2
set_option linter.unusedVariables false
set_option linter.unusedSimpArgs false
namespace Go.Proofs.Ytmaedahleenlgaa
open Go Go.RowKit

theorem frm_setB3 {B g i : Nat} {w : World} {cur : Array Value} (hB : B ≤ g) (hg : w.heap[g]? = some (.cells cur 4 (0, 0))) (v : Value) : Frm mndO B w (w.setCell ⟨g, i, none⟩ v) :=
  ⟨rfl, rfl, rfl, by simp [World.setCell], fun k o hk hc => by
    by_cases e : k = g
    · subst e
      rw [hg] at hk; cases hk
      rcases hc with h | h
      · omega
      · cases h
    · exact (mblk_other w v e).trans hk⟩
end Go.Proofs.Ytmaedahleenlgaa
