/- The helpers of the laws of layer 2: terms, Step.parts. No condition. -/
import Derived.Test.YtmaedahleenlgaaRefMake
set_option linter.unusedVariables false
set_option linter.unusedSimpArgs false
namespace Go.Proofs.Ytmaedahleenlgaa
open Go Go.RowKit Go.WideMaps

def TermsPost (xs : List Int) (w : World) (e : Ending) (w' : World) : Prop := ∃ v, e = .returned v ∧ OwnI w' w.heap.size .i64 v xs ∧ Below w.heap.size w w'

theorem empty_at {w : World} {B g : Nat} {t : Nat} (hg : w.heap.size = g) (hB : B ≤ g) (ht : spT t = false) : OwnI (w.alloc (.cells #[] t)) B .i64 (.slice (some ⟨g, 0, none⟩) 0 0) [] := by
  subst hg
  exact OwnI.empty hB ht
def nearT (size x : Int) : Int := Int.tmod (Int.tmod x size + size) size + 1
def partsT (near : Bool) (size : Int) (xs : List Int) : List Int := if near = true ∧ 0 < size then xs.map (nearT size) else xs
end Go.Proofs.Ytmaedahleenlgaa
