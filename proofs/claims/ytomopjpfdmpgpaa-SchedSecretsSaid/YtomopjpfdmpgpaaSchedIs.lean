/- is, Rows and derived of law 15. -/
import Derived.Test.YtomopjpfdmpgpaaSchedAsks
set_option linter.unusedVariables false
set_option linter.unusedSimpArgs false
namespace Go.Proofs.Ytomopjpfdmpgpaa
open Go Go.RowKit Go.WideMaps

def isT (T : List Nd) (h kind : Int) (xs : List Int) : Bool := match getT T h with | some n => decide (n.kind = kind ∧ n.parts = xs) | none => false
theorem isT_at {T : List Nd} {h kind : Int} {n : Nd} (e : getT T h = some n) (xs : List Int) : isT T h kind xs = decide (n.kind = kind ∧ n.parts = xs) := by unfold isT; rw [e]
theorem take_next {a b : List Int} {n i : Nat} (ha : a.length = n) (hb : b.length = n) (hi : i < n) (h : a.take i = b.take i) (e : nth a i = nth b i) : a.take (i + 1) = b.take (i + 1) := by
  rw [take_nth_succ (by omega), take_nth_succ (by omega), h, e]
theorem take_full {a b : List Int} {n : Nat} (ha : a.length = n) (hb : b.length = n) (h : a.take n = b.take n) : a = b := by
  rwa [List.take_of_length_le (by omega), List.take_of_length_le (by omega)] at h

end Go.Proofs.Ytomopjpfdmpgpaa
