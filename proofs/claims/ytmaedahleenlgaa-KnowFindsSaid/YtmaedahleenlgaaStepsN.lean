/- Own texts, one behind the other. Each bears its own remark. -/
import Derived.Test.YtmaedahleenlgaaRefMake
/- The helpers of the laws of layer 2: terms, Step.parts. No condition. -/
set_option linter.unusedVariables false
set_option linter.unusedSimpArgs false
namespace Go.Proofs.Ytmaedahleenlgaa
open Go Go.RowKit Go.WideMaps

def TermsPost (xs : List Int) (w : World) (e : Ending) (w' : World) : Prop := ∃ v, e = .returned v ∧ OwnI w' w.heap.size .i64 v xs ∧ Below w.heap.size w w'

theorem empty_at {w : World} {B g : Nat} {t : Nat} (hg : w.heap.size = g) (hB : B ≤ g) (ht : spT t = false) : OwnI (w.alloc (.cells #[] t)) B .i64 (.slice (some ⟨g, 0, none⟩) 0 0) [] := by
  subst hg
  exact OwnI.empty hB ht
def nearT (size x : Int) : Int := Int.tmod (Int.tmod x size + size) size + 1
def partsT (near : Bool) (size : Int) (xs : List Int) : List Int := if near = true ∧ 0 < size then xs.map (nearT size) else xs
end Go.Proofs.Ytmaedahleenlgaa

/- The helpers of the laws of layer 2: terms, Step.parts. No condition. -/
set_option linter.unusedVariables false
set_option linter.unusedSimpArgs false
namespace Go.Proofs.Ytmaedahleenlgaa
open Go Go.RowKit Go.WideMaps

theorem wrap_in {x : Int} (h : -9223372036854775808 ≤ x ∧ x ≤ 9223372036854775807) : wrap64 x = x := (IntWalk.i64_left x).symm.trans (IntWalk.i64_in x h)
theorem near_set {size : Int} {xs : List Int} {k : Nat} (h : k < xs.length) : ((xs.take k).map (nearT size) ++ xs.drop k).set k (nearT size (nth xs k)) = (xs.take (k + 1)).map (nearT size) ++ xs.drop (k + 1) := by
  have hd : xs.drop k = nth xs k :: xs.drop (k + 1) := by
    rw [List.drop_eq_getElem_cons h]
    have := nth_lt h
    rw [List.getElem?_eq_getElem h] at this
    rw [Option.some.inj this]
  have hl : ((xs.take k).map (nearT size)).length = k := by simp; omega
  rw [take_nth_succ h, hd, List.set_append_right _ _ (by omega), hl, Nat.sub_self]
  simp
end Go.Proofs.Ytmaedahleenlgaa
