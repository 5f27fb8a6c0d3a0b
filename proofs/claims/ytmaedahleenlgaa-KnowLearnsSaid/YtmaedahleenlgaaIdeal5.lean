/- Own texts, one behind the other. Each bears its own remark. -/
import Derived.Test.YtmaedahleenlgaaBase
import Derived.Test.YtmaedahleenlgaaPureIdeal
import Derived.OpenShut
/- What the functions of layer 4 without a table return: Number, Numbered, Wrap, Unwrap, and the references'. No condition. -/
set_option linter.unusedVariables false
set_option linter.unusedSimpArgs false
namespace Go.Proofs.Ytmaedahleenlgaa
open Go Go.RowKit







theorem size_u8 : (Try.prog.info? 5).map (·.size) = some 1 := by kernel_rfl
def NumdPost (xs : List Int) (w : World) (e : Ending) (w' : World) : Prop := e = .returned (.tuple #[.int .i64 (numOf xs), .bool (numOf xs != 0)]) ∧ Below w.heap.size w w'
theorem numd_of {r : Int} {xs : List Int} {b : Bool} (h : r = numOf xs) (hb : b = (r != 0)) {w w' : World} (hw : Below w.heap.size w w') : NumdPost xs w (.returned (.tuple #[.int .i64 r, .bool b])) w' := by
  subst h; subst hb; exact ⟨rfl, hw⟩
theorem numB_len (h : Int) : (numB h).length = if 1 ≤ h ∧ h ≤ 65536 then 4 else 0 := by unfold numB; split <;> rfl

theorem list_four {xs : List Int} (h : xs.length = 4) : xs = [nth xs 0, nth xs 1, nth xs 2, nth xs 3] := by
  match xs, h with
  | [a, b, c, d], _ => rfl



def IdxPost (xs : List Int) (w : World) (e : Ending) (w' : World) : Prop := ∃ r : Int, e = .returned (.int .i64 r) ∧ -1 ≤ r ∧ (r = -1 ↔ ∀ x ∈ xs, x = 0) ∧ w = w'
theorem all_zero {xs : List Int} {n : Nat} (hn : xs.length = n) (h : ∀ j, j < n → nth xs j = 0) : ∀ x ∈ xs, x = 0 := by
  intro x hx
  obtain ⟨j, hj⟩ := List.mem_iff_getElem?.1 hx
  have hl := (List.getElem?_eq_some_iff.1 hj).1
  rw [nth_lt hl] at hj
  have := h j (by omega)
  simp_all

def ContPost (xs : List Int) (w : World) (e : Ending) (w' : World) : Prop := e = .returned (.bool (decide (¬ ∀ x ∈ xs, x = 0))) ∧ w = w'
end Go.Proofs.Ytmaedahleenlgaa

/- What Unwrap, Wrap and the references' functions of layer 4 return. No condition. -/
set_option linter.unusedVariables false
set_option linter.unusedSimpArgs false
namespace Go.Proofs.Ytmaedahleenlgaa
open Go Go.RowKit

def UnwPost (xs : List Int) (w : World) (e : Ending) (w' : World) : Prop := e = .returned (.tuple #[.int .i64 (unwrap xs).1, .int .i64 (unwrap xs).2.1, .bool (unwrap xs).2.2]) ∧ Below w.heap.size w w'
theorem unw_no {xs : List Int} {w w' : World} (h : ¬(16 ≤ xs.length ∧ xs.length ≤ 1216 ∧ numOf (xs.take 4) ≠ 0 ∧ (∀ x ∈ xs.drop 4, x = 0))) (hw : Below w.heap.size w w') : UnwPost xs w (.returned (.tuple #[.int .i64 0, .int .i64 0, .bool false])) w' := by
  unfold UnwPost unwrap
  rw [if_neg h]
  exact ⟨rfl, hw⟩

def SamePost04 (xs ys : List Int) (w : World) (e : Ending) (w' : World) : Prop := e = .returned (.bool (decide (xs = ys))) ∧ Below w.heap.size w w'

end Go.Proofs.Ytmaedahleenlgaa

/- What the references' functions of layer 4 return, and Wrap. No condition. -/
set_option linter.unusedVariables false
set_option linter.unusedSimpArgs false
namespace Go.Proofs.Ytmaedahleenlgaa
open Go Go.RowKit

def RNumdPost (xs : List Int) (w : World) (e : Ending) (w' : World) : Prop := e = .returned (.int .i64 (numOf xs)) ∧ Below w.heap.size w w'
theorem rnumd_of {r : Int} {xs : List Int} (h : r = numOf xs) {w w' : World} (hw : Below w.heap.size w w') : RNumdPost xs w (.returned (.int .i64 r)) w' := by
  subst h; exact ⟨rfl, hw⟩

def RUnwPost (xs : List Int) (w : World) (e : Ending) (w' : World) : Prop := e = .returned (.tuple #[.int .i64 (unwrap xs).1, .int .i64 (unwrap xs).2.1]) ∧ Below w.heap.size w w'
theorem runw_no {xs : List Int} {w w' : World} (h : ¬(16 ≤ xs.length ∧ xs.length ≤ 1216 ∧ numOf (xs.take 4) ≠ 0 ∧ (∀ x ∈ xs.drop 4, x = 0))) (hw : Below w.heap.size w w') : RUnwPost xs w (.returned (.tuple #[.int .i64 0, .int .i64 0])) w' := by
  unfold RUnwPost unwrap
  rw [if_neg h]
  exact ⟨rfl, hw⟩

end Go.Proofs.Ytmaedahleenlgaa

/- What is wrapped, by both texts; the example; two statements of layer 4. No condition. -/
set_option linter.unusedVariables false
set_option linter.unusedSimpArgs false
namespace Go.Proofs.Ytmaedahleenlgaa
open Go Go.RowKit

theorem wrapB_no {h n : Int} (k : ¬((1 ≤ h ∧ h ≤ 65536) ∧ 0 ≤ n ∧ n ≤ 1200)) : wrapB h n = [] := if_neg k
theorem wrapB_yes {h n : Int} (k : (1 ≤ h ∧ h ≤ 65536) ∧ 0 ≤ n ∧ n ≤ 1200) : wrapB h n = numB h ++ List.replicate (n + 12).toNat 0 := if_pos k
def WrapPost (h n : Int) (w : World) (e : Ending) (w' : World) : Prop := ∃ v, e = .returned v ∧ OwnI w' w.heap.size .u8 v (wrapB h n) ∧ Below w.heap.size w w'


end Go.Proofs.Ytmaedahleenlgaa

/- The example of layer 4, and the walk of IdealBytes. No condition. -/
set_option linter.unusedVariables false
set_option linter.unusedSimpArgs false
namespace Go.Proofs.Ytmaedahleenlgaa
open Go Go.RowKit


theorem unwrap_ok (xs : List Int) : ((unwrap xs).2.2 == ((unwrap xs).1 != 0)) = true := by
  unfold unwrap
  split
  · rename_i h
    simp [h.2.2.1]
  · rfl

end Go.Proofs.Ytmaedahleenlgaa
