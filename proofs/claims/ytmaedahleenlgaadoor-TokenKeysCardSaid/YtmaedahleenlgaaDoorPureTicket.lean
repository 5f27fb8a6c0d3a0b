/- Plain: three numbers, one behind the other (layer 17). No condition. -/
import Derived.Test.YtmaedahleenlgaaDoorPureSched
set_option linter.unusedVariables false
set_option linter.unusedSimpArgs false
namespace Go.Proofs.YtmaedahleenlgaaDoor
open Go Go.RowKit

def rd1 (xs : List Int) : Int × Nat × Int := readV xs
def rd2 (xs : List Int) : Int × Nat × Int := readV (xs.drop (rd1 xs).2.1)
def rd3 (xs : List Int) : Int × Nat × Int := readV (xs.drop ((rd1 xs).2.1 + (rd2 xs).2.1))
def readT (xs : List Int) : Option (Int × Int × Int) :=
  if (rd1 xs).2.2 = 0 ∧ (rd2 xs).2.2 = 0 ∧ (rd3 xs).2.2 = 0 ∧ (rd1 xs).2.1 + (rd2 xs).2.1 + (rd3 xs).2.1 = xs.length then some ((rd1 xs).1, (rd2 xs).1, (rd3 xs).1) else none
def tkV (xs : List Int) : Int × Int × Int := (readT xs).getD (0, 0, 0)
theorem readT_no {xs : List Int} (h : ¬ ((rd1 xs).2.2 = 0 ∧ (rd2 xs).2.2 = 0 ∧ (rd3 xs).2.2 = 0 ∧ (rd1 xs).2.1 + (rd2 xs).2.1 + (rd3 xs).2.1 = xs.length)) : readT xs = none := if_neg h
theorem readT_yes {xs : List Int} (h : (rd1 xs).2.2 = 0 ∧ (rd2 xs).2.2 = 0 ∧ (rd3 xs).2.2 = 0 ∧ (rd1 xs).2.1 + (rd2 xs).2.1 + (rd3 xs).2.1 = xs.length) : readT xs = some ((rd1 xs).1, (rd2 xs).1, (rd3 xs).1) := if_pos h
def textV (v t l : Int) : List Int := if sizeV v = 0 ∨ sizeV t = 0 ∨ sizeV l = 0 then [] else varB v ++ varB t ++ varB l
theorem textV_no {v t l : Int} (h : sizeV v = 0 ∨ sizeV t = 0 ∨ sizeV l = 0) : textV v t l = [] := if_pos h
theorem textV_yes {v t l : Int} (h : ¬ (sizeV v = 0 ∨ sizeV t = 0 ∨ sizeV l = 0)) : textV v t l = varB v ++ varB t ++ varB l := if_neg h
theorem textV_len {v t l : Int} (h : ¬ (sizeV v = 0 ∨ sizeV t = 0 ∨ sizeV l = 0)) : (textV v t l).length = sizeV v + sizeV t + sizeV l := by
  rw [textV_yes h]; simp [varB_len]; omega
theorem sizeV_le (n : Int) : sizeV n ≤ 8 := by rcases sizeV_cases n with h | h | h | h | h <;> omega
theorem textV_byt (v t l : Int) : Byt (textV v t l) := by
  unfold textV
  split
  · intro x hx; simp at hx
  · intro x hx
    simp only [List.mem_append] at hx
    rcases hx with (hx | hx) | hx
    · exact varB_byt _ x hx
    · exact varB_byt _ x hx
    · exact varB_byt _ x hx
theorem readT_textV {v t l : Int} (h : ¬ (sizeV v = 0 ∨ sizeV t = 0 ∨ sizeV l = 0)) : readT (textV v t l) = some (v, t, l) := by
  have hv : sizeV v ≠ 0 := fun k => h (.inl k)
  have ht : sizeV t ≠ 0 := fun k => h (.inr (.inl k))
  have hl : sizeV l ≠ 0 := fun k => h (.inr (.inr k))
  have e := textV_yes h
  have r1 : rd1 (textV v t l) = (v, sizeV v, 0) := by
    rw [rd1, e, List.append_assoc]; exact readV_varB hv _
  have r2 : rd2 (textV v t l) = (t, sizeV t, 0) := by
    rw [rd2, r1, e, List.append_assoc]
    show readV (List.drop (sizeV v) _) = _
    rw [← varB_len v, List.drop_left]
    exact readV_varB ht _
  have r3 : rd3 (textV v t l) = (l, sizeV l, 0) := by
    rw [rd3, r1, r2, e]
    show readV (List.drop (sizeV v + sizeV t) _) = _
    rw [show sizeV v + sizeV t = (varB v ++ varB t).length from by simp [varB_len], List.drop_left]
    have := readV_varB hl []
    rwa [List.append_nil] at this
  rw [readT_yes (by rw [r1, r2, r3, textV_len h]; exact ⟨rfl, rfl, rfl, rfl⟩), r1, r2, r3]
/-- What a read number is. -/
theorem rd_ok {xs : List Int} (h : (readV xs).2.2 = 0) : (readV xs).2.1 ≤ xs.length ∧ 0 < (readV xs).2.1 ∧ (readV xs).2.1 = sizeV (readV xs).1 := by
  rcases readV_err (b := xs) (n := (readV xs).1) (s := (readV xs).2.1) (e := (readV xs).2.2) rfl with ⟨_, h2, h3, h4⟩ | ⟨h1, _⟩
  · exact ⟨h4, by omega, h3⟩
  · omega
theorem readV_size {xs : List Int} : (readV xs).2.1 ≤ xs.length := by
  rcases readV_err (b := xs) (n := (readV xs).1) (s := (readV xs).2.1) (e := (readV xs).2.2) rfl with ⟨_, h2, h3, h4⟩ | ⟨h1, h2, h3⟩
  · exact h4
  · omega
end Go.Proofs.YtmaedahleenlgaaDoor
