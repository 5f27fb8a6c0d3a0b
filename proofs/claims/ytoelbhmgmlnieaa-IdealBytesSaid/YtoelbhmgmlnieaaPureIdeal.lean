/- Plain: the four bytes of a number, the number of four bytes, what is wrapped, what is unwrapped (layer 4). No condition. -/
import Derived.Test.YtoelbhmgmlnieaaLib
set_option linter.unusedVariables false
set_option linter.unusedSimpArgs false
namespace Go.Proofs.Ytoelbhmgmlnieaa
open Go Go.RowKit

/-- All are bytes. -/
def Byt (xs : List Int) : Prop := ∀ x ∈ xs, 0 ≤ x ∧ x ≤ 255
theorem Byt.nth {xs : List Int} (h : Byt xs) (j : Nat) : 0 ≤ nth xs j ∧ nth xs j ≤ 255 := by
  by_cases hj : j < xs.length
  · exact h _ (nth_mem hj)
  · simp [Go.Proofs.Ytoelbhmgmlnieaa.nth, List.getElem?_eq_none (show xs.length ≤ j by omega)]
theorem Byt.append {xs ys : List Int} (h : Byt xs) (k : Byt ys) : Byt (xs ++ ys) := fun x hx => by
  rcases List.mem_append.1 hx with hx | hx
  · exact h x hx
  · exact k x hx
theorem Byt.drop {xs : List Int} (h : Byt xs) (n : Nat) : Byt (xs.drop n) := fun x hx => h x (List.mem_of_mem_drop hx)
theorem Byt.take {xs : List Int} (h : Byt xs) (n : Nat) : Byt (xs.take n) := fun x hx => h x (List.mem_of_mem_take hx)

def numB (h : Int) : List Int := if 1 ≤ h ∧ h ≤ 65536 then [0, h / 65536, h / 256 % 256, h % 256] else []
theorem numB_yes {h : Int} (h0 : 1 ≤ h) (h1 : h ≤ 65536) : numB h = [0, h / 65536, h / 256 % 256, h % 256] := if_pos ⟨h0, h1⟩
theorem numB_no {h : Int} (h0 : ¬(1 ≤ h ∧ h ≤ 65536)) : numB h = [] := if_neg h0
theorem numB_byt (h : Int) : Byt (numB h) := by
  unfold numB
  split
  · intro x hx
    simp at hx
    omega
  · intro x hx; simp at hx

def be4 (b : List Int) : Int := nth b 0 * 16777216 + nth b 1 * 65536 + nth b 2 * 256 + nth b 3
def numOf (b : List Int) : Int := if b.length = 4 ∧ 1 ≤ be4 b ∧ be4 b ≤ 65536 then be4 b else 0
theorem numOf_len {b : List Int} (h : b.length ≠ 4) : numOf b = 0 := if_neg (fun x => h x.1)
theorem numOf_range (b : List Int) : 0 ≤ numOf b ∧ numOf b ≤ 65536 := by unfold numOf; split <;> omega

def wrapB (h n : Int) : List Int := if (1 ≤ h ∧ h ≤ 65536) ∧ 0 ≤ n ∧ n ≤ 1200 then numB h ++ List.replicate (n + 12).toNat 0 else []

/-- Number, length, ok. -/
def unwrap (b : List Int) : Int × Int × Bool :=
  if 16 ≤ b.length ∧ b.length ≤ 1216 ∧ numOf (b.take 4) ≠ 0 ∧ (∀ x ∈ b.drop 4, x = 0) then (numOf (b.take 4), (b.length : Int) - 16, true) else (0, 0, false)
end Go.Proofs.Ytoelbhmgmlnieaa
