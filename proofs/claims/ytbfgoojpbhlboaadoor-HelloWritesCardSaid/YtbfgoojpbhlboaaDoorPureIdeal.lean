/- Plain: the four bytes of a number, the number of four bytes, what is wrapped, what is unwrapped (layer 4). No condition. -/
import Derived.Test.YtbfgoojpbhlboaaDoorLib
set_option linter.unusedVariables false
set_option linter.unusedSimpArgs false
namespace Go.Proofs.YtbfgoojpbhlboaaDoor
open Go Go.RowKit

/-- All are bytes. -/
def Byt (xs : List Int) : Prop := ∀ x ∈ xs, 0 ≤ x ∧ x ≤ 255
theorem Byt.nth {xs : List Int} (h : Byt xs) (j : Nat) : 0 ≤ nth xs j ∧ nth xs j ≤ 255 := by
  by_cases hj : j < xs.length
  · exact h _ (nth_mem hj)
  · simp [Go.Proofs.YtbfgoojpbhlboaaDoor.nth, List.getElem?_eq_none (show xs.length ≤ j by omega)]
theorem Byt.append {xs ys : List Int} (h : Byt xs) (k : Byt ys) : Byt (xs ++ ys) := fun x hx => by
  rcases List.mem_append.1 hx with hx | hx
  · exact h x hx
  · exact k x hx
theorem Byt.drop {xs : List Int} (h : Byt xs) (n : Nat) : Byt (xs.drop n) := fun x hx => h x (List.mem_of_mem_drop hx)
theorem Byt.take {xs : List Int} (h : Byt xs) (n : Nat) : Byt (xs.take n) := fun x hx => h x (List.mem_of_mem_take hx)

def numB (h : Int) : List Int := if 1 ≤ h ∧ h ≤ 65536 then [0, h / 65536, h / 256 % 256, h % 256] else []
theorem numB_yes {h : Int} (h0 : 1 ≤ h) (h1 : h ≤ 65536) : numB h = [0, h / 65536, h / 256 % 256, h % 256] := if_pos ⟨h0, h1⟩
theorem numB_no {h : Int} (h0 : ¬(1 ≤ h ∧ h ≤ 65536)) : numB h = [] := if_neg h0
theorem numB_byt (h : Int) : Byt (numB h) := by
  unfold numB
  split
  · intro x hx
    simp at hx
    omega
  · intro x hx; simp at hx

def be4 (b : List Int) : Int := nth b 0 * 16777216 + nth b 1 * 65536 + nth b 2 * 256 + nth b 3
def numOf (b : List Int) : Int := if b.length = 4 ∧ 1 ≤ be4 b ∧ be4 b ≤ 65536 then be4 b else 0
theorem numOf_len {b : List Int} (h : b.length ≠ 4) : numOf b = 0 := if_neg (fun x => h x.1)
theorem numOf_range (b : List Int) : 0 ≤ numOf b ∧ numOf b ≤ 65536 := by unfold numOf; split <;> omega

def wrapB (h n : Int) : List Int := if (1 ≤ h ∧ h ≤ 65536) ∧ 0 ≤ n ∧ n ≤ 1200 then numB h ++ List.replicate (n + 12).toNat 0 else []

/-- Number, length, ok. -/
def unwrap (b : List Int) : Int × Int × Bool :=
  if 16 ≤ b.length ∧ b.length ≤ 1216 ∧ numOf (b.take 4) ≠ 0 ∧ (∀ x ∈ b.drop 4, x = 0) then (numOf (b.take 4), (b.length : Int) - 16, true) else (0, 0, false)

theorem numOf_numB {h : Int} (h0 : 1 ≤ h) (h1 : h ≤ 65536) : numOf (numB h) = h := by
  rw [numB_yes h0 h1]
  simp [numOf, be4, nth]
  omega
theorem wrap_take {h n : Int} (k : (1 ≤ h ∧ h ≤ 65536) ∧ 0 ≤ n ∧ n ≤ 1200) : (wrapB h n).take 4 = numB h := by
  unfold wrapB
  rw [if_pos k, numB_yes k.1.1 k.1.2]
  rfl
theorem wrap_drop {h n : Int} (k : (1 ≤ h ∧ h ≤ 65536) ∧ 0 ≤ n ∧ n ≤ 1200) : (wrapB h n).drop 4 = List.replicate (n + 12).toNat 0 := by
  unfold wrapB
  rw [if_pos k, numB_yes k.1.1 k.1.2]
  rfl
theorem wrap_len {h n : Int} (k : (1 ≤ h ∧ h ≤ 65536) ∧ 0 ≤ n ∧ n ≤ 1200) : (wrapB h n).length = n.toNat + 16 := by
  unfold wrapB
  rw [if_pos k, numB_yes k.1.1 k.1.2]
  simp
  omega
theorem wrap_byt (h n : Int) : Byt (wrapB h n) := by
  unfold wrapB
  split
  · exact (numB_byt h).append fun x hx => by rw [List.eq_of_mem_replicate hx]; decide
  · intro x hx; simp at hx
theorem unwrap_wrap {h n : Int} (k : (1 ≤ h ∧ h ≤ 65536) ∧ 0 ≤ n ∧ n ≤ 1200) : unwrap (wrapB h n) = (h, n, true) := by
  unfold unwrap
  rw [wrap_take k, wrap_drop k, wrap_len k, numOf_numB k.1.1 k.1.2, if_pos ⟨by omega, by omega, by omega, fun x hx => List.eq_of_mem_replicate hx⟩]
  simp
  omega
theorem unwrap_spoilt {h n : Int} (k : (1 ≤ h ∧ h ≤ 65536) ∧ 0 ≤ n ∧ n ≤ 1200) {j : Nat} (h4 : 4 ≤ j) (hj : j < n.toNat + 16) : (unwrap ((wrapB h n).set j 1)).2.2 = false := by
  unfold unwrap
  rw [if_neg]
  intro hh
  have hl := wrap_len k
  have e : (((wrapB h n).set j 1).drop 4)[j - 4]? = some 1 := by
    rw [List.getElem?_drop, show 4 + (j - 4) = j from by omega, List.getElem?_set_self (by omega)]
  have := hh.2.2.2 1 (List.mem_of_getElem? e)
  omega
theorem unwrap_short {h n : Int} (k : (1 ≤ h ∧ h ≤ 65536) ∧ 0 ≤ n ∧ n ≤ 1200) : unwrap ((wrapB h n).take (n.toNat + 15)) = if 0 < n then (h, n - 1, true) else (0, 0, false) := by
  unfold unwrap
  rw [List.take_take, show min 4 (n.toNat + 15) = 4 from by omega, wrap_take k, List.drop_take, wrap_drop k, List.length_take, wrap_len k, numOf_numB k.1.1 k.1.2]
  by_cases h0 : 0 < n
  · rw [if_pos h0, if_pos ⟨by omega, by omega, by omega, fun x hx => List.eq_of_mem_replicate (List.mem_of_mem_take hx)⟩]
    simp
    omega
  · rw [if_neg h0, if_neg (by omega)]
end Go.Proofs.YtbfgoojpbhlboaaDoor
