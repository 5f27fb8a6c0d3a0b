/- Plain: bytes behind their length. No condition. -/
import Derived.Test.YtbfgoojpbhlboaaDoorPureParams
set_option linter.unusedVariables false
set_option linter.unusedSimpArgs false
namespace Go.Proofs.YtbfgoojpbhlboaaDoor
open Go Go.RowKit

/-- Bytes behind their length, what stands behind them, an error's number. -/
def takeV (xs : List Int) : List Int × List Int × Int :=
  if (readV xs).2.2 ≠ 0 then ([], [], (readV xs).2.2)
  else if (xs.length : Int) - (readV xs).2.1 < (readV xs).1 then ([], [], 2)
  else ((xs.drop (readV xs).2.1).take (readV xs).1.toNat, xs.drop ((readV xs).2.1 + (readV xs).1.toNat), 0)
theorem takeV_err {xs : List Int} (h : (readV xs).2.2 ≠ 0) : takeV xs = ([], [], (readV xs).2.2) := if_pos h
theorem takeV_short {xs : List Int} (h : (readV xs).2.2 = 0) (h1 : (xs.length : Int) - (readV xs).2.1 < (readV xs).1) : takeV xs = ([], [], 2) := by
  unfold takeV; rw [if_neg (by simp [h]), if_pos h1]
theorem takeV_ok {xs : List Int} (h : (readV xs).2.2 = 0) (h1 : ¬ (xs.length : Int) - (readV xs).2.1 < (readV xs).1) : takeV xs = ((xs.drop (readV xs).2.1).take (readV xs).1.toNat, xs.drop ((readV xs).2.1 + (readV xs).1.toNat), 0) := by
  unfold takeV; rw [if_neg (by simp [h]), if_neg h1]
theorem byt_take {xs : List Int} (h : Byt xs) (n : Nat) : Byt (xs.take n) := fun x hx => h x (List.mem_of_mem_take hx)
theorem byt_drop {xs : List Int} (h : Byt xs) (n : Nat) : Byt (xs.drop n) := fun x hx => h x (List.mem_of_mem_drop hx)
theorem takeV_byt {xs : List Int} (h : Byt xs) : Byt (takeV xs).1 ∧ Byt (takeV xs).2.1 := by
  unfold takeV
  split
  · exact ⟨fun x hx => by simp at hx, fun x hx => by simp at hx⟩
  · split
    · exact ⟨fun x hx => by simp at hx, fun x hx => by simp at hx⟩
    · exact ⟨byt_take (byt_drop h _) _, byt_drop h _⟩
theorem takeV_giveB (nm r : List Int) (h : nm.length ≤ 4611686018427387903) : takeV (giveB nm ++ r) = (nm, r, 0) := by
  have hs : sizeV (nm.length : Int) ≠ 0 := sizeV_pos.2 ⟨by omega, by omega⟩
  have e : readV (giveB nm ++ r) = ((nm.length : Int), sizeV nm.length, 0) := by
    unfold giveB
    rw [List.append_assoc]
    exact readV_varB hs _
  have hl : (giveB nm ++ r).length = sizeV (nm.length : Int) + nm.length + r.length := by simp [giveB, varB_len]; omega
  rw [takeV_ok (by rw [e]) (by rw [e, hl]; simp only; omega), e]
  simp only [Int.toNat_natCast]
  have e2 : giveB nm ++ r = varB (nm.length : Int) ++ (nm ++ r) := by unfold giveB; rw [List.append_assoc]
  have e3 : (giveB nm ++ r).drop (sizeV (nm.length : Int)) = nm ++ r := by rw [e2, ← varB_len, List.drop_left]
  rw [e3, ← List.drop_drop, e3]
  simp
end Go.Proofs.YtbfgoojpbhlboaaDoor
