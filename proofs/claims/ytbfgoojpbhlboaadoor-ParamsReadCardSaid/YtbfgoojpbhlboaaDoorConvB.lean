/- Bytes as a text, and back. No condition. -/
import Derived.Test.YtbfgoojpbhlboaaDoorBase
import Derived.Test.YtbfgoojpbhlboaaDoorPureIdeal
import Derived.Laws.BytesArg
set_option linter.unusedVariables false
set_option linter.unusedSimpArgs false
namespace Go.Proofs.YtbfgoojpbhlboaaDoor
open Go Go.RowKit

theorem strOfNums_inj {xs ys : List Int} (hx : Byt xs) (hy : Byt ys) (h : strOfNums xs = strOfNums ys) : xs = ys := by
  have h1 : (xs.map fun n => UInt8.ofNat n.toNat) = ys.map fun n => UInt8.ofNat n.toNat := by
    have := congrArg (fun b : ByteArray => b.data.toList) h
    simpa [strOfNums] using this
  have hl : xs.length = ys.length := by simpa using congrArg List.length h1
  apply List.ext_getElem hl
  intro i h2 h3
  have h4 := congrArg (fun l => l[i]?) h1
  simp only [List.getElem?_map, List.getElem?_eq_getElem h2, List.getElem?_eq_getElem h3, Option.map_some, Option.some.injEq] at h4
  have a := hx _ (List.getElem_mem h2)
  have b := hy _ (List.getElem_mem h3)
  have h5 := congrArg UInt8.toNat h4
  simp at h5
  omega

theorem str_beq (a b : ByteArray) : (a.toList == b.toList) = decide (a = b) := by
  rw [ByteArray.toList_eq, ByteArray.toList_eq]
  by_cases h : a = b
  · subst h; simp
  · rw [decide_eq_false h]
    cases hq : (a.data.toList == b.data.toList) with
    | false => rfl
    | true =>
      exfalso; apply h
      have := eq_of_beq hq
      cases a; cases b; simp at this; simp [this]
theorem run_bytes_string {B' : Nat} {A : Option Addr} {n c : Nat} {xs : List Int} {w : World} (hr : Rds B' w .u8 A n c xs) : (convert 22 9 (.slice A n c)).run Tryd.prog w = .ok (.string (strOfNums xs)) w := by
  have hl := hr.len
  by_cases h0 : n = 0
  · subst h0
    have : xs = [] := List.eq_nil_of_length_eq_zero hl
    subst this
    cases A with
    | none => exact run_convert_bytes_nil w 22 5 Tryd.underlying22 Tryd.underlying5 0 c 9 Tryd.underlying9
    | some a =>
      rw [run_convert_bytes_string w 22 9 5 _ 0 c Tryd.underlying22 Tryd.underlying5 Tryd.underlying9]
      simp [Conv.bytesToString, loadCells, loadCellsFrom, strOfNums]
      rfl
  · obtain ⟨b, o, rfl, hc⟩ := hr.cell.at_ (by omega)
    exact run_convert_bytes_arg w 22 5 Tryd.underlying22 Tryd.underlying5 b o n c xs hl (fun i hi => hc i (by omega)) 9 Tryd.underlying9
end Go.Proofs.YtbfgoojpbhlboaaDoor
