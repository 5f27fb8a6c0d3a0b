/- Look at a term that is there. No condition. -/
import Derived.Test.YtomopjpfdmpgpaaTerm3
set_option linter.unusedVariables false
namespace Go.Proofs.Ytomopjpfdmpgpaa
open Go Go.RowKit

theorem look_node {B tb : Nat} {T : List Nd} (h : Int) (n : Nd) (w : World) (ht : IsTab B w tb T) (e : getT T h = some n) :
    Calls Try.prog 57 #[.pointer (some ⟨tb, 0, none⟩), .int .i64 h] w fun e w' => ∃ A c, e = .returned (.tuple #[.agg #[.int .i64 n.kind, .string n.text, .slice A n.parts.length c], .bool true]) ∧ OwnI w' w.heap.size .i64 (.slice A n.parts.length c) n.parts ∧ Below w.heap.size w w' := by
  have hr := getT_range e
  have := ht.1.len
  refine (look_any h w ht (by omega) (by omega)).mono ?_
  rintro e' w' ⟨A, c, rfl, ho, hb⟩
  have h1 : nodeT T h = n := by unfold nodeT; rw [e]; rfl
  have h2 : (getT T h).isSome = true := by rw [e]; rfl
  rw [h1] at ho
  rw [h1, h2]
  exact ⟨A, c, rfl, ho, hb⟩
theorem strOfNums_inj {xs ys : List Int} (hx : Byt xs) (hy : Byt ys) (h : strOfNums xs = strOfNums ys) : xs = ys := by
  have h1 : (xs.map fun n => UInt8.ofNat n.toNat) = ys.map fun n => UInt8.ofNat n.toNat := by
    have := congrArg (fun b : ByteArray => b.data.toList) h
    simpa [strOfNums] using this
  have hl : xs.length = ys.length := by simpa using congrArg List.length h1
  apply List.ext_getElem hl
  intro i h2 h3
  have h4 := congrArg (fun l => l[i]?) h1
  simp only [List.getElem?_map, List.getElem?_eq_getElem h2, List.getElem?_eq_getElem h3, Option.map_some, Option.some.injEq] at h4
  have a := hx _ (List.getElem_mem h2)
  have b := hy _ (List.getElem_mem h3)
  have h5 := congrArg UInt8.toNat h4
  simp at h5
  omega

theorem two_parts {w : World} {B : Nat} {A : Option Addr} {c : Nat} {p q : Int} (h : OwnI w B .i64 (.slice A 2 c) [p, q]) : ∃ g, A = some ⟨g, 0, none⟩ ∧ g < w.heap.size ∧ w.cell? ⟨g, 0, none⟩ = some (.int .i64 p) ∧ w.cell? ⟨g, 1, none⟩ = some (.int .i64 q) := by
  obtain ⟨g, cap, q1, -, q3, -, q5, -⟩ := h.form (by simp)
  simp only [Value.slice.injEq] at q1
  obtain ⟨rfl, -, -⟩ := q1
  exact ⟨g, rfl, q3, q5 0 (by simp), q5 1 (by simp)⟩
end Go.Proofs.Ytomopjpfdmpgpaa
