/- A slice of slices of bytes that came in. No condition. -/
import Derived.Test.YtomopjpfdmpgpaaRow2
import Derived.Test.YtomopjpfdmpgpaaConcat
set_option linter.unusedVariables false
set_option linter.unusedSimpArgs false
namespace Go.Proofs.Ytomopjpfdmpgpaa
open Go Go.RowKit Go.ChangeShapes Go.WideShapes Go.ChangeAt

/-- The slice A, n holds the rows L. -/
def RdRows (B : Nat) (w : World) (A : Option Addr) (n : Nat) (L : List (List Int)) : Prop := L.length = n ∧ (0 < n → ∃ b o, A = some ⟨b, o, none⟩ ∧ RdL B w b o L)
theorem RdRows.below {B : Nat} {w w' : World} {A : Option Addr} {n : Nat} {L : List (List Int)} (h : RdRows B w A n L) (hb : Below w.heap.size w w') : RdRows B w' A n L :=
  ⟨h.1, fun h0 => by obtain ⟨b, o, e, hl⟩ := h.2 h0; exact ⟨b, o, e, hl.below hb⟩⟩
theorem RdRows.at_ {B : Nat} {w : World} {A : Option Addr} {n : Nat} {L : List (List Int)} (h : RdRows B w A n L) {i : Nat} {xs : List Int} (e : L[i]? = some xs) : ∃ b o A' c', A = some ⟨b, o, none⟩ ∧ w.cell? ⟨b, o + i, none⟩ = some (.slice A' xs.length c') ∧ Rds B w .u8 A' xs.length c' xs := by
  have hl := (List.getElem?_eq_some_iff.1 e).1
  obtain ⟨b, o, rfl, hL⟩ := h.2 (by have := h.1; omega)
  obtain ⟨A', c', h1, h2⟩ := hL.2 i xs e
  exact ⟨b, o, A', c', rfl, h1, h2⟩
theorem cells_rows : Try.prog.cellsOf 22 = 1 := by kernel_rfl
theorem cells_bytes : Try.prog.cellsOf 5 = 1 := by kernel_rfl
theorem open_rows {H : Type} {enc : TypeId × Value → H} {w : World} {base : Nat} {a : Option Addr} {len cap : Nat} {d : DataW H} {p : List MemPlace}
    (h : DataW.Trod enc Try.prog w base (fun _ => true) true 50 (.slice a len cap) d p) : ∃ L, RdRows w.heap.size w a len L ∧ ∀ xs ∈ L, Byt xs := by
  obtain ⟨fuel, hf⟩ := h
  rcases Deep.open_slice1 Try.underlying50 cells_rows hf with ⟨hcs, _⟩ | ⟨ad, l, c, m, n, V, D, Pl, hcs, _, hl, hm, hmm, _, hi⟩
  · simp [Value.cells] at hcs
    obtain ⟨rfl, rfl, rfl⟩ := hcs
    exact ⟨[], ⟨rfl, fun h => by omega⟩, fun xs h => by simp at h⟩
  · simp [Value.cells] at hcs
    obtain ⟨rfl, rfl, rfl⟩ := hcs
    have hm' : m = cap := by simpa using hmm
    subst hm'
    have hsp : 0 < len → ad.spot = none := fun h0 => by
      have := (hi 0 (by omega)).1
      unfold World.cell? Addr.add at this
      cases hs : ad.spot with
      | none => rfl
      | some s => simp [hs] at this; split at this <;> simp at this
    have key : ∀ i, i < len → ∃ xs : List Int, ∃ b o A' c', ad = ⟨b, o, none⟩ ∧ b < w.heap.size ∧ w.cell? ⟨b, o + i, none⟩ = some (.slice A' xs.length c') ∧ Rds w.heap.size w .u8 A' xs.length c' xs ∧ Byt xs := by
      intro i hil
      obtain ⟨hc, ht⟩ := hi i (by omega)
      obtain ⟨A', c', xs, hv, hr, hw⟩ := cell_rds Try.underlying22 Try.underlying5 cells_bytes ht
      have hs := hsp (by omega)
      obtain ⟨b, o, sp⟩ := ad
      obtain rfl : sp = none := hs
      rw [addr_add, hv] at hc
      exact ⟨xs, b, o, A', c', rfl, World.block_lt_of_cell? _ _ hc, hc, hr, fun x hx => wf_byte (hw x hx)⟩
    obtain ⟨S, hS⟩ := Deep.choose_lt key
    refine ⟨(List.range len).map S, ⟨by simp, fun h => ?_⟩, fun xs h => ?_⟩
    · obtain ⟨b, o, A', c', rfl, hb, _⟩ := hS 0 h
      refine ⟨b, o, rfl, hb, fun i xs e => ?_⟩
      have hil : i < len := by have := (List.getElem?_eq_some_iff.1 e).1; simpa using this
      rw [List.getElem?_map, List.getElem?_range hil] at e
      obtain rfl : S i = xs := by simpa using e
      obtain ⟨b', o', A2, c2, e2, _, h1, h2, _⟩ := hS i hil
      cases e2
      exact ⟨A2, c2, h1, h2⟩
    · obtain ⟨i, hi', rfl⟩ := List.mem_map.1 h
      obtain ⟨_, _, _, _, _, _, _, _, hb⟩ := hS i (List.mem_range.1 hi')
      exact hb
end Go.Proofs.Ytomopjpfdmpgpaa
