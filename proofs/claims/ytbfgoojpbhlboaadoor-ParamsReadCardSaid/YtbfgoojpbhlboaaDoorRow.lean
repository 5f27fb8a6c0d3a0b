/- How arguments that read as data stand in memory. No condition. -/
import Derived.Test.YtbfgoojpbhlboaaDoorLib
import Derived.Test.YtbfgoojpbhlboaaDoorPureIdeal
import Derived.Test.YtbfgoojpbhlboaaDoorRows
import Derived.WalkKit
import Derived.ProofKit
import Derived.OpenShut
import Derived.ShutString
import Derived.ChangeOld
import Derived.Below
set_option linter.unusedVariables false
set_option linter.unusedSimpArgs false
namespace Go.Proofs.YtbfgoojpbhlboaaDoor
open Go Go.RowKit Go.ChangeShapes Go.WideShapes Go.ChangeAt
open Go.ChangeMaps (open_string shut_string)

theorem row_own : ownKnob Tryd.prog.godebug = none := by kernel_rfl
theorem row_laidOut : laidOutB Tryd.prog = true := by kernel_rfl

theorem wf_u8 {x : Int} (h : (Lit.int .u8 x).wf = true) : 0 ≤ x ∧ x ≤ 255 := by
  exact bounds_u8 h

/-- A []byte argument. -/
theorem open_bytes {H : Type} {enc : TypeId × Value → H} {w : World} {base : Nat} {a : Option Addr} {len cap : Nat} {d : DataW H} {p : List MemPlace}
    (h : DataW.Trod enc Tryd.prog w base (fun _ => true) true 22 (.slice a len cap) d p) : ∃ xs, Rds w.heap.size w .u8 a len cap xs ∧ Byt xs := by
  obtain ⟨fuel, hf⟩ := h
  rcases open_ints Tryd.underlying22 Tryd.underlying5 (by kernel_rfl) hf with ⟨hcs, _⟩ | ⟨x, l, c, zs, hcs, _, hl, hm, hz, _, hcell, hwz⟩
  · simp [Value.cells] at hcs
    obtain ⟨rfl, rfl, rfl⟩ := hcs
    exact ⟨[], Rds.nil _ _ _, fun x hx => by simp at hx⟩
  · simp [Value.cells] at hcs
    obtain ⟨rfl, rfl, rfl⟩ := hcs
    have hz' : zs.length = cap := by simpa using hz
    have hn : ∀ j, j < len → nth (zs.take len) j = zs.getD j 0 := fun j hj => by rw [nth_take hj]; rfl
    refine ⟨zs.take len, ⟨by simp; omega, hl, by simpa only [maxLen] using hm, fun j hj => ?_, fun p a e => ?_⟩, fun y hy => wf_u8 (hwz y (List.mem_of_mem_take hy))⟩
    · have hj' : j < len := by simp at hj; omega
      refine ⟨_, rfl, ?_⟩
      rw [hn j hj']
      exact hcell j (by omega)
    · cases e
      have h0 := hcell 0 (by omega)
      have := World.block_lt_of_cell? _ _ h0
      rw [add_block] at this
      exact ⟨this, .inl this⟩
end Go.Proofs.YtbfgoojpbhlboaaDoor
