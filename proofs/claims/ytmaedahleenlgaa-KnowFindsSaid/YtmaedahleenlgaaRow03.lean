/- A row of ints as an argument. No condition. -/
import Derived.Test.YtmaedahleenlgaaRow2
set_option linter.unusedVariables false
namespace Go.Proofs.Ytmaedahleenlgaa
open Go Go.RowKit Go.ChangeShapes Go.WideShapes Go.ChangeAt

def IntsArg (w : World) (A : Option Addr) (n c : Nat) : Prop := ∃ xs, Rds w.heap.size w .i64 A n c xs ∧ I64 xs
theorem open_ints3 {H : Type} {enc : TypeId × Value → H} {w : World} {base : Nat} {a : Option Addr} {len cap : Nat} {d : DataW H} {p : List MemPlace}
    (h : DataW.Trod enc Try.prog w base (fun _ => true) true 23 (.slice a len cap) d p) : IntsArg w a len cap := by
  obtain ⟨fuel, hf⟩ := h
  rcases open_ints Try.underlying23 Try.underlying3 (by kernel_rfl) hf with ⟨hcs, _⟩ | ⟨x, l, c, zs, hcs, _, hl, hm, hz, _, hcell, hwz⟩
  · simp [Value.cells] at hcs
    obtain ⟨rfl, rfl, rfl⟩ := hcs
    exact ⟨[], Rds.nil _ _ _, fun x hx => by simp at hx⟩
  · simp [Value.cells] at hcs
    obtain ⟨rfl, rfl, rfl⟩ := hcs
    have hz' : zs.length = cap := by simpa using hz
    have hn : ∀ j, j < len → nth (zs.take len) j = zs.getD j 0 := fun j hj => by rw [nth_take hj]; rfl
    refine ⟨zs.take len, ⟨by simp; omega, hl, by simpa only [maxLen] using hm, fun j hj => ?_, fun p a e => ?_⟩, fun y hy => wf_i64 (hwz y (List.mem_of_mem_take hy))⟩
    · have hj' : j < len := by simp at hj; omega
      refine ⟨_, rfl, ?_⟩
      rw [hn j hj']
      exact hcell j (by omega)
    · cases e
      have h0 := hcell 0 (by omega)
      have := World.block_lt_of_cell? _ _ h0
      rw [add_block] at this
      exact ⟨this, .inl this⟩
end Go.Proofs.Ytmaedahleenlgaa
