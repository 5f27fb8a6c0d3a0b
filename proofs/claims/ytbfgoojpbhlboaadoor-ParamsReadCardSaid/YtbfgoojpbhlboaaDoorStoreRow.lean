/- A whole value stored over a block. No condition. -/
import Derived.Test.YtbfgoojpbhlboaaDoorLib
set_option linter.unusedVariables false
namespace Go.Proofs.YtbfgoojpbhlboaaDoor
open Go Go.RowKit

/-- A whole value is stored over a block: the walk's step. -/
theorem wp_store_row {P : Program} {w : World} {ops : Array Oper} {rest : List Oper} {o : Oper} {a : Act} {Q : Exit → Act → World → Prop} (hgd : o.guard = none) (hdst : o.dst = none) (ty : Nat) (x y : Operand) (ho : o.op = .store ty x y) (g : Nat) (cur cs : Array Value) (t : Nat) (hx : a.eval x = .pointer (some ⟨g, 0, none⟩)) (hy : a.eval y = .agg cs)
    (hs : (P.info? ty).map (·.size) = some cs.size) (hg : w.heap[g]? = some (.cells cur t (0, 0))) (hc : cur.size = cs.size) (h1 : ∀ v ∈ cs.toList, v.oneCell' = true)
    (h : wpList P ops Q rest a (w.setRow g cs)) : wpList P ops Q (o :: rest) a w := by
  have hrun := run_storeAt_row (P := P) ty g cur cs t hs hg hc h1
  refine wp_op_skip hgd ?_ (by rw [hdst]; exact h)
  unfold execOp
  simp only [ho, hx, hy, Sem.run_bind, hrun, Result.andThen_ok, Sem.run_pure]

end Go.Proofs.YtbfgoojpbhlboaaDoor
