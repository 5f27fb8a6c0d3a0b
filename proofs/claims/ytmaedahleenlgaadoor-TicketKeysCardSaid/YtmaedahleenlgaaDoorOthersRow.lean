/- A ticket of the reference as an argument, with its numbers' bounds, and TicketOthers' walk for it. No condition. -/
import Derived.Test.YtmaedahleenlgaaDoorRow17
import Derived.Test.YtmaedahleenlgaaDoorTicketOthers
set_option linter.unusedVariables false
set_option linter.unusedSimpArgs false
namespace Go.Proofs.YtmaedahleenlgaaDoor
open Go Go.RowKit Go.ChangeShapes Go.WideShapes Go.ChangeAt

def Tk3ArgF (v : Value) : Prop := ∃ a b c, v = .agg #[.int .i64 a, .int .i64 b, .int .i64 c] ∧ Fit b
set_option maxRecDepth 100000 in
theorem open_tkf {H : Type} {enc : TypeId × Value → H} {w : World} {r : Reach} {b0 base : Nat} {v : Value} {d : DataW H} {p : List MemPlace} (hv : Value.okWide Tryd.prog w r b0 58 v)
    (h : DataW.Trod enc Tryd.prog w base (fun _ => true) true 58 v d p) : Tk3ArgF v := by
  obtain ⟨fs, hu, hone, hC, f0, f1, f2, hsz⟩ := under_tk17
  obtain ⟨cs, rfl, hl, hf⟩ := agg_fields hu hone hC hv h
  obtain ⟨g0, j0, k0⟩ := Option.map_eq_some_iff.1 f0
  obtain ⟨g1, j1, k1⟩ := Option.map_eq_some_iff.1 f1
  obtain ⟨g2, j2, k2⟩ := Option.map_eq_some_iff.1 f2
  obtain ⟨u0, y0, n0, e0, t0⟩ := hf 0 _ j0
  obtain ⟨u1, y1, n1, e1, t1⟩ := hf 1 _ j1
  obtain ⟨u2, y2, n2, e2, t2⟩ := hf 2 _ j2
  rw [k0] at t0
  rw [k1] at t1
  rw [k2] at t2
  obtain ⟨a, rfl, -⟩ := cell_i64 Tryd.underlying3 t0
  obtain ⟨b, rfl, wb⟩ := cell_i64 Tryd.underlying3 t1
  obtain ⟨c, rfl, -⟩ := cell_i64 Tryd.underlying3 t2
  exact ⟨a, b, c, by rw [arr3 (hl.trans hsz) e0 e1 e2], wb⟩
end Go.Proofs.YtmaedahleenlgaaDoor
