/- A token of the reference, and an ask, as arguments. No condition. -/
import Derived.Test.YtmaedahleenlgaaDoorRow2
import Derived.Test.YtmaedahleenlgaaDoorToken5
set_option linter.unusedVariables false
set_option linter.unusedSimpArgs false
namespace Go.Proofs.YtmaedahleenlgaaDoor
open Go Go.RowKit Go.ChangeShapes Go.WideShapes Go.ChangeAt

def TokArg (w : World) (v : Value) : Prop := ∃ x A c, v = TokV x A c ∧ Rds w.heap.size w .u8 A x.name.length c x.name ∧ Byt x.name
theorem arr4 {cs : Array Value} {a b c d : Value} (h : cs.size = 4) (h0 : cs[0]? = some a) (h1 : cs[1]? = some b) (h2 : cs[2]? = some c) (h3 : cs[3]? = some d) : cs = #[a, b, c, d] := by
  obtain ⟨l⟩ := cs
  match l, h with
  | [x, y, z, u], _ => simp at h0 h1 h2 h3; rw [h0, h1, h2, h3]
theorem under_tk16 : ∃ fs : Array Field, Tryd.prog.underlying 24 = some (.struct fs) ∧ Deep.oneCellFields Tryd.prog fs = true ∧ Tryd.prog.cellsOf 24 = fs.size ∧ fs[0]?.map (·.type) = some 4 ∧ fs[1]?.map (·.type) = some 3 ∧ fs[2]?.map (·.type) = some 3 ∧ fs[3]?.map (·.type) = some 22 ∧ fs.size = 4 :=
  ⟨_, Tryd.underlying24, by kernel_rfl, by kernel_rfl, rfl, rfl, rfl, rfl, rfl⟩
theorem under_ask : ∃ fs : Array Field, Tryd.prog.underlying 26 = some (.struct fs) ∧ Deep.oneCellFields Tryd.prog fs = true ∧ Tryd.prog.cellsOf 26 = fs.size ∧ fs[0]?.map (·.type) = some 3 ∧ fs[1]?.map (·.type) = some 3 ∧ fs[2]?.map (·.type) = some 3 ∧ fs.size = 3 :=
  ⟨_, Tryd.underlying26, by kernel_rfl, by kernel_rfl, rfl, rfl, rfl, rfl⟩
theorem cells_u8_16 : Tryd.prog.cellsOf 5 = 1 := by kernel_rfl
set_option maxRecDepth 100000 in
theorem open_tk16 {H : Type} {enc : TypeId × Value → H} {w : World} {r : Reach} {b0 base : Nat} {v : Value} {d : DataW H} {p : List MemPlace} (hv : Value.okWide Tryd.prog w r b0 24 v)
    (h : DataW.Trod enc Tryd.prog w base (fun _ => true) true 24 v d p) : TokArg w v := by
  obtain ⟨fs, hu, hone, hC, f0, f1, f2, f3, hsz⟩ := under_tk16
  obtain ⟨cs, rfl, hl, hf⟩ := agg_fields hu hone hC hv h
  obtain ⟨g0, j0, k0⟩ := Option.map_eq_some_iff.1 f0
  obtain ⟨g1, j1, k1⟩ := Option.map_eq_some_iff.1 f1
  obtain ⟨g2, j2, k2⟩ := Option.map_eq_some_iff.1 f2
  obtain ⟨g3, j3, k3⟩ := Option.map_eq_some_iff.1 f3
  obtain ⟨u0, y0, n0, e0, t0⟩ := hf 0 _ j0
  obtain ⟨u1, y1, n1, e1, t1⟩ := hf 1 _ j1
  obtain ⟨u2, y2, n2, e2, t2⟩ := hf 2 _ j2
  obtain ⟨u3, y3, n3, e3, t3⟩ := hf 3 _ j3
  rw [k0] at t0
  rw [k1] at t1
  rw [k2] at t2
  rw [k3] at t3
  obtain ⟨l, rfl⟩ := cell_bool Tryd.underlying4 t0
  obtain ⟨a, rfl, -⟩ := cell_i64 Tryd.underlying3 t1
  obtain ⟨b, rfl, -⟩ := cell_i64 Tryd.underlying3 t2
  obtain ⟨A, c, xs, rfl, hr, hb⟩ := cell_rds Tryd.underlying22 Tryd.underlying5 cells_u8_16 t3
  exact ⟨⟨l, a, b, xs⟩, A, c, by rw [arr4 (hl.trans hsz) e0 e1 e2 e3]; rfl, hr, fun y hy => wf_byte (hb y hy)⟩
def AskArg (v : Value) : Prop := ∃ a b c, v = .agg #[.int .i64 a, .int .i64 b, .int .i64 c]
set_option maxRecDepth 100000 in
theorem open_ask {H : Type} {enc : TypeId × Value → H} {w : World} {r : Reach} {b0 base : Nat} {v : Value} {d : DataW H} {p : List MemPlace} (hv : Value.okWide Tryd.prog w r b0 26 v)
    (h : DataW.Trod enc Tryd.prog w base (fun _ => true) true 26 v d p) : AskArg v := by
  obtain ⟨fs, hu, hone, hC, f0, f1, f2, hsz⟩ := under_ask
  obtain ⟨cs, rfl, hl, hf⟩ := agg_fields hu hone hC hv h
  obtain ⟨g0, j0, k0⟩ := Option.map_eq_some_iff.1 f0
  obtain ⟨g1, j1, k1⟩ := Option.map_eq_some_iff.1 f1
  obtain ⟨g2, j2, k2⟩ := Option.map_eq_some_iff.1 f2
  obtain ⟨u0, y0, n0, e0, t0⟩ := hf 0 _ j0
  obtain ⟨u1, y1, n1, e1, t1⟩ := hf 1 _ j1
  obtain ⟨u2, y2, n2, e2, t2⟩ := hf 2 _ j2
  rw [k0] at t0
  rw [k1] at t1
  rw [k2] at t2
  obtain ⟨a, rfl, -⟩ := cell_i64 Tryd.underlying3 t0
  obtain ⟨b, rfl, -⟩ := cell_i64 Tryd.underlying3 t1
  obtain ⟨c, rfl, -⟩ := cell_i64 Tryd.underlying3 t2
  exact ⟨a, b, c, by rw [arr3 (hl.trans hsz) e0 e1 e2]⟩
end Go.Proofs.YtmaedahleenlgaaDoor
