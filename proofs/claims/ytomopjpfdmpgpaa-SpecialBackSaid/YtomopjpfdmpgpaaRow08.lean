/- How the arguments of the laws of layer 8 stand in memory. No condition. -/
import Derived.Test.YtomopjpfdmpgpaaRow2
set_option linter.unusedVariables false
set_option linter.unusedSimpArgs false
namespace Go.Proofs.Ytomopjpfdmpgpaa
open Go Go.RowKit Go.ChangeShapes Go.WideShapes Go.ChangeAt

def ListArg (w : World) (v : Value) : Prop := ∃ A1 c1 A2 c2 A3 c3 ts fr vs, v = .agg #[.slice A1 (List.length (α := Int) ts) c1, .slice A2 (List.length (α := Int) fr) c2, .slice A3 (List.length (α := Int) vs) c3] ∧
  Rds w.heap.size w .u8 A1 ts.length c1 ts ∧ Byt ts ∧ Rds w.heap.size w .u8 A2 fr.length c2 fr ∧ Byt fr ∧ Rds w.heap.size w .i64 A3 vs.length c3 vs ∧ I64 vs
theorem under_list08 : ∃ fs : Array Field, Try.prog.underlying 29 = some (.struct fs) ∧ Deep.oneCellFields Try.prog fs = true ∧ Try.prog.cellsOf 29 = fs.size ∧ fs[0]?.map (·.type) = some 22 ∧ fs[1]?.map (·.type) = some 22 ∧ fs[2]?.map (·.type) = some 23 ∧ fs.size = 3 :=
  ⟨_, Try.underlying29, by kernel_rfl, by kernel_rfl, rfl, rfl, rfl, rfl⟩
theorem cells_u8_08 : Try.prog.cellsOf 5 = 1 := by kernel_rfl
theorem cells_int_08 : Try.prog.cellsOf 3 = 1 := by kernel_rfl
set_option maxRecDepth 100000 in
theorem open_list08 {H : Type} {enc : TypeId × Value → H} {w : World} {r : Reach} {b0 base : Nat} {v : Value} {d : DataW H} {p : List MemPlace} (hv : Value.okWide Try.prog w r b0 29 v)
    (h : DataW.Trod enc Try.prog w base (fun _ => true) true 29 v d p) : ListArg w v := by
  obtain ⟨fs, hu, hone, hC, f0, f1, f2, hsz⟩ := under_list08
  obtain ⟨cs, rfl, hl, hf⟩ := agg_fields hu hone hC hv h
  obtain ⟨g0, j0, k0⟩ := Option.map_eq_some_iff.1 f0
  obtain ⟨g1, j1, k1⟩ := Option.map_eq_some_iff.1 f1
  obtain ⟨g2, j2, k2⟩ := Option.map_eq_some_iff.1 f2
  obtain ⟨u0, y0, n0, e0, t0⟩ := hf 0 _ j0
  obtain ⟨u1, y1, n1, e1, t1⟩ := hf 1 _ j1
  obtain ⟨u2, y2, n2, e2, t2⟩ := hf 2 _ j2
  rw [k0] at t0
  rw [k1] at t1
  rw [k2] at t2
  obtain ⟨A1, c1, ts, rfl, r1, w1⟩ := cell_rds Try.underlying22 Try.underlying5 cells_u8_08 t0
  obtain ⟨A2, c2, fr, rfl, r2, w2⟩ := cell_rds Try.underlying22 Try.underlying5 cells_u8_08 t1
  obtain ⟨A3, c3, vs, rfl, r3, w3⟩ := cell_rds Try.underlying23 Try.underlying3 cells_int_08 t2
  exact ⟨A1, c1, A2, c2, A3, c3, ts, fr, vs, by rw [arr3 (hl.trans hsz) e0 e1 e2], r1, fun x hx => wf_byte (w1 x hx), r2, fun x hx => wf_byte (w2 x hx), r3, fun x hx => wf_i64 (w3 x hx)⟩

def RetryArg (w : World) (v : Value) : Prop := ∃ ver A1 c1 A2 c2 ts fr token tag, v = .agg #[.int .i64 ver, .slice A1 (List.length (α := Int) ts) c1, .slice A2 (List.length (α := Int) fr) c2, .int .i64 token, .int .i64 tag] ∧
  Rds w.heap.size w .u8 A1 ts.length c1 ts ∧ Byt ts ∧ Rds w.heap.size w .u8 A2 fr.length c2 fr ∧ Byt fr ∧ I64 [ver, token, tag]
theorem under_retry08 : ∃ fs : Array Field, Try.prog.underlying 38 = some (.struct fs) ∧ Deep.oneCellFields Try.prog fs = true ∧ Try.prog.cellsOf 38 = fs.size ∧ fs[0]?.map (·.type) = some 3 ∧ fs[1]?.map (·.type) = some 22 ∧ fs[2]?.map (·.type) = some 22 ∧ fs[3]?.map (·.type) = some 3 ∧ fs[4]?.map (·.type) = some 3 ∧ fs.size = 5 :=
  ⟨_, Try.underlying38, by kernel_rfl, by kernel_rfl, rfl, rfl, rfl, rfl, rfl, rfl⟩
set_option maxRecDepth 100000 in
theorem open_retry08 {H : Type} {enc : TypeId × Value → H} {w : World} {r : Reach} {b0 base : Nat} {v : Value} {d : DataW H} {p : List MemPlace} (hv : Value.okWide Try.prog w r b0 38 v)
    (h : DataW.Trod enc Try.prog w base (fun _ => true) true 38 v d p) : RetryArg w v := by
  obtain ⟨fs, hu, hone, hC, f0, f1, f2, f3, f4, hsz⟩ := under_retry08
  obtain ⟨cs, rfl, hl, hf⟩ := agg_fields hu hone hC hv h
  obtain ⟨g0, j0, k0⟩ := Option.map_eq_some_iff.1 f0
  obtain ⟨g1, j1, k1⟩ := Option.map_eq_some_iff.1 f1
  obtain ⟨g2, j2, k2⟩ := Option.map_eq_some_iff.1 f2
  obtain ⟨g3, j3, k3⟩ := Option.map_eq_some_iff.1 f3
  obtain ⟨g4, j4, k4⟩ := Option.map_eq_some_iff.1 f4
  obtain ⟨u0, y0, n0, e0, t0⟩ := hf 0 _ j0
  obtain ⟨u1, y1, n1, e1, t1⟩ := hf 1 _ j1
  obtain ⟨u2, y2, n2, e2, t2⟩ := hf 2 _ j2
  obtain ⟨u3, y3, n3, e3, t3⟩ := hf 3 _ j3
  obtain ⟨u4, y4, n4, e4, t4⟩ := hf 4 _ j4
  rw [k0] at t0
  rw [k1] at t1
  rw [k2] at t2
  rw [k3] at t3
  rw [k4] at t4
  obtain ⟨ver, rfl, w0⟩ := cell_i64 Try.underlying3 t0
  obtain ⟨A1, c1, ts, rfl, r1, w1⟩ := cell_rds Try.underlying22 Try.underlying5 cells_u8_08 t1
  obtain ⟨A2, c2, fr, rfl, r2, w2⟩ := cell_rds Try.underlying22 Try.underlying5 cells_u8_08 t2
  obtain ⟨token, rfl, w3⟩ := cell_i64 Try.underlying3 t3
  obtain ⟨tag, rfl, w4⟩ := cell_i64 Try.underlying3 t4
  exact ⟨ver, A1, c1, A2, c2, ts, fr, token, tag, by rw [arr5 (hl.trans hsz) e0 e1 e2 e3 e4], r1, fun x hx => wf_byte (w1 x hx), r2, fun x hx => wf_byte (w2 x hx), by simp [I64]; omega⟩
end Go.Proofs.Ytomopjpfdmpgpaa
