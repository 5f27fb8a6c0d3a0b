/- Own texts, one behind the other. Each bears its own remark. -/
import Derived.Test.YtbfgoojpbhlboaaDoorRow2
import Derived.Test.YtbfgoojpbhlboaaDoorParAt
import Derived.Test.YtbfgoojpbhlboaaDoorHelOf
/- How the params of the laws of layer 7 stand in memory. No condition. -/
set_option linter.unusedVariables false
set_option linter.unusedSimpArgs false
namespace Go.Proofs.YtbfgoojpbhlboaaDoor
open Go Go.RowKit Go.ChangeShapes Go.WideShapes Go.ChangeAt

theorem arr10 {cs : Array Value} {a b c d e f g h i j : Value} (hs : cs.size = 10) (h0 : cs[0]? = some a) (h1 : cs[1]? = some b) (h2 : cs[2]? = some c) (h3 : cs[3]? = some d) (h4 : cs[4]? = some e) (h5 : cs[5]? = some f) (h6 : cs[6]? = some g) (h7 : cs[7]? = some h) (h8 : cs[8]? = some i) (h9 : cs[9]? = some j) : cs = #[a, b, c, d, e, f, g, h, i, j] := by
  obtain ⟨l⟩ := cs
  match l, hs with
  | [x0, x1, x2, x3, x4, x5, x6, x7, x8, x9], _ => simp at h0 h1 h2 h3 h4 h5 h6 h7 h8 h9; rw [h0, h1, h2, h3, h4, h5, h6, h7, h8, h9]
structure BytP (p : Par) : Prop where
  idle : -9223372036854775808 ≤ p.idle ∧ p.idle ≤ 9223372036854775807
  data : -9223372036854775808 ≤ p.data ∧ p.data ≤ 9223372036854775807
  chosen : -9223372036854775808 ≤ p.chosen ∧ p.chosen ≤ 9223372036854775807
  goal : Byt p.goal
  own : Byt p.own
  retry : Byt p.retry
  vs : I64 p.vs
def ParArg (w : World) (v : Value) : Prop := ∃ p s, v = .agg (parCs p s) ∧ ParAt w.heap.size w p s ∧ BytP p
theorem cells_u8_07 : Tryd.prog.cellsOf 5 = 1 := by kernel_rfl
theorem cells_int_07 : Tryd.prog.cellsOf 3 = 1 := by kernel_rfl
theorem under_par07 : ∃ fs : Array Field, Tryd.prog.underlying 25 = some (.struct fs) ∧ Deep.oneCellFields Tryd.prog fs = true ∧ Tryd.prog.cellsOf 25 = fs.size ∧ fs[0]?.map (·.type) = some 3 ∧ fs[1]?.map (·.type) = some 3 ∧ fs[2]?.map (·.type) = some 4 ∧ fs[3]?.map (·.type) = some 4 ∧ fs[4]?.map (·.type) = some 4 ∧ fs[5]?.map (·.type) = some 22 ∧ fs[6]?.map (·.type) = some 22 ∧ fs[7]?.map (·.type) = some 22 ∧ fs[8]?.map (·.type) = some 3 ∧ fs[9]?.map (·.type) = some 23 ∧ fs.size = 10 :=
  ⟨_, Tryd.underlying25, by kernel_rfl, by kernel_rfl, rfl, rfl, rfl, rfl, rfl, rfl, rfl, rfl, rfl, rfl, rfl⟩
set_option maxRecDepth 100000 in
theorem open_par07 {H : Type} {enc : TypeId × Value → H} {w : World} {r : Reach} {b0 base : Nat} {v : Value} {d : DataW H} {pl : List MemPlace} (hv : Value.okWide Tryd.prog w r b0 25 v)
    (h : DataW.Trod enc Tryd.prog w base (fun _ => true) true 25 v d pl) : ParArg w v := by
  obtain ⟨fs, hu, hone, hC, f0, f1, f2, f3, f4, f5, f6, f7, f8, f9, hsz⟩ := under_par07
  obtain ⟨cs, rfl, hl, hf⟩ := agg_fields hu hone hC hv h
  obtain ⟨g0, j0, k0⟩ := Option.map_eq_some_iff.1 f0
  obtain ⟨g1, j1, k1⟩ := Option.map_eq_some_iff.1 f1
  obtain ⟨g2, j2, k2⟩ := Option.map_eq_some_iff.1 f2
  obtain ⟨g3, j3, k3⟩ := Option.map_eq_some_iff.1 f3
  obtain ⟨g4, j4, k4⟩ := Option.map_eq_some_iff.1 f4
  obtain ⟨g5, j5, k5⟩ := Option.map_eq_some_iff.1 f5
  obtain ⟨g6, j6, k6⟩ := Option.map_eq_some_iff.1 f6
  obtain ⟨g7, j7, k7⟩ := Option.map_eq_some_iff.1 f7
  obtain ⟨g8, j8, k8⟩ := Option.map_eq_some_iff.1 f8
  obtain ⟨g9, j9, k9⟩ := Option.map_eq_some_iff.1 f9
  obtain ⟨u0, y0, n0, e0, t0⟩ := hf 0 _ j0
  obtain ⟨u1, y1, n1, e1, t1⟩ := hf 1 _ j1
  obtain ⟨u2, y2, n2, e2, t2⟩ := hf 2 _ j2
  obtain ⟨u3, y3, n3, e3, t3⟩ := hf 3 _ j3
  obtain ⟨u4, y4, n4, e4, t4⟩ := hf 4 _ j4
  obtain ⟨u5, y5, n5, e5, t5⟩ := hf 5 _ j5
  obtain ⟨u6, y6, n6, e6, t6⟩ := hf 6 _ j6
  obtain ⟨u7, y7, n7, e7, t7⟩ := hf 7 _ j7
  obtain ⟨u8, y8, n8, e8, t8⟩ := hf 8 _ j8
  obtain ⟨u9, y9, n9, e9, t9⟩ := hf 9 _ j9
  rw [k0] at t0
  rw [k1] at t1
  rw [k2] at t2
  rw [k3] at t3
  rw [k4] at t4
  rw [k5] at t5
  rw [k6] at t6
  rw [k7] at t7
  rw [k8] at t8
  rw [k9] at t9
  obtain ⟨idle, rfl, w0⟩ := cell_i64 Tryd.underlying3 t0
  obtain ⟨data, rfl, w1⟩ := cell_i64 Tryd.underlying3 t1
  obtain ⟨hg, rfl⟩ := cell_bool Tryd.underlying4 t2
  obtain ⟨ho, rfl⟩ := cell_bool Tryd.underlying4 t3
  obtain ⟨hr, rfl⟩ := cell_bool Tryd.underlying4 t4
  obtain ⟨A5, c5, goal, rfl, r5, w5⟩ := cell_rds Tryd.underlying22 Tryd.underlying5 cells_u8_07 t5
  obtain ⟨A6, c6, own, rfl, r6, w6⟩ := cell_rds Tryd.underlying22 Tryd.underlying5 cells_u8_07 t6
  obtain ⟨A7, c7, retry, rfl, r7, w7⟩ := cell_rds Tryd.underlying22 Tryd.underlying5 cells_u8_07 t7
  obtain ⟨chosen, rfl, w8⟩ := cell_i64 Tryd.underlying3 t8
  obtain ⟨A9, c9, vs, rfl, r9, w9⟩ := cell_rds Tryd.underlying23 Tryd.underlying3 cells_int_07 t9
  exact ⟨⟨idle, data, hg, ho, hr, goal, own, retry, chosen, vs⟩, ⟨A5, c5, A6, c6, A7, c7, A9, c9⟩, by rw [arr10 (hl.trans hsz) e0 e1 e2 e3 e4 e5 e6 e7 e8 e9]; rfl, ⟨r5, r6, r7, r9⟩, ⟨by simpa using w0, by simpa using w1, by simpa using w8, fun x hx => wf_byte (w5 x hx), fun x hx => wf_byte (w6 x hx), fun x hx => wf_byte (w7 x hx), fun x hx => wf_i64 (w9 x hx)⟩⟩
end Go.Proofs.YtbfgoojpbhlboaaDoor

/- How the message of the laws of layer 14 stands in memory. No condition. -/
set_option linter.unusedVariables false
set_option linter.unusedSimpArgs false
namespace Go.Proofs.YtbfgoojpbhlboaaDoor
open Go Go.RowKit Go.ChangeShapes Go.WideShapes Go.ChangeAt

def HelArg (w : World) (v : Value) : Prop := ∃ m s, v = .agg (helCs m s) ∧ HelAt w.heap.size w m s ∧ Byt m.params
theorem under_hel14 : ∃ fs : Array Field, Tryd.prog.underlying 44 = some (.struct fs) ∧ Deep.oneCellFields Tryd.prog fs = true ∧ Tryd.prog.cellsOf 44 = fs.size ∧ fs[0]?.map (·.type) = some 3 ∧ fs[1]?.map (·.type) = some 3 ∧ fs[2]?.map (·.type) = some 3 ∧ fs[3]?.map (·.type) = some 3 ∧ fs[4]?.map (·.type) = some 3 ∧ fs[5]?.map (·.type) = some 4 ∧ fs[6]?.map (·.type) = some 22 ∧ fs[7]?.map (·.type) = some 9 ∧ fs[8]?.map (·.type) = some 3 ∧ fs[9]?.map (·.type) = some 3 ∧ fs.size = 10 :=
  ⟨_, Tryd.underlying44, by kernel_rfl, by kernel_rfl, rfl, rfl, rfl, rfl, rfl, rfl, rfl, rfl, rfl, rfl, rfl⟩
set_option maxRecDepth 100000 in
theorem open_hel14 {H : Type} {enc : TypeId × Value → H} {w : World} {r : Reach} {b0 base : Nat} {v : Value} {d : DataW H} {pl : List MemPlace} (hv : Value.okWide Tryd.prog w r b0 44 v)
    (h : DataW.Trod enc Tryd.prog w base (fun _ => true) true 44 v d pl) : HelArg w v := by
  obtain ⟨fs, hu, hone, hC, f0, f1, f2, f3, f4, f5, f6, f7, f8, f9, hsz⟩ := under_hel14
  obtain ⟨cs, rfl, hl, hf⟩ := agg_fields hu hone hC hv h
  obtain ⟨g0, j0, k0⟩ := Option.map_eq_some_iff.1 f0
  obtain ⟨g1, j1, k1⟩ := Option.map_eq_some_iff.1 f1
  obtain ⟨g2, j2, k2⟩ := Option.map_eq_some_iff.1 f2
  obtain ⟨g3, j3, k3⟩ := Option.map_eq_some_iff.1 f3
  obtain ⟨g4, j4, k4⟩ := Option.map_eq_some_iff.1 f4
  obtain ⟨g5, j5, k5⟩ := Option.map_eq_some_iff.1 f5
  obtain ⟨g6, j6, k6⟩ := Option.map_eq_some_iff.1 f6
  obtain ⟨g7, j7, k7⟩ := Option.map_eq_some_iff.1 f7
  obtain ⟨g8, j8, k8⟩ := Option.map_eq_some_iff.1 f8
  obtain ⟨g9, j9, k9⟩ := Option.map_eq_some_iff.1 f9
  obtain ⟨u0, y0, n0, e0, t0⟩ := hf 0 _ j0
  obtain ⟨u1, y1, n1, e1, t1⟩ := hf 1 _ j1
  obtain ⟨u2, y2, n2, e2, t2⟩ := hf 2 _ j2
  obtain ⟨u3, y3, n3, e3, t3⟩ := hf 3 _ j3
  obtain ⟨u4, y4, n4, e4, t4⟩ := hf 4 _ j4
  obtain ⟨u5, y5, n5, e5, t5⟩ := hf 5 _ j5
  obtain ⟨u6, y6, n6, e6, t6⟩ := hf 6 _ j6
  obtain ⟨u7, y7, n7, e7, t7⟩ := hf 7 _ j7
  obtain ⟨u8, y8, n8, e8, t8⟩ := hf 8 _ j8
  obtain ⟨u9, y9, n9, e9, t9⟩ := hf 9 _ j9
  rw [k0] at t0
  rw [k1] at t1
  rw [k2] at t2
  rw [k3] at t3
  rw [k4] at t4
  rw [k5] at t5
  rw [k6] at t6
  rw [k7] at t7
  rw [k8] at t8
  rw [k9] at t9
  obtain ⟨z0, rfl, w0⟩ := cell_i64 Tryd.underlying3 t0
  obtain ⟨z1, rfl, w1⟩ := cell_i64 Tryd.underlying3 t1
  obtain ⟨z2, rfl, w2⟩ := cell_i64 Tryd.underlying3 t2
  obtain ⟨z3, rfl, w3⟩ := cell_i64 Tryd.underlying3 t3
  obtain ⟨z4, rfl, w4⟩ := cell_i64 Tryd.underlying3 t4
  obtain ⟨z5, rfl⟩ := cell_bool Tryd.underlying4 t5
  obtain ⟨A6, c6, z6, rfl, r6, w6⟩ := cell_rds Tryd.underlying22 Tryd.underlying5 cells_u8_07 t6
  obtain ⟨z7, rfl, w7⟩ := cell_string Tryd.underlying9 t7
  obtain ⟨z8, rfl, w8⟩ := cell_i64 Tryd.underlying3 t8
  obtain ⟨z9, rfl, w9⟩ := cell_i64 Tryd.underlying3 t9
  exact ⟨⟨z0, z1, z2, z3, z4, z5, z6, z7, z8, z9⟩, ⟨A6, c6⟩, by rw [arr10 (hl.trans hsz) e0 e1 e2 e3 e4 e5 e6 e7 e8 e9]; rfl, r6, fun x hx => wf_byte (w6 x hx)⟩
end Go.Proofs.YtbfgoojpbhlboaaDoor
