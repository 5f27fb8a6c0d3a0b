/- The walk of SpecialWrites. No condition. -/
import Derived.Test.YtoelbhmgmlnieaaLaw08
import Derived.Test.YtoelbhmgmlnieaaRow08
set_option linter.unusedVariables false
set_option linter.unusedSimpArgs false
namespace Go.Proofs.Ytoelbhmgmlnieaa
open Go Go.RowKit

set_option maxHeartbeats 6400000 in
set_option maxRecDepth 100000 in
theorem specialWrites_walk (w : World) (A1 A2 A3 A4 A5 : Option Addr) (c1 c2 c3 c4 c5 : Nat) (ts fr vs tt ff : List Int) (ver token tag : Int)
    (h1 : Rds w.heap.size w .u8 A1 ts.length c1 ts) (h2 : Rds w.heap.size w .u8 A2 fr.length c2 fr) (h3 : Rds w.heap.size w .i64 A3 vs.length c3 vs) (h4 : Rds w.heap.size w .u8 A4 tt.length c4 tt) (h5 : Rds w.heap.size w .u8 A5 ff.length c5 ff) :
    Calls Try.prog 5 #[.agg #[.slice A1 ts.length c1, .slice A2 fr.length c2, .slice A3 vs.length c3], .agg #[.int .i64 ver, .slice A4 tt.length c4, .slice A5 ff.length c5, .int .i64 token, .int .i64 tag]] w fun e w' => e = .returned (.bool true) ∧ Below w.heap.size w w' := by
  have H1 := Lib.hid h1
  have H2 := Lib.hid h2
  have H3 := Lib.hid h3
  have H4 := Lib.hid h4
  have H5 := Lib.hid h5
  clear h1 h2 h3 h4 h5
  obtain ⟨W, hW⟩ : ∃ W, W = (w.alloc (.cells #[.slice A1 ts.length c1, .slice A2 fr.length c2, .slice A3 vs.length c3] 42)).alloc (.cells #[.int .i64 ver, .slice A4 tt.length c4, .slice A5 ff.length c5, .int .i64 token, .int .i64 tag] 44) := ⟨_, rfl⟩
  have HBW : Hid (Below w.heap.size w W) := by rw [hW]; exact below_pair _ _
  have HSW : Hid (W.heap.size = w.heap.size + 2) := by rw [hW]; show _ = _; simp
  have x0 : W.cell? ⟨w.heap.size, 0, none⟩ = some (.slice A1 ts.length c1) := by rw [hW]; simp [go_sem]
  have x1 : W.cell? ⟨w.heap.size, 1, none⟩ = some (.slice A2 fr.length c2) := by rw [hW]; simp [go_sem]
  have x2 : W.cell? ⟨w.heap.size, 2, none⟩ = some (.slice A3 vs.length c3) := by rw [hW]; simp [go_sem]
  have y0 : W.cell? ⟨w.heap.size + 1, 0, none⟩ = some (.int .i64 ver) := by rw [hW]; simp [go_sem]
  have y1 : W.cell? ⟨w.heap.size + 1, 1, none⟩ = some (.slice A4 tt.length c4) := by rw [hW]; simp [go_sem]
  have y2 : W.cell? ⟨w.heap.size + 1, 2, none⟩ = some (.slice A5 ff.length c5) := by rw [hW]; simp [go_sem]
  have y3 : W.cell? ⟨w.heap.size + 1, 3, none⟩ = some (.int .i64 token) := by rw [hW]; simp [go_sem]
  have y4 : W.cell? ⟨w.heap.size + 1, 4, none⟩ = some (.int .i64 tag) := by rw [hW]; simp [go_sem]
  have HWW := Lib.hid hW
  go_enter Try.func5, Try.ntmps5
  by_cases k1 : 50 < ts.length
  · clear hW x0 x1 x2 y0 y1 y2 y3 y4
    go_wp2_with fail
    go_ret
    rw [← HWW.out]
    exact ⟨rfl, HBW.out⟩
  by_cases k2 : 50 < fr.length
  · clear hW x0 x1 x2 y0 y1 y2 y3 y4
    go_wp2_with fail
    go_ret
    rw [← HWW.out]
    exact ⟨rfl, HBW.out⟩
  by_cases k3 : 30 < vs.length
  · clear hW x0 x1 x2 y0 y1 y2 y3 y4
    go_wp2_with fail
    go_ret
    rw [← HWW.out]
    exact ⟨rfl, HBW.out⟩
  by_cases k4 : 50 < tt.length
  · clear hW x0 x1 x2 y0 y1 y2 y3 y4
    go_wp2_with fail
    go_ret
    rw [← HWW.out]
    exact ⟨rfl, HBW.out⟩
  by_cases k5 : 50 < ff.length
  · clear hW x0 x1 x2 y0 y1 y2 y3 y4
    go_wp2_with fail
    go_ret
    rw [← HWW.out]
    exact ⟨rfl, HBW.out⟩
  go_wp2_with fail
  rw [← hW]
  clear hW HWW
  have HB0 : Hid (Below W.heap.size W W.drew) := (Below.refl W.heap.size W).drew
  go_region_held3 (fun w' => (w'.cell? ⟨w.heap.size, 0, none⟩ = some (.slice A1 ts.length c1) ∧ w'.cell? ⟨w.heap.size, 1, none⟩ = some (.slice A2 fr.length c2) ∧ w'.cell? ⟨w.heap.size, 2, none⟩ = some (.slice A3 vs.length c3)) ∧
      w'.cell? ⟨w.heap.size + 1, 0, none⟩ = some (.int .i64 ver) ∧ w'.cell? ⟨w.heap.size + 1, 1, none⟩ = some (.slice A4 tt.length c4) ∧ w'.cell? ⟨w.heap.size + 1, 2, none⟩ = some (.slice A5 ff.length c5) ∧ w'.cell? ⟨w.heap.size + 1, 3, none⟩ = some (.int .i64 token) ∧ w'.cell? ⟨w.heap.size + 1, 4, none⟩ = some (.int .i64 tag))
    (first
      | go_keep
      | (have hB := HBc.out
         exact ⟨⟨later_cell hB x0 (by simp; have := HSW.out; omega), later_cell hB x1 (by simp; have := HSW.out; omega), later_cell hB x2 (by simp; have := HSW.out; omega)⟩, later_cell hB y0 (by simp; have := HSW.out; omega), later_cell hB y1 (by simp; have := HSW.out; omega), later_cell hB y2 (by simp; have := HSW.out; omega), later_cell hB y3 (by simp; have := HSW.out; omega), later_cell hB y4 (by simp; have := HSW.out; omega)⟩)) ((first
    | (go_at_call 27
       refine (list_any A1 A2 A3 _ _ _ c1 c2 c3 ts fr vs W.drew ((H1.out.below HBW.out).below HB0.out) ((H2.out.below HBW.out).below HB0.out) ((H3.out.below HBW.out).below HB0.out) (by omega) (by omega) (by omega)).mono ?_
       rintro e w1 ⟨P1, d1, P2, d2, P3, d3, rfl, o1, o2, o3, hb⟩
       have HBc := Lib.hid (HB0.out.trans hb)
       have O1 := Lib.hid (o1.rds (B' := 0))
       have O2 := Lib.hid (o2.rds (B' := 0))
       have O3 := Lib.hid (o3.rds (B' := 0))
       clear HB0 o1 o2 o3 hb)
    | (go_at_call 26
       refine (writeList_any P1 P2 P3 _ _ _ d1 d2 d3 ts fr vs w1 O1.out O2.out O3.out).mono ?_
       rintro e w2 ⟨v2, rfl, hv, hb⟩
       have HBn := Lib.hid (below_next HBc.out HBc.out.size hb)
       clear HBc
       have HBc := HBn
       have V2 := Lib.hid hv
       clear HBn O1 O2 O3 hv hb)
    | (go_at_call 28
       refine (writeList08_any A1 A2 A3 _ _ _ c1 c2 c3 ts fr vs w2 ((H1.out.below HBW.out).below HBc.out) ((H2.out.below HBW.out).below HBc.out) ((H3.out.below HBW.out).below HBc.out)).mono ?_
       rintro e w3 ⟨v3, rfl, hv, hb⟩
       have HBn := Lib.hid (below_next HBc.out HBc.out.size hb)
       clear HBc
       have HBc := HBn
       have V23 := Lib.hid (V2.out.below hb)
       have V3 := Lib.hid hv
       obtain ⟨P2', d2', rfl⟩ := V23.out.slice
       obtain ⟨P3', d3', rfl⟩ := V3.out.slice
       clear HBn V2 hv hb)
    | (go_at_call 25
       refine (same_self08 P2' P3' _ _ d2' d3' (listB ts fr vs) w3 (V23.out.rds (B' := 0)) (V3.out.rds (B' := 0))).mono ?_
       rintro e w4 ⟨rfl, hb⟩
       have HBn := Lib.hid (below_next HBc.out HBc.out.size hb)
       clear HBc
       have HBc := HBn
       clear HBn V23 V3 hb)
    | (go_at_call 30
       refine (retry_any ver token tag A4 A5 _ _ c4 c5 tt ff w4 ((H4.out.below HBW.out).below HBc.out) ((H5.out.below HBW.out).below HBc.out) (by omega) (by omega)).mono ?_
       rintro e w5 ⟨P4, d4, P5, d5, rfl, o1, o2, hb⟩
       have HBn := Lib.hid (below_next HBc.out HBc.out.size hb)
       clear HBc
       have HBc := HBn
       have O4 := Lib.hid (o1.rds (B' := 0))
       have O5 := Lib.hid (o2.rds (B' := 0))
       clear HBn o1 o2 hb)
    | (go_at_call 29
       refine (writeRetry_any ver token tag P4 P5 _ _ d4 d5 tt ff w5 O4.out O5.out).mono ?_
       rintro e w6 ⟨v6, rfl, hv, hb⟩
       have HBn := Lib.hid (below_next HBc.out HBc.out.size hb)
       clear HBc
       have HBc := HBn
       have V6 := Lib.hid hv
       clear HBn O4 O5 hv hb)
    | (go_at_call 31
       refine (writeRetry08_any ver token tag A4 A5 _ _ c4 c5 tt ff w6 ((H4.out.below HBW.out).below HBc.out) ((H5.out.below HBW.out).below HBc.out)).mono ?_
       rintro e w7 ⟨v7, rfl, hv, hb⟩
       have HBn := Lib.hid (below_next HBc.out HBc.out.size hb)
       clear HBc
       have HBc := HBn
       have V67 := Lib.hid (V6.out.below hb)
       have V7 := Lib.hid hv
       obtain ⟨P6, d6, rfl⟩ := V67.out.slice
       obtain ⟨P7, d7, rfl⟩ := V7.out.slice
       clear HBn V6 hv hb)
    | (go_at_call 25
       refine (same_self08 P6 P7 _ _ d6 d7 (retryB ver tt ff token tag) w7 (V67.out.rds (B' := 0)) (V7.out.rds (B' := 0))).mono ?_
       rintro e w8 ⟨rfl, hb⟩
       have HBn := Lib.hid (below_next HBc.out HBc.out.size hb)
       clear HBc
       have HBc := HBn
       clear HBn V67 V7 hb)
    | (go_at_call 32
       refine (awake08_any w8).mono ?_
       rintro e w9 ⟨rfl, hb⟩
       have HBn := Lib.hid (below_next HBc.out HBc.out.size hb)
       clear HBc
       have HBc := HBn
       clear HBn hb)))
  all_goals
    go_wp2_with fail
    go_ret
    exact ⟨rfl, HBW.out.trans (HBc.out.mono (by have := HSW.out; omega))⟩
theorem specialWrites_row {v0 v1 : Value} (w : World) (h0 : ListArg w v0) (h1 : RetryArg w v1) : Calls Try.prog 5 #[v0, v1] w fun e w' => e = .returned (.bool true) ∧ Below w.heap.size w w' := by
  obtain ⟨A1, c1, A2, c2, A3, c3, ts, fr, vs, rfl, r1, -, r2, -, r3, -⟩ := h0
  obtain ⟨ver, A4, c4, A5, c5, tt, ff, token, tag, rfl, r4, -, r5, -, -⟩ := h1
  exact specialWrites_walk w A1 A2 A3 A4 A5 c1 c2 c3 c4 c5 ts fr vs tt ff ver token tag r1 r2 r3 r4 r5
end Go.Proofs.Ytoelbhmgmlnieaa
