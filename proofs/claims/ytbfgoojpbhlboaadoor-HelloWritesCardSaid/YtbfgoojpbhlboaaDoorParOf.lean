/- of (layer 7's laws): a document's params as the program's. No condition. Printed by gen_parof.py. -/
import Derived.Test.YtbfgoojpbhlboaaDoorParWrite
import Derived.Test.YtbfgoojpbhlboaaDoorLanes5
set_option linter.unusedVariables false
set_option linter.unusedSimpArgs false
namespace Go.Proofs.YtbfgoojpbhlboaaDoor
open Go Go.RowKit

/-- The document's params in a box. -/
def ParD (w : World) (b : Nat) (p : Par) (s : ParS) : Prop := w.heap[b]? = some (.cells (parCs p s) 25 (0, 0))
theorem ParD.later {w w' : World} {B b : Nat} {p : Par} {s : ParS} (h : ParD w b p s) (hb : Below B w w') (hB : b < B) : ParD w' b p s := (hb.block _ hB).trans h
theorem ParD.cell {w : World} {b : Nat} {p : Par} {s : ParS} (h : ParD w b p s) (i : Nat) : w.cell? ⟨b, i, none⟩ = (parCs p s)[i]? := by rw [cell_of_row w b i _ _ _ h]
def par0Cs : Array Value := #[.int .i64 0, .int .i64 0, .bool false, .bool false, .bool false, .slice none 0 0, .slice none 0 0, .slice none 0 0, .int .i64 0, .slice none 0 0]
structure ParHi (N : Nat) (p : Par) (s : ParS) : Prop where
  goal : Hi N p.goal.length s.gA
  own : Hi N p.own.length s.oA
  retry : Hi N p.retry.length s.rA
  vs : Hi N p.vs.length s.vA
theorem ParAt.putRow {B N g : Nat} {w : World} {p : Par} {s : ParS} (h : ParAt B w p s) (hi : ParHi N p s) (hg : g < N) (cs : Array Value) : ParAt B (w.setRow g cs) p s :=
  ⟨h.goal.putRow cs fun a q e => by have := hi.goal a q e; omega, h.own.putRow cs fun a q e => by have := hi.own a q e; omega, h.retry.putRow cs fun a q e => by have := hi.retry a q e; omega, h.vs.putRow cs fun a q e => by have := hi.vs a q e; omega⟩
structure OfS (B gB gR : Nat) (p : Par) (s : ParS) (w : World) : Prop where
  d : ParD w gB p s
  r : w.heap[gR]? = some (.cells par0Cs 27 (0, 0))
  h : ParAt B w p s
theorem OfS.below {B gB gR : Nat} {p : Par} {s : ParS} {w w' : World} (h : OfS B gB gR p s w) (hb : Below w.heap.size w w') : OfS B gB gR p s w' :=
  ⟨h.d.later hb (lt_of_get h.d), (hb.block _ (lt_of_get h.r)).trans h.r, h.h.below hb⟩
def ofPR (gB : Nat) (p : Par) (s : ParS) : Nat → Value → World → Prop
  | 0, v, w => v = .pointer (some ⟨gB, 0, none⟩)
  | 1, v, w => v = .int .i64 p.idle
  | 2, v, w => v = .pointer (some ⟨gB, 1, none⟩)
  | 3, v, w => v = .int .i64 p.data
  | 4, v, w => v = .pointer (some ⟨gB, 2, none⟩)
  | 5, v, w => v = .bool p.hg
  | 6, v, w => v = .pointer (some ⟨gB, 3, none⟩)
  | 7, v, w => v = .bool p.ho
  | 8, v, w => v = .pointer (some ⟨gB, 4, none⟩)
  | 9, v, w => v = .bool p.hr
  | 10, v, w => ∃ g, v = .slice (some ⟨g, 0, none⟩) 0 0
  | 11, v, w => v = .pointer (some ⟨gB, 5, none⟩)
  | 12, v, w => v = .slice s.gA p.goal.length s.gc
  | 13, v, w => ∃ A c, v = .slice A p.goal.length c ∧ Rds 0 w .u8 A p.goal.length c p.goal ∧ Hi (gB + 2) p.goal.length A
  | 14, v, w => ∃ g, v = .slice (some ⟨g, 0, none⟩) 0 0
  | 15, v, w => v = .pointer (some ⟨gB, 6, none⟩)
  | 16, v, w => v = .slice s.oA p.own.length s.oc
  | 17, v, w => ∃ A c, v = .slice A p.own.length c ∧ Rds 0 w .u8 A p.own.length c p.own ∧ Hi (gB + 2) p.own.length A
  | 18, v, w => ∃ g, v = .slice (some ⟨g, 0, none⟩) 0 0
  | 19, v, w => v = .pointer (some ⟨gB, 7, none⟩)
  | 20, v, w => v = .slice s.rA p.retry.length s.rc
  | 21, v, w => ∃ A c, v = .slice A p.retry.length c ∧ Rds 0 w .u8 A p.retry.length c p.retry ∧ Hi (gB + 2) p.retry.length A
  | 22, v, w => v = .pointer (some ⟨gB, 8, none⟩)
  | 23, v, w => v = .int .i64 p.chosen
  | 24, v, w => ∃ g, v = .slice (some ⟨g, 0, none⟩) 0 0
  | 25, v, w => v = .pointer (some ⟨gB, 9, none⟩)
  | 26, v, w => v = .slice s.vA p.vs.length s.vc
  | 27, v, w => ∃ A c, v = .slice A p.vs.length c ∧ Rds 0 w .i64 A p.vs.length c p.vs ∧ Hi (gB + 2) p.vs.length A
  | 28, v, w => ∃ s', v = .agg (parCs p s') ∧ ParAt 0 w p s' ∧ ParHi (gB + 2) p s'
  | _, v, w => True
theorem ofPR_below {gB : Nat} {p : Par} {s : ParS} : ∀ (i : Nat) (v : Value) (w w' : World), ofPR gB p s i v w → Below w.heap.size w w' → ofPR gB p s i v w'
  | 0, v, w, w', h, hb => h
  | 1, v, w, w', h, hb => h
  | 2, v, w, w', h, hb => h
  | 3, v, w, w', h, hb => h
  | 4, v, w, w', h, hb => h
  | 5, v, w, w', h, hb => h
  | 6, v, w, w', h, hb => h
  | 7, v, w, w', h, hb => h
  | 8, v, w, w', h, hb => h
  | 9, v, w, w', h, hb => h
  | 10, v, w, w', h, hb => h
  | 11, v, w, w', h, hb => h
  | 12, v, w, w', h, hb => h
  | 13, v, w, w', h, hb => by obtain ⟨A, c, e, hr, hh⟩ := h; exact ⟨A, c, e, hr.below hb, hh⟩
  | 14, v, w, w', h, hb => h
  | 15, v, w, w', h, hb => h
  | 16, v, w, w', h, hb => h
  | 17, v, w, w', h, hb => by obtain ⟨A, c, e, hr, hh⟩ := h; exact ⟨A, c, e, hr.below hb, hh⟩
  | 18, v, w, w', h, hb => h
  | 19, v, w, w', h, hb => h
  | 20, v, w, w', h, hb => h
  | 21, v, w, w', h, hb => by obtain ⟨A, c, e, hr, hh⟩ := h; exact ⟨A, c, e, hr.below hb, hh⟩
  | 22, v, w, w', h, hb => h
  | 23, v, w, w', h, hb => h
  | 24, v, w, w', h, hb => h
  | 25, v, w, w', h, hb => h
  | 26, v, w, w', h, hb => h
  | 27, v, w, w', h, hb => by obtain ⟨A, c, e, hr, hh⟩ := h; exact ⟨A, c, e, hr.below hb, hh⟩
  | 28, v, w, w', h, hb => by obtain ⟨s', e, hr, hh⟩ := h; exact ⟨s', e, hr.below hb, hh⟩
  | _ + 29, v, w, w', h, hb => trivial
theorem par_size : (Tryd.prog.info? 27).map (·.size) = some 10 := by kernel_rfl
set_option maxHeartbeats 3200000 in
set_option maxRecDepth 100000 in
theorem of_any {B : Nat} (p : Par) (s : ParS) (w : World) (h : ParAt B w p s) (hl : p.goal.length ≤ 50 ∧ p.own.length ≤ 50 ∧ p.retry.length ≤ 50 ∧ p.vs.length ≤ 30) :
    Calls Tryd.prog 13 #[.agg (parCs p s)] w fun e w' => ∃ s', e = .returned (.agg (parCs p s')) ∧ ParAt 0 w' p s' ∧ Below w.heap.size w w' := by
  obtain ⟨W, hW⟩ : ∃ W, W = (w.alloc (.cells (parCs p s) 25)).alloc (.cells par0Cs 27) := ⟨_, rfl⟩
  have hbw : Below w.heap.size w W := by rw [hW]; exact below_pair _ _
  have HBW := Lib.hid hbw
  have HS : Hid (OfS B w.heap.size (w.heap.size + 1) p s W) := ⟨by rw [hW]; exact heap_alloc2_old w _ _, by rw [hW]; exact heap_alloc2_new w _ _, h.below hbw⟩
  have hmix : Tryd.prog.follows .mixedOrders = true := by kernel_rfl
  clear h hbw
  unfold parCs at hW ⊢
  unfold par0Cs at hW
  go_enter Tryd.func13, Tryd.ntmps13
  go_wp2_with fail
  rw [← hW]
  clear hW
  have HL := Lib.hid hl
  clear hl
  refine wp_lanes_list hmix (OfS B w.heap.size (w.heap.size + 1) p s) (ofPR w.heap.size p s) (by decide +kernel) (by decide +kernel) 32 rfl (by decide +kernel) (by decide) (fun w w' => OfS.below) ofPR_below (HS.out.below ((Below.refl _ _).drew)) ?_
  refine ⟨?_, ?_, ?_, ?_, ?_, ?_, ?_, ?_, ?_, ?_, ?_, ?_, ?_, ?_, ?_, ?_, ?_, ?_, ?_, ?_, ?_, ?_, ?_, ?_, ?_, ?_, ?_, ?_, ?_, ?_⟩
  · intro a w' hb hs hun hdep
    have e1 := hun 1 (by decide +kernel)
    simp at e1
    refine ⟨rfl, ?_⟩
    unfold Oper.wp
    go_simp
    exact ⟨_, rfl, rfl, Below.refl _ _⟩
  · intro a w' hb hs hun hdep
    have e1 : _ = _ := hdep 0 3 (by decide +kernel) rfl
    have c1 : w'.cell? ⟨w.heap.size, 0, none⟩ = some (.int .i64 p.idle) := hs.d.cell 0
    refine ⟨rfl, ?_⟩
    unfold Oper.wp
    go_simp
    exact ⟨_, rfl, rfl, Below.refl _ _⟩
  · intro a w' hb hs hun hdep
    have e1 := hun 1 (by decide +kernel)
    simp at e1
    refine ⟨rfl, ?_⟩
    unfold Oper.wp
    go_simp
    exact ⟨_, rfl, rfl, Below.refl _ _⟩
  · intro a w' hb hs hun hdep
    have e1 : _ = _ := hdep 2 5 (by decide +kernel) rfl
    have c1 : w'.cell? ⟨w.heap.size, 1, none⟩ = some (.int .i64 p.data) := hs.d.cell 1
    refine ⟨rfl, ?_⟩
    unfold Oper.wp
    go_simp
    exact ⟨_, rfl, rfl, Below.refl _ _⟩
  · intro a w' hb hs hun hdep
    have e1 := hun 1 (by decide +kernel)
    simp at e1
    refine ⟨rfl, ?_⟩
    unfold Oper.wp
    go_simp
    exact ⟨_, rfl, rfl, Below.refl _ _⟩
  · intro a w' hb hs hun hdep
    have e1 : _ = _ := hdep 4 7 (by decide +kernel) rfl
    have c1 : w'.cell? ⟨w.heap.size, 2, none⟩ = some (.bool p.hg) := hs.d.cell 2
    refine ⟨rfl, ?_⟩
    unfold Oper.wp
    go_simp
    exact ⟨_, rfl, rfl, Below.refl _ _⟩
  · intro a w' hb hs hun hdep
    have e1 := hun 1 (by decide +kernel)
    simp at e1
    refine ⟨rfl, ?_⟩
    unfold Oper.wp
    go_simp
    exact ⟨_, rfl, rfl, Below.refl _ _⟩
  · intro a w' hb hs hun hdep
    have e1 : _ = _ := hdep 6 9 (by decide +kernel) rfl
    have c1 : w'.cell? ⟨w.heap.size, 3, none⟩ = some (.bool p.ho) := hs.d.cell 3
    refine ⟨rfl, ?_⟩
    unfold Oper.wp
    go_simp
    exact ⟨_, rfl, rfl, Below.refl _ _⟩
  · intro a w' hb hs hun hdep
    have e1 := hun 1 (by decide +kernel)
    simp at e1
    refine ⟨rfl, ?_⟩
    unfold Oper.wp
    go_simp
    exact ⟨_, rfl, rfl, Below.refl _ _⟩
  · intro a w' hb hs hun hdep
    have e1 : _ = _ := hdep 8 11 (by decide +kernel) rfl
    have c1 : w'.cell? ⟨w.heap.size, 4, none⟩ = some (.bool p.hr) := hs.d.cell 4
    refine ⟨rfl, ?_⟩
    unfold Oper.wp
    go_simp
    exact ⟨_, rfl, rfl, Below.refl _ _⟩
  · intro a w' hb hs hun hdep
    refine ⟨rfl, ?_⟩
    unfold Oper.wp
    go_simp
    exact ⟨_, rfl, ⟨_, rfl⟩, below_new _⟩
  · intro a w' hb hs hun hdep
    have e1 := hun 1 (by decide +kernel)
    simp at e1
    refine ⟨rfl, ?_⟩
    unfold Oper.wp
    go_simp
    exact ⟨_, rfl, rfl, Below.refl _ _⟩
  · intro a w' hb hs hun hdep
    have e1 : _ = _ := hdep 11 14 (by decide +kernel) rfl
    have c1 : w'.cell? ⟨w.heap.size, 5, none⟩ = some (.slice s.gA p.goal.length s.gc) := hs.d.cell 5
    refine ⟨rfl, ?_⟩
    unfold Oper.wp
    go_simp
    exact ⟨_, rfl, rfl, Below.refl _ _⟩
  · intro a w' hb hs hun hdep
    obtain ⟨g, e1⟩ := hdep 10 13 (by decide +kernel) rfl
    have e2 : _ = _ := hdep 12 15 (by decide +kernel) rfl
    exact ⟨rfl, lane_app 13 15 22 5 .u8 (.int .u8 0) 1 rfl Tryd.underlying22 info_u8 rfl sp_u8 e1 e2 hs.h.goal (by have := HL.out; omega) (by have := HL.out; omega) (by have := hb.size; have := lt_of_get hs.r; omega)⟩
  · intro a w' hb hs hun hdep
    refine ⟨rfl, ?_⟩
    unfold Oper.wp
    go_simp
    exact ⟨_, rfl, ⟨_, rfl⟩, below_new _⟩
  · intro a w' hb hs hun hdep
    have e1 := hun 1 (by decide +kernel)
    simp at e1
    refine ⟨rfl, ?_⟩
    unfold Oper.wp
    go_simp
    exact ⟨_, rfl, rfl, Below.refl _ _⟩
  · intro a w' hb hs hun hdep
    have e1 : _ = _ := hdep 15 18 (by decide +kernel) rfl
    have c1 : w'.cell? ⟨w.heap.size, 6, none⟩ = some (.slice s.oA p.own.length s.oc) := hs.d.cell 6
    refine ⟨rfl, ?_⟩
    unfold Oper.wp
    go_simp
    exact ⟨_, rfl, rfl, Below.refl _ _⟩
  · intro a w' hb hs hun hdep
    obtain ⟨g, e1⟩ := hdep 14 17 (by decide +kernel) rfl
    have e2 : _ = _ := hdep 16 19 (by decide +kernel) rfl
    exact ⟨rfl, lane_app 17 19 22 5 .u8 (.int .u8 0) 1 rfl Tryd.underlying22 info_u8 rfl sp_u8 e1 e2 hs.h.own (by have := HL.out; omega) (by have := HL.out; omega) (by have := hb.size; have := lt_of_get hs.r; omega)⟩
  · intro a w' hb hs hun hdep
    refine ⟨rfl, ?_⟩
    unfold Oper.wp
    go_simp
    exact ⟨_, rfl, ⟨_, rfl⟩, below_new _⟩
  · intro a w' hb hs hun hdep
    have e1 := hun 1 (by decide +kernel)
    simp at e1
    refine ⟨rfl, ?_⟩
    unfold Oper.wp
    go_simp
    exact ⟨_, rfl, rfl, Below.refl _ _⟩
  · intro a w' hb hs hun hdep
    have e1 : _ = _ := hdep 19 22 (by decide +kernel) rfl
    have c1 : w'.cell? ⟨w.heap.size, 7, none⟩ = some (.slice s.rA p.retry.length s.rc) := hs.d.cell 7
    refine ⟨rfl, ?_⟩
    unfold Oper.wp
    go_simp
    exact ⟨_, rfl, rfl, Below.refl _ _⟩
  · intro a w' hb hs hun hdep
    obtain ⟨g, e1⟩ := hdep 18 21 (by decide +kernel) rfl
    have e2 : _ = _ := hdep 20 23 (by decide +kernel) rfl
    exact ⟨rfl, lane_app 21 23 22 5 .u8 (.int .u8 0) 1 rfl Tryd.underlying22 info_u8 rfl sp_u8 e1 e2 hs.h.retry (by have := HL.out; omega) (by have := HL.out; omega) (by have := hb.size; have := lt_of_get hs.r; omega)⟩
  · intro a w' hb hs hun hdep
    have e1 := hun 1 (by decide +kernel)
    simp at e1
    refine ⟨rfl, ?_⟩
    unfold Oper.wp
    go_simp
    exact ⟨_, rfl, rfl, Below.refl _ _⟩
  · intro a w' hb hs hun hdep
    have e1 : _ = _ := hdep 22 25 (by decide +kernel) rfl
    have c1 : w'.cell? ⟨w.heap.size, 8, none⟩ = some (.int .i64 p.chosen) := hs.d.cell 8
    refine ⟨rfl, ?_⟩
    unfold Oper.wp
    go_simp
    exact ⟨_, rfl, rfl, Below.refl _ _⟩
  · intro a w' hb hs hun hdep
    refine ⟨rfl, ?_⟩
    unfold Oper.wp
    go_simp
    exact ⟨_, rfl, ⟨_, rfl⟩, below_new _⟩
  · intro a w' hb hs hun hdep
    have e1 := hun 1 (by decide +kernel)
    simp at e1
    refine ⟨rfl, ?_⟩
    unfold Oper.wp
    go_simp
    exact ⟨_, rfl, rfl, Below.refl _ _⟩
  · intro a w' hb hs hun hdep
    have e1 : _ = _ := hdep 25 28 (by decide +kernel) rfl
    have c1 : w'.cell? ⟨w.heap.size, 9, none⟩ = some (.slice s.vA p.vs.length s.vc) := hs.d.cell 9
    refine ⟨rfl, ?_⟩
    unfold Oper.wp
    go_simp
    exact ⟨_, rfl, rfl, Below.refl _ _⟩
  · intro a w' hb hs hun hdep
    obtain ⟨g, e1⟩ := hdep 24 27 (by decide +kernel) rfl
    have e2 : _ = _ := hdep 26 29 (by decide +kernel) rfl
    exact ⟨rfl, lane_app 27 29 23 3 .i64 (.int .i64 0) 8 rfl Tryd.underlying23 info_int rfl sp_int e1 e2 hs.h.vs (by have := HL.out; omega) (by have := HL.out; omega) (by have := hb.size; have := lt_of_get hs.r; omega)⟩
  · intro a w' hb hs hun hdep
    have e0 : _ = _ := hdep 1 4 (by decide +kernel) rfl
    have e1 : _ = _ := hdep 3 6 (by decide +kernel) rfl
    have e2 : _ = _ := hdep 5 8 (by decide +kernel) rfl
    have e3 : _ = _ := hdep 7 10 (by decide +kernel) rfl
    have e4 : _ = _ := hdep 9 12 (by decide +kernel) rfl
    obtain ⟨A5, c5, e5, r5, i5⟩ := hdep 13 16 (by decide +kernel) rfl
    obtain ⟨A6, c6, e6, r6, i6⟩ := hdep 17 20 (by decide +kernel) rfl
    obtain ⟨A7, c7, e7, r7, i7⟩ := hdep 21 24 (by decide +kernel) rfl
    have e8 : _ = _ := hdep 23 26 (by decide +kernel) rfl
    obtain ⟨A9, c9, e9, r9, i9⟩ := hdep 27 30 (by decide +kernel) rfl
    have R5 := Lib.hid r5; have I5 := Lib.hid i5; clear r5 i5
    have R6 := Lib.hid r6; have I6 := Lib.hid i6; clear r6 i6
    have R7 := Lib.hid r7; have I7 := Lib.hid i7; clear r7 i7
    have R9 := Lib.hid r9; have I9 := Lib.hid i9; clear r9 i9
    refine ⟨rfl, ?_⟩
    unfold Oper.wp
    go_simp
    exact ⟨_, rfl, ⟨⟨A5, c5, A6, c6, A7, c7, A9, c9⟩, rfl, ⟨R5.out, R6.out, R7.out, R9.out⟩, I5.out, I6.out, I7.out, I9.out⟩, Below.refl _ _⟩
  · intro a w' hds hts hb hs hun hpr
    obtain ⟨s', e1, hr, hi⟩ := hpr 28 31 (by decide) rfl
    have e2 := hun 2 (by decide +kernel)
    simp at e2
    have hrun := run_storeAt_row (P := Tryd.prog) (w := w') 27 (w.heap.size + 1) par0Cs (parCs p s') 27 par_size hs.r rfl (by simp [parCs, Value.oneCell'])
    refine ⟨rfl, ?_⟩
    have e1' : a.eval (.tmp 31) = .agg (parCs p s') := by show a.tmps.getD 31 undef = _; simpa using e1
    have e2' : a.eval (.tmp 2) = .pointer (some ⟨w.heap.size + 1, 0, none⟩) := by show a.tmps.getD 2 undef = _; simpa using e2
    unfold Oper.wp execOp
    simp only [e1', e2', Sem.run_bind, hrun, Result.andThen_ok, Sem.run_pure]
    simp only [Oper.upon, Act.put, Exit.then]
    go_wp2_with fail
    have hrow := setRow_heap w' (w.heap.size + 1) par0Cs (parCs p s') _ _ hs.r
    have hl2 := run_loadVar_row (P := Tryd.prog) (w'.setRow (w.heap.size + 1) (parCs p s')) (w.heap.size + 1) 27 27 (parCs p s') (0, 0) _ hrow Tryd.underlying27 rfl par_size
    refine bodyPost_ret (v := .agg (parCs p s')) (by simp [results, Tryd.results13, e2, asAddr, hl2, Result.andThen]) (by simpa using hds) ?_
    have hb0 : Below W.heap.size W W.drew := (Below.refl _ _).drew
    have hb1 : Below W.heap.size W w' := hb0.trans hb
    have hbw : Below w.heap.size w w' := HBW.out.trans (hb1.mono HBW.out.size)
    exact ⟨s', rfl, hr.putRow hi (by omega) _, below_setRow hbw (by omega) _⟩
end Go.Proofs.YtbfgoojpbhlboaaDoor
