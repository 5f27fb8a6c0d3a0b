/- Messages of a handshake in memory; of (layer 14's laws). No condition. Printed by gen_helof.py. -/
import Derived.Test.YtbfgoojpbhlboaaDoorPureHello
import Derived.Test.YtbfgoojpbhlboaaDoorLanes5
import Derived.Test.YtbfgoojpbhlboaaDoorBase
import Derived.Test.YtbfgoojpbhlboaaDoorLater
set_option linter.unusedVariables false
set_option linter.unusedSimpArgs false
namespace Go.Proofs.YtbfgoojpbhlboaaDoor
open Go Go.RowKit

/-- A message as it lies: its params' place. -/
structure HelS where
  A : Option Addr
  c : Nat
def helCs (m : Hel) (s : HelS) : Array Value := #[.int .i64 m.kind, .int .i64 m.random, .int .i64 m.share, .int .i64 m.ticket, .int .i64 m.mac, .bool m.flag, .slice s.A m.params.length s.c, .string m.name, .int .i64 m.version, .int .i64 m.life]
def hel0Cs : Array Value := #[.int .i64 0, .int .i64 0, .int .i64 0, .int .i64 0, .int .i64 0, .bool false, .slice none 0 0, .string (ByteArray.mk #[]), .int .i64 0, .int .i64 0]
def HelAt (B : Nat) (w : World) (m : Hel) (s : HelS) : Prop := Rds B w .u8 s.A m.params.length s.c m.params
theorem HelAt.below {B : Nat} {w w' : World} {m : Hel} {s : HelS} (h : HelAt B w m s) (hb : Below w.heap.size w w') : HelAt B w' m s := Rds.below h hb
/-- The document's message in a box. -/
def HelD (w : World) (b : Nat) (m : Hel) (s : HelS) : Prop := w.heap[b]? = some (.cells (helCs m s) 44 (0, 0))
/-- The program's message in a box. -/
def HelB (w : World) (b : Nat) (m : Hel) (s : HelS) : Prop := w.heap[b]? = some (.cells (helCs m s) 48 (0, 0))
theorem HelD.later {w w' : World} {B b : Nat} {m : Hel} {s : HelS} (h : HelD w b m s) (hb : Below B w w') (hB : b < B) : HelD w' b m s := (hb.block _ hB).trans h
theorem HelB.later {w w' : World} {B b : Nat} {m : Hel} {s : HelS} (h : HelB w b m s) (hb : Below B w w') (hB : b < B) : HelB w' b m s := (hb.block _ hB).trans h
theorem HelD.cell {w : World} {b : Nat} {m : Hel} {s : HelS} (h : HelD w b m s) (i : Nat) : w.cell? ⟨b, i, none⟩ = (helCs m s)[i]? := by rw [cell_of_row w b i _ _ _ h]
theorem HelB.cell {w : World} {b : Nat} {m : Hel} {s : HelS} (h : HelB w b m s) (i : Nat) : w.cell? ⟨b, i, none⟩ = (helCs m s)[i]? := by rw [cell_of_row w b i _ _ _ h]
theorem HelD.ten {w : World} {b : Nat} {m : Hel} {s : HelS} (h : HelD w b m s) : (w.cell? ⟨b, 0, none⟩ = some (.int .i64 m.kind) ∧ w.cell? ⟨b, 1, none⟩ = some (.int .i64 m.random) ∧ w.cell? ⟨b, 2, none⟩ = some (.int .i64 m.share) ∧ w.cell? ⟨b, 3, none⟩ = some (.int .i64 m.ticket) ∧ w.cell? ⟨b, 4, none⟩ = some (.int .i64 m.mac)) ∧ w.cell? ⟨b, 5, none⟩ = some (.bool m.flag) ∧ w.cell? ⟨b, 6, none⟩ = some (.slice s.A m.params.length s.c) ∧ w.cell? ⟨b, 7, none⟩ = some (.string m.name) ∧ w.cell? ⟨b, 8, none⟩ = some (.int .i64 m.version) ∧ w.cell? ⟨b, 9, none⟩ = some (.int .i64 m.life) :=
  ⟨⟨h.cell 0, h.cell 1, h.cell 2, h.cell 3, h.cell 4⟩, h.cell 5, h.cell 6, h.cell 7, h.cell 8, h.cell 9⟩
theorem HelB.ten {w : World} {b : Nat} {m : Hel} {s : HelS} (h : HelB w b m s) : (w.cell? ⟨b, 0, none⟩ = some (.int .i64 m.kind) ∧ w.cell? ⟨b, 1, none⟩ = some (.int .i64 m.random) ∧ w.cell? ⟨b, 2, none⟩ = some (.int .i64 m.share) ∧ w.cell? ⟨b, 3, none⟩ = some (.int .i64 m.ticket) ∧ w.cell? ⟨b, 4, none⟩ = some (.int .i64 m.mac)) ∧ w.cell? ⟨b, 5, none⟩ = some (.bool m.flag) ∧ w.cell? ⟨b, 6, none⟩ = some (.slice s.A m.params.length s.c) ∧ w.cell? ⟨b, 7, none⟩ = some (.string m.name) ∧ w.cell? ⟨b, 8, none⟩ = some (.int .i64 m.version) ∧ w.cell? ⟨b, 9, none⟩ = some (.int .i64 m.life) :=
  ⟨⟨h.cell 0, h.cell 1, h.cell 2, h.cell 3, h.cell 4⟩, h.cell 5, h.cell 6, h.cell 7, h.cell 8, h.cell 9⟩
theorem below_pair14 {w : World} (o o' : Obj) : Below w.heap.size w ((w.alloc o).alloc o') := ((Below.refl _ _).alloc (Nat.le_refl _) o).alloc (by simp) o'
structure OfH (B gB gR : Nat) (m : Hel) (s : HelS) (w : World) : Prop where
  d : HelD w gB m s
  r : w.heap[gR]? = some (.cells hel0Cs 48 (0, 0))
  h : HelAt B w m s
theorem OfH.below {B gB gR : Nat} {m : Hel} {s : HelS} {w w' : World} (h : OfH B gB gR m s w) (hb : Below w.heap.size w w') : OfH B gB gR m s w' :=
  ⟨h.d.later hb (lt_of_get h.d), (hb.block _ (lt_of_get h.r)).trans h.r, h.h.below hb⟩
def ofhPR (gB : Nat) (m : Hel) (s : HelS) : Nat → Value → World → Prop
  | 0, v, w => v = .pointer (some ⟨gB, 0, none⟩)
  | 1, v, w => v = .int .i64 m.kind
  | 2, v, w => v = .pointer (some ⟨gB, 1, none⟩)
  | 3, v, w => v = .int .i64 m.random
  | 4, v, w => v = .pointer (some ⟨gB, 2, none⟩)
  | 5, v, w => v = .int .i64 m.share
  | 6, v, w => v = .pointer (some ⟨gB, 3, none⟩)
  | 7, v, w => v = .int .i64 m.ticket
  | 8, v, w => v = .pointer (some ⟨gB, 4, none⟩)
  | 9, v, w => v = .int .i64 m.mac
  | 10, v, w => v = .pointer (some ⟨gB, 5, none⟩)
  | 11, v, w => v = .bool m.flag
  | 12, v, w => ∃ g, v = .slice (some ⟨g, 0, none⟩) 0 0
  | 13, v, w => v = .pointer (some ⟨gB, 6, none⟩)
  | 14, v, w => v = .slice s.A m.params.length s.c
  | 15, v, w => ∃ A c, v = .slice A m.params.length c ∧ Rds 0 w .u8 A m.params.length c m.params ∧ Hi (gB + 2) m.params.length A
  | 16, v, w => v = .pointer (some ⟨gB, 7, none⟩)
  | 17, v, w => v = .string m.name
  | 18, v, w => v = .pointer (some ⟨gB, 8, none⟩)
  | 19, v, w => v = .int .i64 m.version
  | 20, v, w => v = .pointer (some ⟨gB, 9, none⟩)
  | 21, v, w => v = .int .i64 m.life
  | 22, v, w => ∃ s' : HelS, v = .agg (helCs m s') ∧ Rds 0 w .u8 s'.A m.params.length s'.c m.params ∧ Hi (gB + 2) m.params.length s'.A
  | _, v, w => True
theorem ofhPR_below {gB : Nat} {m : Hel} {s : HelS} : ∀ (i : Nat) (v : Value) (w w' : World), ofhPR gB m s i v w → Below w.heap.size w w' → ofhPR gB m s i v w'
  | 0, v, w, w', h, hb => h
  | 1, v, w, w', h, hb => h
  | 2, v, w, w', h, hb => h
  | 3, v, w, w', h, hb => h
  | 4, v, w, w', h, hb => h
  | 5, v, w, w', h, hb => h
  | 6, v, w, w', h, hb => h
  | 7, v, w, w', h, hb => h
  | 8, v, w, w', h, hb => h
  | 9, v, w, w', h, hb => h
  | 10, v, w, w', h, hb => h
  | 11, v, w, w', h, hb => h
  | 12, v, w, w', h, hb => h
  | 13, v, w, w', h, hb => h
  | 14, v, w, w', h, hb => h
  | 15, v, w, w', h, hb => by obtain ⟨A, c, e, hr, hh⟩ := h; exact ⟨A, c, e, hr.below hb, hh⟩
  | 16, v, w, w', h, hb => h
  | 17, v, w, w', h, hb => h
  | 18, v, w, w', h, hb => h
  | 19, v, w, w', h, hb => h
  | 20, v, w, w', h, hb => h
  | 21, v, w, w', h, hb => h
  | 22, v, w, w', h, hb => by obtain ⟨s', e, hr, hh⟩ := h; exact ⟨s', e, hr.below hb, hh⟩
  | _ + 23, v, w, w', h, hb => trivial
theorem hel_size : (Tryd.prog.info? 48).map (·.size) = some 10 := by kernel_rfl
set_option maxHeartbeats 3200000 in
set_option maxRecDepth 100000 in
theorem ofh_any {B : Nat} (m : Hel) (s : HelS) (w : World) (h : HelAt B w m s) (hl : m.params.length ≤ 600) :
    Calls Tryd.prog 25 #[.agg (helCs m s)] w fun e w' => ∃ s', e = .returned (.agg (helCs m s')) ∧ HelAt 0 w' m s' ∧ Below w.heap.size w w' := by
  obtain ⟨W, hW⟩ : ∃ W, W = (w.alloc (.cells (helCs m s) 44)).alloc (.cells hel0Cs 48) := ⟨_, rfl⟩
  have hbw : Below w.heap.size w W := by rw [hW]; exact below_pair14 _ _
  have HBW := Lib.hid hbw
  have HS : Hid (OfH B w.heap.size (w.heap.size + 1) m s W) := ⟨by rw [hW]; exact heap_alloc2_old w _ _, by rw [hW]; exact heap_alloc2_new w _ _, h.below hbw⟩
  have hmix : Tryd.prog.follows .mixedOrders = true := by kernel_rfl
  clear h hbw
  unfold helCs at hW ⊢
  unfold hel0Cs at hW
  go_enter Tryd.func25, Tryd.ntmps25
  go_wp2_with fail
  rw [← hW]
  clear hW
  have HL := Lib.hid hl
  clear hl
  refine wp_lanes_list hmix (OfH B w.heap.size (w.heap.size + 1) m s) (ofhPR w.heap.size m s) (by decide +kernel) (by decide +kernel) 26 rfl (by decide +kernel) (by decide) (fun w w' => OfH.below) ofhPR_below (HS.out.below ((Below.refl _ _).drew)) ?_
  refine ⟨?_, ?_, ?_, ?_, ?_, ?_, ?_, ?_, ?_, ?_, ?_, ?_, ?_, ?_, ?_, ?_, ?_, ?_, ?_, ?_, ?_, ?_, ?_, ?_⟩
  · intro a w' hb hs hun hdep
    have e1 := hun 1 (by decide +kernel)
    simp at e1
    refine ⟨rfl, ?_⟩
    unfold Oper.wp
    go_simp
    exact ⟨_, rfl, rfl, Below.refl _ _⟩
  · intro a w' hb hs hun hdep
    have e1 : _ = _ := hdep 0 3 (by decide +kernel) rfl
    have c1 : w'.cell? ⟨w.heap.size, 0, none⟩ = some (.int .i64 m.kind) := hs.d.cell 0
    refine ⟨rfl, ?_⟩
    unfold Oper.wp
    go_simp
    exact ⟨_, rfl, rfl, Below.refl _ _⟩
  · intro a w' hb hs hun hdep
    have e1 := hun 1 (by decide +kernel)
    simp at e1
    refine ⟨rfl, ?_⟩
    unfold Oper.wp
    go_simp
    exact ⟨_, rfl, rfl, Below.refl _ _⟩
  · intro a w' hb hs hun hdep
    have e1 : _ = _ := hdep 2 5 (by decide +kernel) rfl
    have c1 : w'.cell? ⟨w.heap.size, 1, none⟩ = some (.int .i64 m.random) := hs.d.cell 1
    refine ⟨rfl, ?_⟩
    unfold Oper.wp
    go_simp
    exact ⟨_, rfl, rfl, Below.refl _ _⟩
  · intro a w' hb hs hun hdep
    have e1 := hun 1 (by decide +kernel)
    simp at e1
    refine ⟨rfl, ?_⟩
    unfold Oper.wp
    go_simp
    exact ⟨_, rfl, rfl, Below.refl _ _⟩
  · intro a w' hb hs hun hdep
    have e1 : _ = _ := hdep 4 7 (by decide +kernel) rfl
    have c1 : w'.cell? ⟨w.heap.size, 2, none⟩ = some (.int .i64 m.share) := hs.d.cell 2
    refine ⟨rfl, ?_⟩
    unfold Oper.wp
    go_simp
    exact ⟨_, rfl, rfl, Below.refl _ _⟩
  · intro a w' hb hs hun hdep
    have e1 := hun 1 (by decide +kernel)
    simp at e1
    refine ⟨rfl, ?_⟩
    unfold Oper.wp
    go_simp
    exact ⟨_, rfl, rfl, Below.refl _ _⟩
  · intro a w' hb hs hun hdep
    have e1 : _ = _ := hdep 6 9 (by decide +kernel) rfl
    have c1 : w'.cell? ⟨w.heap.size, 3, none⟩ = some (.int .i64 m.ticket) := hs.d.cell 3
    refine ⟨rfl, ?_⟩
    unfold Oper.wp
    go_simp
    exact ⟨_, rfl, rfl, Below.refl _ _⟩
  · intro a w' hb hs hun hdep
    have e1 := hun 1 (by decide +kernel)
    simp at e1
    refine ⟨rfl, ?_⟩
    unfold Oper.wp
    go_simp
    exact ⟨_, rfl, rfl, Below.refl _ _⟩
  · intro a w' hb hs hun hdep
    have e1 : _ = _ := hdep 8 11 (by decide +kernel) rfl
    have c1 : w'.cell? ⟨w.heap.size, 4, none⟩ = some (.int .i64 m.mac) := hs.d.cell 4
    refine ⟨rfl, ?_⟩
    unfold Oper.wp
    go_simp
    exact ⟨_, rfl, rfl, Below.refl _ _⟩
  · intro a w' hb hs hun hdep
    have e1 := hun 1 (by decide +kernel)
    simp at e1
    refine ⟨rfl, ?_⟩
    unfold Oper.wp
    go_simp
    exact ⟨_, rfl, rfl, Below.refl _ _⟩
  · intro a w' hb hs hun hdep
    have e1 : _ = _ := hdep 10 13 (by decide +kernel) rfl
    have c1 : w'.cell? ⟨w.heap.size, 5, none⟩ = some (.bool m.flag) := hs.d.cell 5
    refine ⟨rfl, ?_⟩
    unfold Oper.wp
    go_simp
    exact ⟨_, rfl, rfl, Below.refl _ _⟩
  · intro a w' hb hs hun hdep
    refine ⟨rfl, ?_⟩
    unfold Oper.wp
    go_simp
    exact ⟨_, rfl, ⟨_, rfl⟩, below_new _⟩
  · intro a w' hb hs hun hdep
    have e1 := hun 1 (by decide +kernel)
    simp at e1
    refine ⟨rfl, ?_⟩
    unfold Oper.wp
    go_simp
    exact ⟨_, rfl, rfl, Below.refl _ _⟩
  · intro a w' hb hs hun hdep
    have e1 : _ = _ := hdep 13 16 (by decide +kernel) rfl
    have c1 : w'.cell? ⟨w.heap.size, 6, none⟩ = some (.slice s.A m.params.length s.c) := hs.d.cell 6
    refine ⟨rfl, ?_⟩
    unfold Oper.wp
    go_simp
    exact ⟨_, rfl, rfl, Below.refl _ _⟩
  · intro a w' hb hs hun hdep
    obtain ⟨g, e1⟩ := hdep 12 15 (by decide +kernel) rfl
    have e2 : _ = _ := hdep 14 17 (by decide +kernel) rfl
    exact ⟨rfl, lane_app 15 17 22 5 .u8 (.int .u8 0) 1 rfl Tryd.underlying22 info_u8 rfl sp_u8 e1 e2 hs.h (by have := HL.out; omega) (by have := HL.out; omega) (by have := hb.size; have := lt_of_get hs.r; omega)⟩
  · intro a w' hb hs hun hdep
    have e1 := hun 1 (by decide +kernel)
    simp at e1
    refine ⟨rfl, ?_⟩
    unfold Oper.wp
    go_simp
    exact ⟨_, rfl, rfl, Below.refl _ _⟩
  · intro a w' hb hs hun hdep
    have e1 : _ = _ := hdep 16 19 (by decide +kernel) rfl
    have c1 : w'.cell? ⟨w.heap.size, 7, none⟩ = some (.string m.name) := hs.d.cell 7
    refine ⟨rfl, ?_⟩
    unfold Oper.wp
    go_simp
    exact ⟨_, rfl, rfl, Below.refl _ _⟩
  · intro a w' hb hs hun hdep
    have e1 := hun 1 (by decide +kernel)
    simp at e1
    refine ⟨rfl, ?_⟩
    unfold Oper.wp
    go_simp
    exact ⟨_, rfl, rfl, Below.refl _ _⟩
  · intro a w' hb hs hun hdep
    have e1 : _ = _ := hdep 18 21 (by decide +kernel) rfl
    have c1 : w'.cell? ⟨w.heap.size, 8, none⟩ = some (.int .i64 m.version) := hs.d.cell 8
    refine ⟨rfl, ?_⟩
    unfold Oper.wp
    go_simp
    exact ⟨_, rfl, rfl, Below.refl _ _⟩
  · intro a w' hb hs hun hdep
    have e1 := hun 1 (by decide +kernel)
    simp at e1
    refine ⟨rfl, ?_⟩
    unfold Oper.wp
    go_simp
    exact ⟨_, rfl, rfl, Below.refl _ _⟩
  · intro a w' hb hs hun hdep
    have e1 : _ = _ := hdep 20 23 (by decide +kernel) rfl
    have c1 : w'.cell? ⟨w.heap.size, 9, none⟩ = some (.int .i64 m.life) := hs.d.cell 9
    refine ⟨rfl, ?_⟩
    unfold Oper.wp
    go_simp
    exact ⟨_, rfl, rfl, Below.refl _ _⟩
  · intro a w' hb hs hun hdep
    have e0 : _ = _ := hdep 1 4 (by decide +kernel) rfl
    have e1 : _ = _ := hdep 3 6 (by decide +kernel) rfl
    have e2 : _ = _ := hdep 5 8 (by decide +kernel) rfl
    have e3 : _ = _ := hdep 7 10 (by decide +kernel) rfl
    have e4 : _ = _ := hdep 9 12 (by decide +kernel) rfl
    have e5 : _ = _ := hdep 11 14 (by decide +kernel) rfl
    obtain ⟨A6, c6, e6, r6, i6⟩ := hdep 15 18 (by decide +kernel) rfl
    have R6 := Lib.hid r6; have I6 := Lib.hid i6; clear r6 i6
    have e7 : _ = _ := hdep 17 20 (by decide +kernel) rfl
    have e8 : _ = _ := hdep 19 22 (by decide +kernel) rfl
    have e9 : _ = _ := hdep 21 24 (by decide +kernel) rfl
    refine ⟨rfl, ?_⟩
    unfold Oper.wp
    go_simp
    exact ⟨_, rfl, ⟨⟨A6, c6⟩, rfl, R6.out, I6.out⟩, Below.refl _ _⟩
  · intro a w' hds hts hb hs hun hpr
    obtain ⟨s', e1, hr, hi⟩ := hpr 22 25 (by decide) rfl
    have e2 := hun 2 (by decide +kernel)
    simp at e2
    have hrun := run_storeAt_row (P := Tryd.prog) (w := w') 48 (w.heap.size + 1) hel0Cs (helCs m s') 48 hel_size hs.r rfl (by simp [helCs, Value.oneCell'])
    refine ⟨rfl, ?_⟩
    have e1' : a.eval (.tmp 25) = .agg (helCs m s') := by show a.tmps.getD 25 undef = _; simpa using e1
    have e2' : a.eval (.tmp 2) = .pointer (some ⟨w.heap.size + 1, 0, none⟩) := by show a.tmps.getD 2 undef = _; simpa using e2
    unfold Oper.wp execOp
    simp only [e1', e2', Sem.run_bind, hrun, Result.andThen_ok, Sem.run_pure]
    simp only [Oper.upon, Act.put, Exit.then]
    go_wp2_with fail
    have hrow := setRow_heap w' (w.heap.size + 1) hel0Cs (helCs m s') _ _ hs.r
    have hl2 := run_loadVar_row (P := Tryd.prog) (w'.setRow (w.heap.size + 1) (helCs m s')) (w.heap.size + 1) 48 48 (helCs m s') (0, 0) _ hrow Tryd.underlying48 rfl hel_size
    refine bodyPost_ret (v := .agg (helCs m s')) (by simp [results, Tryd.results25, e2, asAddr, hl2, Result.andThen]) (by simpa using hds) ?_
    have hb0 : Below W.heap.size W W.drew := (Below.refl _ _).drew
    have hb1 : Below W.heap.size W w' := hb0.trans hb
    have hbw : Below w.heap.size w w' := HBW.out.trans (hb1.mono HBW.out.size)
    exact ⟨s', rfl, Rds.putRow hr _ fun a q e => by have := hi a q e; omega, below_setRow hbw (by omega) _⟩
end Go.Proofs.YtbfgoojpbhlboaaDoor
