/- ParamsWrite: the walk. No condition but the table of bit places. -/
import Derived.Test.YtbfgoojpbhlboaaDoorLaw07
import Derived.Test.YtbfgoojpbhlboaaDoorRow14
set_option linter.unusedVariables false
set_option linter.unusedSimpArgs false
namespace Go.Proofs.YtbfgoojpbhlboaaDoor
open Go Go.RowKit

theorem ParB.ten {w : World} {b : Nat} {p : Par} {s : ParS} (h : ParB w b p s) : (w.cell? ⟨b, 0, none⟩ = some (.int .i64 p.idle) ∧ w.cell? ⟨b, 1, none⟩ = some (.int .i64 p.data) ∧ w.cell? ⟨b, 2, none⟩ = some (.bool p.hg) ∧ w.cell? ⟨b, 3, none⟩ = some (.bool p.ho) ∧ w.cell? ⟨b, 4, none⟩ = some (.bool p.hr)) ∧ w.cell? ⟨b, 5, none⟩ = some (.slice s.gA p.goal.length s.gc) ∧ w.cell? ⟨b, 6, none⟩ = some (.slice s.oA p.own.length s.oc) ∧ w.cell? ⟨b, 7, none⟩ = some (.slice s.rA p.retry.length s.rc) ∧ w.cell? ⟨b, 8, none⟩ = some (.int .i64 p.chosen) ∧ w.cell? ⟨b, 9, none⟩ = some (.slice s.vA p.vs.length s.vc) :=
  ⟨⟨h.cell 0, h.cell 1, h.cell 2, h.cell 3, h.cell 4⟩, h.cell 5, h.cell 6, h.cell 7, h.cell 8, h.cell 9⟩
theorem ParD.ten {w : World} {b : Nat} {p : Par} {s : ParS} (h : ParD w b p s) : (w.cell? ⟨b, 0, none⟩ = some (.int .i64 p.idle) ∧ w.cell? ⟨b, 1, none⟩ = some (.int .i64 p.data) ∧ w.cell? ⟨b, 2, none⟩ = some (.bool p.hg) ∧ w.cell? ⟨b, 3, none⟩ = some (.bool p.ho) ∧ w.cell? ⟨b, 4, none⟩ = some (.bool p.hr)) ∧ w.cell? ⟨b, 5, none⟩ = some (.slice s.gA p.goal.length s.gc) ∧ w.cell? ⟨b, 6, none⟩ = some (.slice s.oA p.own.length s.oc) ∧ w.cell? ⟨b, 7, none⟩ = some (.slice s.rA p.retry.length s.rc) ∧ w.cell? ⟨b, 8, none⟩ = some (.int .i64 p.chosen) ∧ w.cell? ⟨b, 9, none⟩ = some (.slice s.vA p.vs.length s.vc) :=
  ⟨⟨h.cell 0, h.cell 1, h.cell 2, h.cell 3, h.cell 4⟩, h.cell 5, h.cell 6, h.cell 7, h.cell 8, h.cell 9⟩
/-- The document's params in their box and in memory, seen from a later world. -/
structure PW (w W : World) (g : Nat) (p : Par) (s : ParS) : Prop where
  bl : Below w.heap.size w W
  d : ParD W g p s
  h : ParAt w.heap.size W p s
theorem PW.below {w W W' : World} {g : Nat} {p : Par} {s : ParS} (h : PW w W g p s) (hb : Below W.heap.size W W') : PW w W' g p s := ⟨below_next h.bl h.bl.size hb, h.d.later hb (lt_of_get h.d), h.h.below hb⟩
/-- The program's params in a local variable. -/
structure PX (W : World) (g : Nat) (p : Par) (s : ParS) : Prop where
  b : ParB W g p s
  h : ParAt 0 W p s
theorem PX.below {W W' : World} {g : Nat} {p : Par} {s : ParS} (h : PX W g p s) (hb : Below W.heap.size W W') : PX W' g p s := ⟨h.b.later hb (lt_of_get h.b), h.h.below hb⟩
set_option maxHeartbeats 6400000 in
set_option maxRecDepth 100000 in
theorem paramsWrite_walk (w : World) (ht : Tz w) (p : Par) (s : ParS) (h : ParAt w.heap.size w p s) :
    Calls Tryd.prog 3 #[.agg (parCs p s)] w fun e w' => e = .returned (.bool true) ∧ Below w.heap.size w w' := by
  have HT := Lib.hid ht
  obtain ⟨W, hW⟩ : ∃ W, W = w.alloc (.cells (parCs p s) 25) := ⟨_, rfl⟩
  have hbw : Below w.heap.size w W := by rw [hW]; exact below_new _
  have P0 : Hid (PW w W w.heap.size p s) := ⟨hbw, by rw [hW]; exact heap_alloc_new w _, h.below hbw⟩
  clear h hbw ht
  obtain ⟨⟨a0, a1, a2, a3, a4⟩, a5, a6, a7, a8, a9⟩ := P0.out.d.ten
  have key := light_any p s W
  unfold parCs at hW key ⊢
  go_enter Tryd.func3, Tryd.ntmps3
  subst hW
  go_wp2_with fail
  refine key.mono ?_
  clear key a0 a1 a2 a3 a4 a5 a6 a7 a8 a9
  rintro e w1 ⟨rfl, hb⟩
  have P1 := Lib.hid (P0.out.below hb)
  clear P0 hb
  by_cases hl : lightP p
  rotate_left
  · rw [decide_eq_false hl]
    clear hl
    go_wp2_with fail
    go_ret
    exact ⟨rfl, P1.out.bl⟩
  rw [decide_eq_true hl]
  obtain ⟨⟨a0, a1, a2, a3, a4⟩, a5, a6, a7, a8, a9⟩ := P1.out.d.ten
  have key := of_any p s w1 P1.out.h hl
  have HL := Lib.hid hl
  clear hl
  unfold parCs at key
  go_wp2_with fail
  refine key.mono ?_
  clear key a0 a1 a2 a3 a4 a5 a6 a7 a8 a9
  rintro e w2 ⟨s2, rfl, hx, hb⟩
  have P2 := Lib.hid (P1.out.below hb)
  clear P1 hb
  obtain ⟨W3, hW3⟩ : ∃ W3, W3 = w2.alloc (.cells (parCs p s2) 27) := ⟨_, rfl⟩
  have hb3 : Below w2.heap.size w2 W3 := by rw [hW3]; exact below_new _
  have P3 := Lib.hid (P2.out.below hb3)
  have X3 : Hid (PX W3 w2.heap.size p s2) := ⟨by rw [hW3]; exact heap_alloc_new w2 _, hx.below hb3⟩
  obtain ⟨⟨b0, b1, b2, b3, b4⟩, b5, b6, b7, b8, b9⟩ := X3.out.b.ten
  have key := write_any p s2 W3 X3.out.h HL.out (HT.out.later P3.out.bl) (fun W' h' => right_any p s2 W' h' (by have := HL.out.2.2.2; omega))
  unfold parCs at hW3 key
  clear hx hb3 P2
  subst hW3
  go_wp2_with fail
  refine key.mono ?_
  clear key b0 b1 b2 b3 b4 b5 b6 b7 b8 b9
  rintro e w4 ⟨v4, rfl, ho, hb⟩
  have P4 := Lib.hid (P3.out.below hb)
  have X4 := Lib.hid (X3.out.below hb)
  obtain ⟨L, hL⟩ : ∃ L, L = writeP p := ⟨_, rfl⟩
  rw [← hL] at ho
  obtain ⟨A4, c4, rfl⟩ := ho.slice
  have HV4 := Lib.hid (ho.rds (B' := 0))
  have HLE := Lib.hid hL
  clear ho hb hL P3 X3
  have hvl : p.vs.length ≤ 1000 := by have := HL.out.2.2.2; omega
  have key := rright_any p s w4 P4.out.h hvl
  obtain ⟨⟨a0, a1, a2, a3, a4⟩, a5, a6, a7, a8, a9⟩ := P4.out.d.ten
  unfold parCs at key
  go_wp2_with fail
  refine key.mono ?_
  clear key a0 a1 a2 a3 a4 a5 a6 a7 a8 a9
  rintro e w5 ⟨rfl, hb⟩
  have P5 := Lib.hid (P4.out.below hb)
  have X5 := Lib.hid (X4.out.below hb)
  have HV5 := Lib.hid (HV4.out.below hb)
  clear hb P4 X4 HV4
  have key := right_any p s2 w5 X5.out.h hvl
  obtain ⟨⟨b0, b1, b2, b3, b4⟩, b5, b6, b7, b8, b9⟩ := X5.out.b.ten
  unfold parCs at key
  by_cases hr : rightP p
  · have HR := Lib.hid hr
    have HLB : Hid (L = writeB p) := HLE.out.trans (if_pos hr)
    unfold RightPost at key
    rw [decide_eq_true hr] at key ⊢
    clear hr
    go_wp2_with fail
    refine key.mono ?_
    clear key b0 b1 b2 b3 b4 b5 b6 b7 b8 b9
    rintro e w6 ⟨rfl, hb⟩
    have P6 := Lib.hid (P5.out.below hb)
    have HV6 := Lib.hid (HV5.out.below hb)
    clear hb P5 X5 HV5
    have key := rwrite_any p s w6 P6.out.h HL.out (by have := HR.out.1.2.2; unfold verOk at this; omega) (fun v hv => by have := HR.out.2.2.2.1 v hv; unfold verOk at this; omega)
    rw [← HLB.out] at key
    obtain ⟨⟨a0, a1, a2, a3, a4⟩, a5, a6, a7, a8, a9⟩ := P6.out.d.ten
    unfold parCs at key
    go_wp2_with fail
    refine key.mono ?_
    clear key a0 a1 a2 a3 a4 a5 a6 a7 a8 a9
    rintro e w7 ⟨v7, rfl, ho, hb⟩
    obtain ⟨A7, c7, rfl⟩ := ho.slice
    have P7 := Lib.hid (P6.out.below hb)
    have key := same_self07 A4 A7 _ _ c4 c7 L w7 (HV6.out.below hb) (ho.rds (B' := 0))
    clear ho hb P6 HV6
    go_wp2_with fail
    refine key.mono ?_
    clear key
    rintro e w8 ⟨rfl, hb⟩
    have P8 := Lib.hid (P7.out.below hb)
    clear hb P7
    go_wp2_with fail
    refine (awake07_any w8 (HT.out.later P8.out.bl)).mono ?_
    rintro e w9 ⟨rfl, hb⟩
    have P9 := Lib.hid (P8.out.below hb)
    clear hb P8
    go_wp2_with fail
    go_ret
    exact ⟨rfl, P9.out.bl⟩
  · have hL0 : L = [] := HLE.out.trans (if_neg hr)
    unfold RightPost at key
    rw [decide_eq_false hr] at key ⊢
    clear hr
    subst hL0
    simp only [List.length_nil]
    go_wp2_with fail
    refine key.mono ?_
    clear key b0 b1 b2 b3 b4 b5 b6 b7 b8 b9
    rintro e w6 ⟨rfl, hb⟩
    have P6 := Lib.hid (P5.out.below hb)
    clear hb P5 X5 HV5
    go_wp2_with fail
    refine (awake07_any w6 (HT.out.later P6.out.bl)).mono ?_
    rintro e w9 ⟨rfl, hb⟩
    have P9 := Lib.hid (P6.out.below hb)
    clear hb P6
    go_wp2_with fail
    go_ret
    exact ⟨rfl, P9.out.bl⟩
theorem paramsWrite_row (w : World) (ht : Tz w) {v : Value} (h : ParArg w v) : Calls Tryd.prog 3 #[v] w fun e w' => e = .returned (.bool true) ∧ Below w.heap.size w w' := by
  obtain ⟨p, s, rfl, h, -⟩ := h
  exact paramsWrite_walk w ht p s h
end Go.Proofs.YtbfgoojpbhlboaaDoor
