/- HelloWrites: the walk. No condition but the table of bit places. -/
import Derived.Test.YtbfgoojpbhlboaaDoorHelWrite
import Derived.Test.YtbfgoojpbhlboaaDoorHelRefW
import Derived.Test.YtbfgoojpbhlboaaDoorHelRightR
import Derived.Test.YtbfgoojpbhlboaaDoorRow14
set_option linter.unusedVariables false
set_option linter.unusedSimpArgs false
namespace Go.Proofs.YtbfgoojpbhlboaaDoor
open Go Go.RowKit

def msg14 : Hel := ⟨20, 0, 0, 0, 7, false, [], ByteArray.mk #[], 0, 0⟩
theorem write14_one : writeM msg14 = [20, 0, 0, 4, 0, 0, 0, 7] := by decide +kernel
set_option maxHeartbeats 3200000 in
set_option maxRecDepth 100000 in
theorem awake14_any (w : World) (ht : Tz w) : Calls Tryd.prog 29 #[] w fun e w' => e = .returned (.bool true) ∧ Below w.heap.size w w' := by
  have key := hwrite_any msg14 ⟨none, 0⟩ w (Rds.nil _ _ _) (fun x hx => by simp [msg14] at hx) (by decide) ht
  rw [write14_one] at key
  unfold helCs msg14 at key
  simp only [List.length_nil] at key
  clear ht
  go_enter Tryd.func29, Tryd.ntmps29
  go_wp2_with fail
  refine key.mono ?_
  clear key
  rintro e w1 ⟨A1, c1, rfl, hr, hb⟩
  have key := same_self14 A1 (some ⟨w1.heap.size, 0, none⟩) 8 8 c1 8 [20, 0, 0, 4, 0, 0, 0, 7] (w1.alloc (.cells #[.int .u8 20, .int .u8 0, .int .u8 0, .int .u8 4, .int .u8 0, .int .u8 0, .int .u8 0, .int .u8 7] 5)) (hr.below (below_new _)) (OwnI.fresh (B := 0) (xs := [20, 0, 0, 4, 0, 0, 0, 7]) (t := 5) (Nat.zero_le _) sp_u8 (by simp)).rds (B0 := 0) (B1 := 0)
  have HB : Hid (Below w.heap.size w (w1.alloc (.cells #[.int .u8 20, .int .u8 0, .int .u8 0, .int .u8 4, .int .u8 0, .int .u8 0, .int .u8 0, .int .u8 7] 5))) := hb.trans ((below_new _).mono hb.size)
  clear hr hb
  simp only [List.length_cons, List.length_nil]
  go_wp2_with fail
  refine key.mono ?_
  clear key
  rintro e w2 ⟨rfl, hb2⟩
  have HB2 := Lib.hid (below_next HB.out HB.out.size hb2)
  clear hb2
  go_wp2_with fail
  go_ret
  exact ⟨rfl, HB2.out⟩
set_option maxHeartbeats 6400000 in
set_option maxRecDepth 100000 in
theorem helloWrites_walk (w : World) (ht : Tz w) (m : Hel) (s : HelS) (h : HelAt w.heap.size w m s) (hy : Byt m.params) :
    Calls Tryd.prog 8 #[.agg (helCs m s)] w fun e w' => e = .returned (.bool true) ∧ Below w.heap.size w w' := by
  have HT := Lib.hid ht
  have HY := Lib.hid hy
  obtain ⟨W, hW⟩ : ∃ W, W = w.alloc (.cells (helCs m s) 44) := ⟨_, rfl⟩
  have hbw : Below w.heap.size w W := by rw [hW]; exact below_new _
  have P0 : Hid (HW14 w w.heap.size m s W) := ⟨hbw, by rw [hW]; exact heap_alloc_new w _, HelAt.below h hbw⟩
  clear h hbw ht hy
  obtain ⟨⟨a0, a1, a2, a3, a4⟩, a5, a6, a7, a8, a9⟩ := P0.out.d.ten
  have key := light14_any m s W
  unfold helCs at hW key ⊢
  go_enter Tryd.func8, Tryd.ntmps8
  subst hW
  go_wp2_with fail
  refine key.mono ?_
  clear key a0 a1 a2 a3 a4 a5 a6 a7 a8 a9
  rintro e w1 ⟨rfl, hb⟩
  have P1 := Lib.hid (P0.out.below hb)
  clear P0 hb
  by_cases hl : lightM m
  rotate_left
  · rw [decide_eq_false hl]
    clear hl
    go_wp2_with fail
    go_ret
    exact ⟨rfl, P1.out.bl⟩
  rw [decide_eq_true hl]
  obtain ⟨⟨a0, a1, a2, a3, a4⟩, a5, a6, a7, a8, a9⟩ := P1.out.d.ten
  have key := ofh_any m s w1 P1.out.h hl.1
  have HL := Lib.hid hl
  clear hl
  unfold helCs at key
  go_wp2_with fail
  refine key.mono ?_
  clear key a0 a1 a2 a3 a4 a5 a6 a7 a8 a9
  rintro e w2 ⟨s2, rfl, hx, hb⟩
  have P2 := Lib.hid (P1.out.below hb)
  clear P1 hb
  obtain ⟨W3, hW3⟩ : ∃ W3, W3 = w2.alloc (.cells (helCs m s2) 48) := ⟨_, rfl⟩
  have hb3 : Below w2.heap.size w2 W3 := by rw [hW3]; exact below_new _
  have P3 := Lib.hid (P2.out.below hb3)
  have X3 : Hid (BX14 0 w w2.heap.size m s2 W3) := ⟨P3.out.bl, by rw [hW3]; exact heap_alloc_new w2 _, HelAt.below hx hb3⟩
  obtain ⟨⟨b0, b1, b2, b3, b4⟩, b5, b6, b7, b8, b9⟩ := X3.out.d.ten
  have key := hwrite_any m s2 W3 (Rds.mono X3.out.h (Nat.zero_le _)) HY.out HL.out.1 (HT.out.later P3.out.bl)
  unfold helCs at hW3 key
  clear hx hb3 P2
  subst hW3
  go_wp2_with fail
  refine key.mono ?_
  clear key b0 b1 b2 b3 b4 b5 b6 b7 b8 b9
  rintro e w4 ⟨A4, c4, rfl, hr4, hb⟩
  have P4 := Lib.hid (P3.out.below hb)
  have X4 := Lib.hid (X3.out.below hb)
  obtain ⟨L, hL⟩ : ∃ L, L = writeM m := ⟨_, rfl⟩
  rw [← hL] at hr4 ⊢
  have HV4 := Lib.hid hr4
  have HLE := Lib.hid hL
  clear hr4 hb hL P3 X3
  have key := rright14_any m s w4 (Rds.mono P4.out.h P4.out.bl.size) HY.out
  obtain ⟨⟨a0, a1, a2, a3, a4⟩, a5, a6, a7, a8, a9⟩ := P4.out.d.ten
  unfold helCs at key
  go_wp2_with fail
  refine key.mono ?_
  clear key a0 a1 a2 a3 a4 a5 a6 a7 a8 a9
  rintro e w5 ⟨rfl, hb⟩
  have P5 := Lib.hid (P4.out.below hb)
  have X5 := Lib.hid (X4.out.below hb)
  have HV5 := Lib.hid (HV4.out.below hb)
  clear hb P4 X4 HV4
  have key := right14_any m s2 w5 (Rds.mono X5.out.h (Nat.zero_le _)) HY.out
  obtain ⟨⟨b0, b1, b2, b3, b4⟩, b5, b6, b7, b8, b9⟩ := X5.out.d.ten
  unfold helCs at key
  by_cases hr : rightM m
  · have HR := Lib.hid hr
    have HLB : Hid (L = msgB m.kind (bodyB m)) := HLE.out.trans (if_pos hr)
    rw [decide_eq_true hr] at key ⊢
    clear hr
    go_wp2_with fail
    refine key.mono ?_
    clear key b0 b1 b2 b3 b4 b5 b6 b7 b8 b9
    rintro e w6 ⟨rfl, hb⟩
    have P6 := Lib.hid (P5.out.below hb)
    have HV6 := Lib.hid (HV5.out.below hb)
    clear hb P5 X5 HV5
    have key := rhwrite_any m s w6 (Rds.mono P6.out.h P6.out.bl.size) HL.out.1 HR.out.2
    rw [← HLB.out] at key
    obtain ⟨⟨a0, a1, a2, a3, a4⟩, a5, a6, a7, a8, a9⟩ := P6.out.d.ten
    unfold helCs at key
    go_wp2_with fail
    refine key.mono ?_
    clear key a0 a1 a2 a3 a4 a5 a6 a7 a8 a9
    rintro e w7 ⟨A7, c7, rfl, hr7, hb⟩
    have P7 := Lib.hid (P6.out.below hb)
    have key := same_self14 A4 A7 _ _ c4 c7 L w7 (HV6.out.below hb) hr7
    clear hr7 hb P6 HV6
    go_wp2_with fail
    refine key.mono ?_
    clear key
    rintro e w8 ⟨rfl, hb⟩
    have P8 := Lib.hid (P7.out.below hb)
    clear hb P7
    go_wp2_with fail
    refine (awake14_any w8 (HT.out.later P8.out.bl)).mono ?_
    rintro e w9 ⟨rfl, hb⟩
    have P9 := Lib.hid (P8.out.below hb)
    clear hb P8
    go_wp2_with fail
    go_ret
    exact ⟨rfl, P9.out.bl⟩
  · have hL0 : L = [] := HLE.out.trans (if_neg hr)
    rw [decide_eq_false hr] at key ⊢
    clear hr
    subst hL0
    simp only [List.length_nil]
    go_wp2_with fail
    refine key.mono ?_
    clear key b0 b1 b2 b3 b4 b5 b6 b7 b8 b9
    rintro e w6 ⟨rfl, hb⟩
    have P6 := Lib.hid (P5.out.below hb)
    clear hb P5 X5 HV5
    go_wp2_with fail
    refine (awake14_any w6 (HT.out.later P6.out.bl)).mono ?_
    rintro e w9 ⟨rfl, hb⟩
    have P9 := Lib.hid (P6.out.below hb)
    clear hb P6
    go_wp2_with fail
    go_ret
    exact ⟨rfl, P9.out.bl⟩
theorem helloWrites_row (w : World) (ht : Tz w) {v : Value} (h : HelArg w v) : Calls Tryd.prog 8 #[v] w fun e w' => e = .returned (.bool true) ∧ Below w.heap.size w w' := by
  obtain ⟨m, s, rfl, h, hy⟩ := h
  exact helloWrites_walk w ht m s h hy
end Go.Proofs.YtbfgoojpbhlboaaDoor
