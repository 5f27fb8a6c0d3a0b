/- The reference of layer 14: Right. No condition. Printed by gen_helright.py. -/
import Derived.Test.YtbfgoojpbhlboaaDoorHelSmall
import Derived.Test.YtbfgoojpbhlboaaDoorRefRead07
import Derived.Test.YtbfgoojpbhlboaaDoorTurn
set_option linter.unusedVariables false
set_option linter.unusedSimpArgs false
namespace Go.Proofs.YtbfgoojpbhlboaaDoor
open Go Go.RowKit

set_option maxHeartbeats 1600000 in
set_option maxRecDepth 100000 in
theorem rparams14_any {A : Option Addr} {c : Nat} {xs : List Int} (w : World) (h : Rds w.heap.size w .u8 A xs.length c xs) (hb : Byt xs) :
    Calls Tryd.prog 61 #[.slice A xs.length c] w fun e w' => e = .returned (.bool (decide (paramsOk xs))) ∧ Below w.heap.size w w' := by
  have key := rreadP_any w h hb
  obtain ⟨⟨p, er⟩, hp⟩ : ∃ r, r = readP xs := ⟨_, rfl⟩
  have hq : paramsOk xs ↔ er = 0 := by unfold paramsOk; rw [← hp]
  have HD : Hid (decide (paramsOk xs) = (er == 0)) := by
    show _ = _
    by_cases q : er = 0
    · rw [decide_eq_true (hq.2 q)]; simp [q]
    · rw [decide_eq_false fun k => q (hq.1 k)]; simp [q]
  clear hq
  unfold RReadPost at key
  rw [← hp] at key
  simp only at key
  obtain ⟨D, hD⟩ : ∃ D, D = decide (paramsOk xs) := ⟨_, rfl⟩
  rw [← hD] at HD ⊢
  clear hp hD h hb
  go_enter Tryd.func61, Tryd.ntmps61
  go_wp2_with fail
  refine key.mono ?_
  clear key
  rintro e w2 ⟨s, rfl, hat, hb2⟩
  have HB3 : Hid (Below w.heap.size w (w2.alloc (.cells (parCs p s) 25))) := hb2.trans ((below_new _).mono hb2.size)
  unfold parCs at HB3 ⊢
  clear hat hb2
  go_wp2_with fail
  go_ret
  exact ⟨by rw [HD.out]; rfl, HB3.out⟩
/-- A message in its box and in memory, seen from a later world. -/
structure HW14 (w : World) (g : Nat) (m : Hel) (s : HelS) (W : World) : Prop where
  bl : Below w.heap.size w W
  d : HelD W g m s
  h : HelAt w.heap.size W m s
theorem HW14.below {w W W' : World} {g : Nat} {m : Hel} {s : HelS} (h : HW14 w g m s W) (hb : Below W.heap.size W W') : HW14 w g m s W' := ⟨below_next h.bl h.bl.size hb, h.d.later hb (lt_of_get h.d), h.h.below hb⟩
set_option maxHeartbeats 6400000 in
set_option maxRecDepth 100000 in
theorem rright14_k1 (m0 m1 m2 m3 m4 : Int) (m5 : Bool) (m6 : List Int) (m7 : ByteArray) (m8 m9 : Int) (s : HelS) (w : World) (h : Rds w.heap.size w .u8 s.A m6.length s.c m6) (hy : Byt m6) (h0 : m0 = 1) :
    Calls Tryd.prog 27 #[.agg (helCs ⟨m0, m1, m2, m3, m4, m5, m6, m7, m8, m9⟩ s)] w fun e w' => e = .returned (.bool (decide (rightM ⟨m0, m1, m2, m3, m4, m5, m6, m7, m8, m9⟩))) ∧ Below w.heap.size w w' := by
  subst h0
  have HY := Lib.hid hy
  obtain ⟨W, hW⟩ : ∃ W, W = w.alloc (.cells (helCs ⟨1, m1, m2, m3, m4, m5, m6, m7, m8, m9⟩ s) 44) := ⟨_, rfl⟩
  have hbw : Below w.heap.size w W := by rw [hW]; exact below_new _
  have P0 : Hid (HW14 w w.heap.size ⟨1, m1, m2, m3, m4, m5, m6, m7, m8, m9⟩ s W) := ⟨hbw, by rw [hW]; exact heap_alloc_new w _, Rds.below h hbw⟩
  clear hbw h hy
  unfold helCs at hW ⊢
  simp only at hW ⊢
  obtain ⟨⟨x0, x1, x2, x3, x4⟩, x5, x6, x7, x8, x9⟩ := P0.out.d.ten
  simp only at x0 x1 x2 x3 x4 x5 x6 x7 x8 x9
  go_enter Tryd.func27, Tryd.ntmps27
  subst hW
  by_cases z7 : m7 = ByteArray.empty
  rotate_left
  · have HE := Lib.hid (show decide (rightM (Hel.mk 1 m1 m2 m3 m4 m5 m6 m7 m8 m9)) = false from decide_eq_false fun h => by have hr := (rest_iff _).1 h.1; exact z7 (hr.2.2.2.1 (by simp; try omega)))
    have e7 : ¬ m7.toList = [] := by intro q; apply z7; rw [ByteArray.toList_eq] at q; exact ByteArray.ext (Array.toList_inj.1 q)
    clear z7
    go_wp2_with fail
    go_ret
    rw [HE.out]
    exact ⟨rfl, P0.out.bl⟩
  subst z7
  by_cases z8 : m8 = 0
  rotate_left
  · have HE := Lib.hid (show decide (rightM (Hel.mk 1 m1 m2 m3 m4 m5 m6 ByteArray.empty m8 m9)) = false from decide_eq_false fun h => by have hr := (rest_iff _).1 h.1; exact z8 (hr.2.2.2.2.1 (by simp; try omega)))
    have e8 : (m8 != 0) = true := by simp [z8]
    clear z8
    go_wp2_with fail
    go_ret
    rw [HE.out]
    exact ⟨rfl, P0.out.bl⟩
  subst z8
  by_cases z9 : m9 = 0
  rotate_left
  · have HE := Lib.hid (show decide (rightM (Hel.mk 1 m1 m2 m3 m4 m5 m6 ByteArray.empty 0 m9)) = false from decide_eq_false fun h => by have hr := (rest_iff _).1 h.1; exact z9 (hr.2.2.2.2.2 (by simp; try omega)))
    have e9 : (m9 != 0) = true := by simp [z9]
    clear z9
    go_wp2_with fail
    go_ret
    rw [HE.out]
    exact ⟨rfl, P0.out.bl⟩
  subst z9
  have HRest : Hid (restM (Hel.mk 1 m1 m2 m3 m4 m5 m6 ByteArray.empty 0 0)) := (rest_iff _).2 ⟨⟨fun q => ⟨(by first | rfl | (exfalso; simp at q; done) | (exfalso; simp at q; omega)), (by first | rfl | (exfalso; simp at q; done) | (exfalso; simp at q; omega))⟩, fun q => (by first | rfl | (exfalso; simp at q; done) | (exfalso; simp at q; omega)), fun q => (by first | rfl | (exfalso; simp at q; done) | (exfalso; simp at q; omega))⟩, fun q => (by first | rfl | (exfalso; simp at q; done) | (exfalso; simp at q; omega)), fun q => (by first | rfl | (exfalso; simp at q; done) | (exfalso; simp at q; omega)), fun q => (by first | rfl | (exfalso; simp at q; done) | (exfalso; simp at q; omega)), fun q => (by first | rfl | (exfalso; simp at q; done) | (exfalso; simp at q; omega)), fun q => (by first | rfl | (exfalso; simp at q; done) | (exfalso; simp at q; omega))⟩
  by_cases c1 : termOk m1
  rotate_left
  · have HX := Lib.hid c1
    have HE := Lib.hid (show decide (rightM (Hel.mk 1 m1 m2 m3 m4 m5 m6 ByteArray.empty 0 0)) = false from decide_eq_false fun h => by have := h.2; simp [ownM, c1] at this)
    go_wp2_with fail
    refine (rterm14_any _ _).mono ?_
    rintro e w1 ⟨rfl, hw⟩
    subst hw
    rw [decide_eq_false c1]
    go_wp2_with fail
    go_ret
    rw [HE.out]
    exact ⟨rfl, P0.out.bl⟩
  by_cases c2 : termOk m2
  rotate_left
  · have HX := Lib.hid c2
    have HE := Lib.hid (show decide (rightM (Hel.mk 1 m1 m2 m3 m4 m5 m6 ByteArray.empty 0 0)) = false from decide_eq_false fun h => by have := h.2; simp [ownM, c2] at this)
    go_wp2_with fail
    refine (rterm14_any _ _).mono ?_
    rintro e w2 ⟨rfl, hw⟩
    subst hw
    rw [decide_eq_true c1]
    go_wp2_with fail
    refine (rterm14_any _ _).mono ?_
    rintro e w3 ⟨rfl, hw⟩
    subst hw
    rw [decide_eq_false c2]
    go_wp2_with fail
    go_ret
    rw [HE.out]
    exact ⟨rfl, P0.out.bl⟩
  by_cases c6 : paramsOk m6
  rotate_left
  · have HX := Lib.hid c6
    have HE := Lib.hid (show decide (rightM (Hel.mk 1 m1 m2 m3 m4 m5 m6 ByteArray.empty 0 0)) = false from decide_eq_false fun h => by have := h.2; simp [ownM, c6] at this)
    go_wp2_with fail
    refine (rterm14_any _ _).mono ?_
    rintro e w4 ⟨rfl, hw⟩
    subst hw
    rw [decide_eq_true c1]
    go_wp2_with fail
    refine (rterm14_any _ _).mono ?_
    rintro e w5 ⟨rfl, hw⟩
    subst hw
    rw [decide_eq_true c2]
    go_wp2_with fail
    refine (rparams14_any _ (P0.out.h.mono P0.out.bl.size) HY.out).mono ?_
    rintro e w6 ⟨rfl, hb⟩
    rw [decide_eq_false c6]
    have P6 := Lib.hid (P0.out.below hb)
    clear hb
    clear x0 x1 x2 x3 x4 x5 x6 x7 x8 x9
    obtain ⟨⟨x0, x1, x2, x3, x4⟩, x5, x6, x7, x8, x9⟩ := P6.out.d.ten
    simp only at x0 x1 x2 x3 x4 x5 x6 x7 x8 x9
    go_wp2_with fail
    go_ret
    rw [HE.out]
    exact ⟨rfl, P6.out.bl⟩
  by_cases c3 : m3 = 0
  · subst c3
    by_cases c4 : m4 = 0
    · subst c4
      have HE := Lib.hid (show decide (rightM (Hel.mk 1 m1 m2 0 0 m5 m6 ByteArray.empty 0 0)) = true from decide_eq_true ⟨HRest.out, by simp [ownM, c1, c2, c6]⟩)
      go_wp2_with fail
      refine (rterm14_any _ _).mono ?_
      rintro e w7 ⟨rfl, hw⟩
      subst hw
      rw [decide_eq_true c1]
      go_wp2_with fail
      refine (rterm14_any _ _).mono ?_
      rintro e w8 ⟨rfl, hw⟩
      subst hw
      rw [decide_eq_true c2]
      go_wp2_with fail
      refine (rparams14_any _ (P0.out.h.mono P0.out.bl.size) HY.out).mono ?_
      rintro e w9 ⟨rfl, hb⟩
      rw [decide_eq_true c6]
      have P9 := Lib.hid (P0.out.below hb)
      clear hb
      clear x0 x1 x2 x3 x4 x5 x6 x7 x8 x9
      obtain ⟨⟨x0, x1, x2, x3, x4⟩, x5, x6, x7, x8, x9⟩ := P9.out.d.ten
      simp only at x0 x1 x2 x3 x4 x5 x6 x7 x8 x9
      go_wp2_with fail
      go_ret
      rw [HE.out]
      exact ⟨rfl, P9.out.bl⟩
    · have e4 : (m4 == 0) = false := by simp [c4]
      have c3 : ¬ termOk 0 := by decide
      have HE := Lib.hid (show decide (rightM (Hel.mk 1 m1 m2 0 m4 m5 m6 ByteArray.empty 0 0)) = false from decide_eq_false fun h => by have := h.2; simp [ownM, c4, c3] at this)
      go_wp2_with fail
      refine (rterm14_any _ _).mono ?_
      rintro e w10 ⟨rfl, hw⟩
      subst hw
      rw [decide_eq_true c1]
      go_wp2_with fail
      refine (rterm14_any _ _).mono ?_
      rintro e w11 ⟨rfl, hw⟩
      subst hw
      rw [decide_eq_true c2]
      go_wp2_with fail
      refine (rparams14_any _ (P0.out.h.mono P0.out.bl.size) HY.out).mono ?_
      rintro e w12 ⟨rfl, hb⟩
      rw [decide_eq_true c6]
      have P12 := Lib.hid (P0.out.below hb)
      clear hb
      clear x0 x1 x2 x3 x4 x5 x6 x7 x8 x9
      obtain ⟨⟨x0, x1, x2, x3, x4⟩, x5, x6, x7, x8, x9⟩ := P12.out.d.ten
      simp only at x0 x1 x2 x3 x4 x5 x6 x7 x8 x9
      go_wp2_with fail
      refine (rterm14_any _ _).mono ?_
      rintro e w13 ⟨rfl, hw⟩
      subst hw
      rw [decide_eq_false c3]
      go_wp2_with fail
      go_ret
      rw [HE.out]
      exact ⟨rfl, P12.out.bl⟩
  have e3 : (m3 == 0) = false := by simp [c3]
  by_cases d3 : termOk m3
  rotate_left
  · have HX := Lib.hid d3
    have HE := Lib.hid (show decide (rightM (Hel.mk 1 m1 m2 m3 m4 m5 m6 ByteArray.empty 0 0)) = false from decide_eq_false fun h => by have := h.2; simp [ownM, c3, d3] at this)
    go_wp2_with fail
    refine (rterm14_any _ _).mono ?_
    rintro e w14 ⟨rfl, hw⟩
    subst hw
    rw [decide_eq_true c1]
    go_wp2_with fail
    refine (rterm14_any _ _).mono ?_
    rintro e w15 ⟨rfl, hw⟩
    subst hw
    rw [decide_eq_true c2]
    go_wp2_with fail
    refine (rparams14_any _ (P0.out.h.mono P0.out.bl.size) HY.out).mono ?_
    rintro e w16 ⟨rfl, hb⟩
    rw [decide_eq_true c6]
    have P16 := Lib.hid (P0.out.below hb)
    clear hb
    clear x0 x1 x2 x3 x4 x5 x6 x7 x8 x9
    obtain ⟨⟨x0, x1, x2, x3, x4⟩, x5, x6, x7, x8, x9⟩ := P16.out.d.ten
    simp only at x0 x1 x2 x3 x4 x5 x6 x7 x8 x9
    go_wp2_with fail
    refine (rterm14_any _ _).mono ?_
    rintro e w17 ⟨rfl, hw⟩
    subst hw
    rw [decide_eq_false d3]
    go_wp2_with fail
    go_ret
    rw [HE.out]
    exact ⟨rfl, P16.out.bl⟩
  by_cases d4 : termOk m4
  rotate_left
  · have HX := Lib.hid d4
    have HE := Lib.hid (show decide (rightM (Hel.mk 1 m1 m2 m3 m4 m5 m6 ByteArray.empty 0 0)) = false from decide_eq_false fun h => by have := h.2; simp [ownM, c3, d3, d4] at this)
    go_wp2_with fail
    refine (rterm14_any _ _).mono ?_
    rintro e w18 ⟨rfl, hw⟩
    subst hw
    rw [decide_eq_true c1]
    go_wp2_with fail
    refine (rterm14_any _ _).mono ?_
    rintro e w19 ⟨rfl, hw⟩
    subst hw
    rw [decide_eq_true c2]
    go_wp2_with fail
    refine (rparams14_any _ (P0.out.h.mono P0.out.bl.size) HY.out).mono ?_
    rintro e w20 ⟨rfl, hb⟩
    rw [decide_eq_true c6]
    have P20 := Lib.hid (P0.out.below hb)
    clear hb
    clear x0 x1 x2 x3 x4 x5 x6 x7 x8 x9
    obtain ⟨⟨x0, x1, x2, x3, x4⟩, x5, x6, x7, x8, x9⟩ := P20.out.d.ten
    simp only at x0 x1 x2 x3 x4 x5 x6 x7 x8 x9
    go_wp2_with fail
    refine (rterm14_any _ _).mono ?_
    rintro e w21 ⟨rfl, hw⟩
    subst hw
    rw [decide_eq_true d3]
    go_wp2_with fail
    refine (rterm14_any _ _).mono ?_
    rintro e w22 ⟨rfl, hw⟩
    subst hw
    rw [decide_eq_false d4]
    go_wp2_with fail
    go_ret
    rw [HE.out]
    exact ⟨rfl, P20.out.bl⟩
  have HE := Lib.hid (show decide (rightM (Hel.mk 1 m1 m2 m3 m4 m5 m6 ByteArray.empty 0 0)) = true from decide_eq_true ⟨HRest.out, by simp [ownM, c1, c2, c6, d3, d4]⟩)
  go_wp2_with fail
  refine (rterm14_any _ _).mono ?_
  rintro e w23 ⟨rfl, hw⟩
  subst hw
  rw [decide_eq_true c1]
  go_wp2_with fail
  refine (rterm14_any _ _).mono ?_
  rintro e w24 ⟨rfl, hw⟩
  subst hw
  rw [decide_eq_true c2]
  go_wp2_with fail
  refine (rparams14_any _ (P0.out.h.mono P0.out.bl.size) HY.out).mono ?_
  rintro e w25 ⟨rfl, hb⟩
  rw [decide_eq_true c6]
  have P25 := Lib.hid (P0.out.below hb)
  clear hb
  clear x0 x1 x2 x3 x4 x5 x6 x7 x8 x9
  obtain ⟨⟨x0, x1, x2, x3, x4⟩, x5, x6, x7, x8, x9⟩ := P25.out.d.ten
  simp only at x0 x1 x2 x3 x4 x5 x6 x7 x8 x9
  go_wp2_with fail
  refine (rterm14_any _ _).mono ?_
  rintro e w26 ⟨rfl, hw⟩
  subst hw
  rw [decide_eq_true d3]
  go_wp2_with fail
  refine (rterm14_any _ _).mono ?_
  rintro e w27 ⟨rfl, hw⟩
  subst hw
  rw [decide_eq_true d4]
  go_wp2_with fail
  go_ret
  rw [HE.out]
  exact ⟨rfl, P25.out.bl⟩
set_option maxHeartbeats 6400000 in
set_option maxRecDepth 100000 in
theorem rright14_k2 (m0 m1 m2 m3 m4 : Int) (m5 : Bool) (m6 : List Int) (m7 : ByteArray) (m8 m9 : Int) (s : HelS) (w : World) (h : Rds w.heap.size w .u8 s.A m6.length s.c m6) (hy : Byt m6) (h0 : m0 = 2) :
    Calls Tryd.prog 27 #[.agg (helCs ⟨m0, m1, m2, m3, m4, m5, m6, m7, m8, m9⟩ s)] w fun e w' => e = .returned (.bool (decide (rightM ⟨m0, m1, m2, m3, m4, m5, m6, m7, m8, m9⟩))) ∧ Below w.heap.size w w' := by
  subst h0
  have HY := Lib.hid hy
  obtain ⟨W, hW⟩ : ∃ W, W = w.alloc (.cells (helCs ⟨2, m1, m2, m3, m4, m5, m6, m7, m8, m9⟩ s) 44) := ⟨_, rfl⟩
  have hbw : Below w.heap.size w W := by rw [hW]; exact below_new _
  have P0 : Hid (HW14 w w.heap.size ⟨2, m1, m2, m3, m4, m5, m6, m7, m8, m9⟩ s W) := ⟨hbw, by rw [hW]; exact heap_alloc_new w _, Rds.below h hbw⟩
  clear hbw h hy
  unfold helCs at hW ⊢
  simp only at hW ⊢
  obtain ⟨⟨x0, x1, x2, x3, x4⟩, x5, x6, x7, x8, x9⟩ := P0.out.d.ten
  simp only at x0 x1 x2 x3 x4 x5 x6 x7 x8 x9
  go_enter Tryd.func27, Tryd.ntmps27
  subst hW
  by_cases z3 : m3 = 0
  rotate_left
  · have HE := Lib.hid (show decide (rightM (Hel.mk 2 m1 m2 m3 m4 m5 m6 m7 m8 m9)) = false from decide_eq_false fun h => by have hr := (rest_iff _).1 h.1; exact z3 (hr.1.2.1 (by simp; try omega)))
    have e3 : (m3 != 0) = true := by simp [z3]
    clear z3
    go_wp2_with fail
    go_ret
    rw [HE.out]
    exact ⟨rfl, P0.out.bl⟩
  subst z3
  by_cases z4 : m4 = 0
  rotate_left
  · have HE := Lib.hid (show decide (rightM (Hel.mk 2 m1 m2 0 m4 m5 m6 m7 m8 m9)) = false from decide_eq_false fun h => by have hr := (rest_iff _).1 h.1; exact z4 (hr.1.2.2 (by simp; try omega)))
    have e4 : (m4 != 0) = true := by simp [z4]
    clear z4
    go_wp2_with fail
    go_ret
    rw [HE.out]
    exact ⟨rfl, P0.out.bl⟩
  subst z4
  by_cases z6 : m6.length = 0
  rotate_left
  · have HE := Lib.hid (show decide (rightM (Hel.mk 2 m1 m2 0 0 m5 m6 m7 m8 m9)) = false from decide_eq_false fun h => by have hr := (rest_iff _).1 h.1; exact z6 (hr.2.2.1 (by simp; try omega)))
    have e6 : (m6.length : Int) > 0 := by omega
    have e6n : 0 < m6.length := by omega
    clear z6
    go_wp2_with fail
    go_ret
    rw [HE.out]
    exact ⟨rfl, P0.out.bl⟩
  obtain rfl : m6 = [] := List.eq_nil_of_length_eq_zero z6
  by_cases z7 : m7 = ByteArray.empty
  rotate_left
  · have HE := Lib.hid (show decide (rightM (Hel.mk 2 m1 m2 0 0 m5 [] m7 m8 m9)) = false from decide_eq_false fun h => by have hr := (rest_iff _).1 h.1; exact z7 (hr.2.2.2.1 (by simp; try omega)))
    have e7 : ¬ m7.toList = [] := by intro q; apply z7; rw [ByteArray.toList_eq] at q; exact ByteArray.ext (Array.toList_inj.1 q)
    clear z7
    go_wp2_with fail
    go_ret
    rw [HE.out]
    exact ⟨rfl, P0.out.bl⟩
  subst z7
  by_cases z9 : m9 = 0
  rotate_left
  · have HE := Lib.hid (show decide (rightM (Hel.mk 2 m1 m2 0 0 m5 [] ByteArray.empty m8 m9)) = false from decide_eq_false fun h => by have hr := (rest_iff _).1 h.1; exact z9 (hr.2.2.2.2.2 (by simp; try omega)))
    have e9 : (m9 != 0) = true := by simp [z9]
    clear z9
    go_wp2_with fail
    go_ret
    rw [HE.out]
    exact ⟨rfl, P0.out.bl⟩
  subst z9
  have HRest : Hid (restM (Hel.mk 2 m1 m2 0 0 m5 [] ByteArray.empty m8 0)) := (rest_iff _).2 ⟨⟨fun q => ⟨(by first | rfl | (exfalso; simp at q; done) | (exfalso; simp at q; omega)), (by first | rfl | (exfalso; simp at q; done) | (exfalso; simp at q; omega))⟩, fun q => (by first | rfl | (exfalso; simp at q; done) | (exfalso; simp at q; omega)), fun q => (by first | rfl | (exfalso; simp at q; done) | (exfalso; simp at q; omega))⟩, fun q => (by first | rfl | (exfalso; simp at q; done) | (exfalso; simp at q; omega)), fun q => (by first | rfl | (exfalso; simp at q; done) | (exfalso; simp at q; omega)), fun q => (by first | rfl | (exfalso; simp at q; done) | (exfalso; simp at q; omega)), fun q => (by first | rfl | (exfalso; simp at q; done) | (exfalso; simp at q; omega)), fun q => (by first | rfl | (exfalso; simp at q; done) | (exfalso; simp at q; omega))⟩
  by_cases c1 : termOk m1
  rotate_left
  · have HX := Lib.hid c1
    have HE := Lib.hid (show decide (rightM (Hel.mk 2 m1 m2 0 0 m5 [] ByteArray.empty m8 0)) = false from decide_eq_false fun h => by have := h.2; simp [ownM, c1] at this)
    go_wp2_with fail
    refine (rterm14_any _ _).mono ?_
    rintro e w28 ⟨rfl, hw⟩
    subst hw
    rw [decide_eq_false c1]
    go_wp2_with fail
    go_ret
    rw [HE.out]
    exact ⟨rfl, P0.out.bl⟩
  by_cases c2 : termOk m2
  rotate_left
  · have HX := Lib.hid c2
    have HE := Lib.hid (show decide (rightM (Hel.mk 2 m1 m2 0 0 m5 [] ByteArray.empty m8 0)) = false from decide_eq_false fun h => by have := h.2; simp [ownM, c2] at this)
    go_wp2_with fail
    refine (rterm14_any _ _).mono ?_
    rintro e w29 ⟨rfl, hw⟩
    subst hw
    rw [decide_eq_true c1]
    go_wp2_with fail
    refine (rterm14_any _ _).mono ?_
    rintro e w30 ⟨rfl, hw⟩
    subst hw
    rw [decide_eq_false c2]
    go_wp2_with fail
    go_ret
    rw [HE.out]
    exact ⟨rfl, P0.out.bl⟩
  by_cases c8 : 1 ≤ m8
  rotate_left
  · have HX := Lib.hid c8
    have HE := Lib.hid (show decide (rightM (Hel.mk 2 m1 m2 0 0 m5 [] ByteArray.empty m8 0)) = false from decide_eq_false fun h => by have := h.2; simp [ownM, c8] at this)
    go_wp2_with fail
    refine (rterm14_any _ _).mono ?_
    rintro e w31 ⟨rfl, hw⟩
    subst hw
    rw [decide_eq_true c1]
    go_wp2_with fail
    refine (rterm14_any _ _).mono ?_
    rintro e w32 ⟨rfl, hw⟩
    subst hw
    rw [decide_eq_true c2]
    go_wp2_with fail
    go_ret
    rw [HE.out]
    exact ⟨rfl, P0.out.bl⟩
  by_cases d8 : m8 ≤ 4294967295
  rotate_left
  · have HX := Lib.hid d8
    have HE := Lib.hid (show decide (rightM (Hel.mk 2 m1 m2 0 0 m5 [] ByteArray.empty m8 0)) = false from decide_eq_false fun h => by have := h.2; simp [ownM, d8] at this)
    go_wp2_with fail
    refine (rterm14_any _ _).mono ?_
    rintro e w33 ⟨rfl, hw⟩
    subst hw
    rw [decide_eq_true c1]
    go_wp2_with fail
    refine (rterm14_any _ _).mono ?_
    rintro e w34 ⟨rfl, hw⟩
    subst hw
    rw [decide_eq_true c2]
    go_wp2_with fail
    go_ret
    rw [HE.out]
    first | exact ⟨rfl, P0.out.bl⟩ | exact ⟨(show Ending.returned (.bool (decide (m8 ≤ 4294967295))) = Ending.returned (.bool false) from by rw [show decide (m8 ≤ 4294967295) = false from decide_eq_false (by omega)]), P0.out.bl⟩ | exact ⟨(show Ending.returned (.bool (decide (m8 < 4294967296))) = Ending.returned (.bool false) from by rw [show decide (m8 < 4294967296) = false from decide_eq_false (by omega)]), P0.out.bl⟩
  have HE := Lib.hid (show decide (rightM (Hel.mk 2 m1 m2 0 0 m5 [] ByteArray.empty m8 0)) = true from decide_eq_true ⟨HRest.out, by simp [ownM, c1, c2, c8, d8]⟩)
  go_wp2_with fail
  refine (rterm14_any _ _).mono ?_
  rintro e w35 ⟨rfl, hw⟩
  subst hw
  rw [decide_eq_true c1]
  go_wp2_with fail
  refine (rterm14_any _ _).mono ?_
  rintro e w36 ⟨rfl, hw⟩
  subst hw
  rw [decide_eq_true c2]
  go_wp2_with fail
  go_ret
  rw [HE.out]
  first | exact ⟨rfl, P0.out.bl⟩ | exact ⟨(show Ending.returned (.bool (decide (m8 ≤ 4294967295))) = Ending.returned (.bool true) from by rw [show decide (m8 ≤ 4294967295) = true from decide_eq_true (by omega)]), P0.out.bl⟩ | exact ⟨(show Ending.returned (.bool (decide (m8 < 4294967296))) = Ending.returned (.bool true) from by rw [show decide (m8 < 4294967296) = true from decide_eq_true (by omega)]), P0.out.bl⟩
set_option maxHeartbeats 6400000 in
set_option maxRecDepth 100000 in
theorem rright14_k4 (m0 m1 m2 m3 m4 : Int) (m5 : Bool) (m6 : List Int) (m7 : ByteArray) (m8 m9 : Int) (s : HelS) (w : World) (h : Rds w.heap.size w .u8 s.A m6.length s.c m6) (hy : Byt m6) (h0 : m0 = 4) :
    Calls Tryd.prog 27 #[.agg (helCs ⟨m0, m1, m2, m3, m4, m5, m6, m7, m8, m9⟩ s)] w fun e w' => e = .returned (.bool (decide (rightM ⟨m0, m1, m2, m3, m4, m5, m6, m7, m8, m9⟩))) ∧ Below w.heap.size w w' := by
  subst h0
  have HY := Lib.hid hy
  obtain ⟨W, hW⟩ : ∃ W, W = w.alloc (.cells (helCs ⟨4, m1, m2, m3, m4, m5, m6, m7, m8, m9⟩ s) 44) := ⟨_, rfl⟩
  have hbw : Below w.heap.size w W := by rw [hW]; exact below_new _
  have P0 : Hid (HW14 w w.heap.size ⟨4, m1, m2, m3, m4, m5, m6, m7, m8, m9⟩ s W) := ⟨hbw, by rw [hW]; exact heap_alloc_new w _, Rds.below h hbw⟩
  clear hbw h hy
  unfold helCs at hW ⊢
  simp only at hW ⊢
  obtain ⟨⟨x0, x1, x2, x3, x4⟩, x5, x6, x7, x8, x9⟩ := P0.out.d.ten
  simp only at x0 x1 x2 x3 x4 x5 x6 x7 x8 x9
  go_enter Tryd.func27, Tryd.ntmps27
  subst hW
  by_cases z1 : m1 = 0
  rotate_left
  · have HE := Lib.hid (show decide (rightM (Hel.mk 4 m1 m2 m3 m4 m5 m6 m7 m8 m9)) = false from decide_eq_false fun h => by have hr := (rest_iff _).1 h.1; exact z1 ((hr.1.1 (by simp; try omega)).1))
    have e1 : (m1 != 0) = true := by simp [z1]
    clear z1
    go_wp2_with fail
    go_ret
    rw [HE.out]
    exact ⟨rfl, P0.out.bl⟩
  subst z1
  by_cases z2 : m2 = 0
  rotate_left
  · have HE := Lib.hid (show decide (rightM (Hel.mk 4 0 m2 m3 m4 m5 m6 m7 m8 m9)) = false from decide_eq_false fun h => by have hr := (rest_iff _).1 h.1; exact z2 ((hr.1.1 (by simp; try omega)).2))
    have e2 : (m2 != 0) = true := by simp [z2]
    clear z2
    go_wp2_with fail
    go_ret
    rw [HE.out]
    exact ⟨rfl, P0.out.bl⟩
  subst z2
  by_cases z4 : m4 = 0
  rotate_left
  · have HE := Lib.hid (show decide (rightM (Hel.mk 4 0 0 m3 m4 m5 m6 m7 m8 m9)) = false from decide_eq_false fun h => by have hr := (rest_iff _).1 h.1; exact z4 (hr.1.2.2 (by simp; try omega)))
    have e4 : (m4 != 0) = true := by simp [z4]
    clear z4
    go_wp2_with fail
    go_ret
    rw [HE.out]
    exact ⟨rfl, P0.out.bl⟩
  subst z4
  by_cases z5 : m5 = false
  rotate_left
  · have HE := Lib.hid (show decide (rightM (Hel.mk 4 0 0 m3 0 m5 m6 m7 m8 m9)) = false from decide_eq_false fun h => by have hr := (rest_iff _).1 h.1; exact z5 (hr.2.1 (by simp; try omega)))
    obtain rfl : m5 = true := by cases m5 <;> simp_all
    clear z5
    go_wp2_with fail
    go_ret
    rw [HE.out]
    exact ⟨rfl, P0.out.bl⟩
  subst z5
  by_cases z6 : m6.length = 0
  rotate_left
  · have HE := Lib.hid (show decide (rightM (Hel.mk 4 0 0 m3 0 false m6 m7 m8 m9)) = false from decide_eq_false fun h => by have hr := (rest_iff _).1 h.1; exact z6 (hr.2.2.1 (by simp; try omega)))
    have e6 : (m6.length : Int) > 0 := by omega
    have e6n : 0 < m6.length := by omega
    clear z6
    go_wp2_with fail
    go_ret
    rw [HE.out]
    exact ⟨rfl, P0.out.bl⟩
  obtain rfl : m6 = [] := List.eq_nil_of_length_eq_zero z6
  by_cases z7 : m7 = ByteArray.empty
  rotate_left
  · have HE := Lib.hid (show decide (rightM (Hel.mk 4 0 0 m3 0 false [] m7 m8 m9)) = false from decide_eq_false fun h => by have hr := (rest_iff _).1 h.1; exact z7 (hr.2.2.2.1 (by simp; try omega)))
    have e7 : ¬ m7.toList = [] := by intro q; apply z7; rw [ByteArray.toList_eq] at q; exact ByteArray.ext (Array.toList_inj.1 q)
    clear z7
    go_wp2_with fail
    go_ret
    rw [HE.out]
    exact ⟨rfl, P0.out.bl⟩
  subst z7
  by_cases z8 : m8 = 0
  rotate_left
  · have HE := Lib.hid (show decide (rightM (Hel.mk 4 0 0 m3 0 false [] ByteArray.empty m8 m9)) = false from decide_eq_false fun h => by have hr := (rest_iff _).1 h.1; exact z8 (hr.2.2.2.2.1 (by simp; try omega)))
    have e8 : (m8 != 0) = true := by simp [z8]
    clear z8
    go_wp2_with fail
    go_ret
    rw [HE.out]
    exact ⟨rfl, P0.out.bl⟩
  subst z8
  have HRest : Hid (restM (Hel.mk 4 0 0 m3 0 false [] ByteArray.empty 0 m9)) := (rest_iff _).2 ⟨⟨fun q => ⟨(by first | rfl | (exfalso; simp at q; done) | (exfalso; simp at q; omega)), (by first | rfl | (exfalso; simp at q; done) | (exfalso; simp at q; omega))⟩, fun q => (by first | rfl | (exfalso; simp at q; done) | (exfalso; simp at q; omega)), fun q => (by first | rfl | (exfalso; simp at q; done) | (exfalso; simp at q; omega))⟩, fun q => (by first | rfl | (exfalso; simp at q; done) | (exfalso; simp at q; omega)), fun q => (by first | rfl | (exfalso; simp at q; done) | (exfalso; simp at q; omega)), fun q => (by first | rfl | (exfalso; simp at q; done) | (exfalso; simp at q; omega)), fun q => (by first | rfl | (exfalso; simp at q; done) | (exfalso; simp at q; omega)), fun q => (by first | rfl | (exfalso; simp at q; done) | (exfalso; simp at q; omega))⟩
  by_cases c3 : termOk m3
  rotate_left
  · have HX := Lib.hid c3
    have HE := Lib.hid (show decide (rightM (Hel.mk 4 0 0 m3 0 false [] ByteArray.empty 0 m9)) = false from decide_eq_false fun h => by have := h.2; simp [ownM, c3] at this)
    go_wp2_with fail
    refine (rterm14_any _ _).mono ?_
    rintro e w37 ⟨rfl, hw⟩
    subst hw
    rw [decide_eq_false c3]
    go_wp2_with fail
    go_ret
    rw [HE.out]
    exact ⟨rfl, P0.out.bl⟩
  by_cases c9 : sizeV m9 = 0
  · have HX := Lib.hid c9
    have HE := Lib.hid (show decide (rightM (Hel.mk 4 0 0 m3 0 false [] ByteArray.empty 0 m9)) = false from decide_eq_false fun h => by have := h.2; simp [ownM, c9] at this)
    go_wp2_with fail
    refine (rterm14_any _ _).mono ?_
    rintro e w38 ⟨rfl, hw⟩
    subst hw
    rw [decide_eq_true c3]
    go_wp2_with fail
    refine (rsize_any _ _).mono ?_
    rintro e v38 ⟨rfl, hw⟩
    have hw := hw.symm
    subst hw
    rw [c9]
    go_wp2_with fail
    go_ret
    rw [HE.out]
    exact ⟨rfl, P0.out.bl⟩
  · have HX := Lib.hid c9
    have HE := Lib.hid (show decide (rightM (Hel.mk 4 0 0 m3 0 false [] ByteArray.empty 0 m9)) = true from decide_eq_true ⟨HRest.out, by simp [ownM, c3, c9]⟩)
    have hs9 : ((sizeV m9 : Nat) : Int) > 0 := by omega
    go_wp2_with fail
    refine (rterm14_any _ _).mono ?_
    rintro e w39 ⟨rfl, hw⟩
    subst hw
    rw [decide_eq_true c3]
    go_wp2_with fail
    refine (rsize_any _ _).mono ?_
    rintro e v39 ⟨rfl, hw⟩
    have hw := hw.symm
    subst hw
    go_wp2_with fail
    go_ret
    rw [HE.out]
    first | exact ⟨rfl, P0.out.bl⟩ | exact ⟨(show Ending.returned (.bool (decide (0 < sizeV m9))) = Ending.returned (.bool true) from by rw [show decide (0 < sizeV m9) = true from decide_eq_true (by omega)]), P0.out.bl⟩ | exact ⟨(show Ending.returned (.bool (decide ((0 : Int) < ((sizeV m9 : Nat) : Int)))) = Ending.returned (.bool true) from by rw [show decide ((0 : Int) < ((sizeV m9 : Nat) : Int)) = true from decide_eq_true (by omega)]), P0.out.bl⟩ | exact ⟨(show Ending.returned (.bool (decide (((sizeV m9 : Nat) : Int) > 0))) = Ending.returned (.bool true) from by rw [show decide (((sizeV m9 : Nat) : Int) > 0) = true from decide_eq_true (by omega)]), P0.out.bl⟩
set_option maxHeartbeats 6400000 in
set_option maxRecDepth 100000 in
theorem rright14_k8 (m0 m1 m2 m3 m4 : Int) (m5 : Bool) (m6 : List Int) (m7 : ByteArray) (m8 m9 : Int) (s : HelS) (w : World) (h : Rds w.heap.size w .u8 s.A m6.length s.c m6) (hy : Byt m6) (h0 : m0 = 8) :
    Calls Tryd.prog 27 #[.agg (helCs ⟨m0, m1, m2, m3, m4, m5, m6, m7, m8, m9⟩ s)] w fun e w' => e = .returned (.bool (decide (rightM ⟨m0, m1, m2, m3, m4, m5, m6, m7, m8, m9⟩))) ∧ Below w.heap.size w w' := by
  subst h0
  have HY := Lib.hid hy
  obtain ⟨W, hW⟩ : ∃ W, W = w.alloc (.cells (helCs ⟨8, m1, m2, m3, m4, m5, m6, m7, m8, m9⟩ s) 44) := ⟨_, rfl⟩
  have hbw : Below w.heap.size w W := by rw [hW]; exact below_new _
  have P0 : Hid (HW14 w w.heap.size ⟨8, m1, m2, m3, m4, m5, m6, m7, m8, m9⟩ s W) := ⟨hbw, by rw [hW]; exact heap_alloc_new w _, Rds.below h hbw⟩
  clear hbw h hy
  unfold helCs at hW ⊢
  simp only at hW ⊢
  obtain ⟨⟨x0, x1, x2, x3, x4⟩, x5, x6, x7, x8, x9⟩ := P0.out.d.ten
  simp only at x0 x1 x2 x3 x4 x5 x6 x7 x8 x9
  go_enter Tryd.func27, Tryd.ntmps27
  subst hW
  by_cases z1 : m1 = 0
  rotate_left
  · have HE := Lib.hid (show decide (rightM (Hel.mk 8 m1 m2 m3 m4 m5 m6 m7 m8 m9)) = false from decide_eq_false fun h => by have hr := (rest_iff _).1 h.1; exact z1 ((hr.1.1 (by simp; try omega)).1))
    have e1 : (m1 != 0) = true := by simp [z1]
    clear z1
    go_wp2_with fail
    go_ret
    rw [HE.out]
    exact ⟨rfl, P0.out.bl⟩
  subst z1
  by_cases z2 : m2 = 0
  rotate_left
  · have HE := Lib.hid (show decide (rightM (Hel.mk 8 0 m2 m3 m4 m5 m6 m7 m8 m9)) = false from decide_eq_false fun h => by have hr := (rest_iff _).1 h.1; exact z2 ((hr.1.1 (by simp; try omega)).2))
    have e2 : (m2 != 0) = true := by simp [z2]
    clear z2
    go_wp2_with fail
    go_ret
    rw [HE.out]
    exact ⟨rfl, P0.out.bl⟩
  subst z2
  by_cases z3 : m3 = 0
  rotate_left
  · have HE := Lib.hid (show decide (rightM (Hel.mk 8 0 0 m3 m4 m5 m6 m7 m8 m9)) = false from decide_eq_false fun h => by have hr := (rest_iff _).1 h.1; exact z3 (hr.1.2.1 (by simp; try omega)))
    have e3 : (m3 != 0) = true := by simp [z3]
    clear z3
    go_wp2_with fail
    go_ret
    rw [HE.out]
    exact ⟨rfl, P0.out.bl⟩
  subst z3
  by_cases z4 : m4 = 0
  rotate_left
  · have HE := Lib.hid (show decide (rightM (Hel.mk 8 0 0 0 m4 m5 m6 m7 m8 m9)) = false from decide_eq_false fun h => by have hr := (rest_iff _).1 h.1; exact z4 (hr.1.2.2 (by simp; try omega)))
    have e4 : (m4 != 0) = true := by simp [z4]
    clear z4
    go_wp2_with fail
    go_ret
    rw [HE.out]
    exact ⟨rfl, P0.out.bl⟩
  subst z4
  by_cases z7 : m7 = ByteArray.empty
  rotate_left
  · have HE := Lib.hid (show decide (rightM (Hel.mk 8 0 0 0 0 m5 m6 m7 m8 m9)) = false from decide_eq_false fun h => by have hr := (rest_iff _).1 h.1; exact z7 (hr.2.2.2.1 (by simp; try omega)))
    have e7 : ¬ m7.toList = [] := by intro q; apply z7; rw [ByteArray.toList_eq] at q; exact ByteArray.ext (Array.toList_inj.1 q)
    clear z7
    go_wp2_with fail
    go_ret
    rw [HE.out]
    exact ⟨rfl, P0.out.bl⟩
  subst z7
  by_cases z8 : m8 = 0
  rotate_left
  · have HE := Lib.hid (show decide (rightM (Hel.mk 8 0 0 0 0 m5 m6 ByteArray.empty m8 m9)) = false from decide_eq_false fun h => by have hr := (rest_iff _).1 h.1; exact z8 (hr.2.2.2.2.1 (by simp; try omega)))
    have e8 : (m8 != 0) = true := by simp [z8]
    clear z8
    go_wp2_with fail
    go_ret
    rw [HE.out]
    exact ⟨rfl, P0.out.bl⟩
  subst z8
  by_cases z9 : m9 = 0
  rotate_left
  · have HE := Lib.hid (show decide (rightM (Hel.mk 8 0 0 0 0 m5 m6 ByteArray.empty 0 m9)) = false from decide_eq_false fun h => by have hr := (rest_iff _).1 h.1; exact z9 (hr.2.2.2.2.2 (by simp; try omega)))
    have e9 : (m9 != 0) = true := by simp [z9]
    clear z9
    go_wp2_with fail
    go_ret
    rw [HE.out]
    exact ⟨rfl, P0.out.bl⟩
  subst z9
  have HRest : Hid (restM (Hel.mk 8 0 0 0 0 m5 m6 ByteArray.empty 0 0)) := (rest_iff _).2 ⟨⟨fun q => ⟨(by first | rfl | (exfalso; simp at q; done) | (exfalso; simp at q; omega)), (by first | rfl | (exfalso; simp at q; done) | (exfalso; simp at q; omega))⟩, fun q => (by first | rfl | (exfalso; simp at q; done) | (exfalso; simp at q; omega)), fun q => (by first | rfl | (exfalso; simp at q; done) | (exfalso; simp at q; omega))⟩, fun q => (by first | rfl | (exfalso; simp at q; done) | (exfalso; simp at q; omega)), fun q => (by first | rfl | (exfalso; simp at q; done) | (exfalso; simp at q; omega)), fun q => (by first | rfl | (exfalso; simp at q; done) | (exfalso; simp at q; omega)), fun q => (by first | rfl | (exfalso; simp at q; done) | (exfalso; simp at q; omega)), fun q => (by first | rfl | (exfalso; simp at q; done) | (exfalso; simp at q; omega))⟩
  by_cases c6 : paramsOk m6
  rotate_left
  · have HX := Lib.hid c6
    have HE := Lib.hid (show decide (rightM (Hel.mk 8 0 0 0 0 m5 m6 ByteArray.empty 0 0)) = false from decide_eq_false fun h => by have := h.2; simp [ownM, c6] at this)
    go_wp2_with fail
    refine (rparams14_any _ (P0.out.h.mono P0.out.bl.size) HY.out).mono ?_
    rintro e w40 ⟨rfl, hb⟩
    rw [decide_eq_false c6]
    have P40 := Lib.hid (P0.out.below hb)
    clear hb
    clear x0 x1 x2 x3 x4 x5 x6 x7 x8 x9
    obtain ⟨⟨x0, x1, x2, x3, x4⟩, x5, x6, x7, x8, x9⟩ := P40.out.d.ten
    simp only at x0 x1 x2 x3 x4 x5 x6 x7 x8 x9
    go_wp2_with fail
    go_ret
    rw [HE.out]
    exact ⟨rfl, P40.out.bl⟩
  have HE := Lib.hid (show decide (rightM (Hel.mk 8 0 0 0 0 m5 m6 ByteArray.empty 0 0)) = true from decide_eq_true ⟨HRest.out, by simp [ownM, c6]⟩)
  go_wp2_with fail
  refine (rparams14_any _ (P0.out.h.mono P0.out.bl.size) HY.out).mono ?_
  rintro e w41 ⟨rfl, hb⟩
  rw [decide_eq_true c6]
  have P41 := Lib.hid (P0.out.below hb)
  clear hb
  clear x0 x1 x2 x3 x4 x5 x6 x7 x8 x9
  obtain ⟨⟨x0, x1, x2, x3, x4⟩, x5, x6, x7, x8, x9⟩ := P41.out.d.ten
  simp only at x0 x1 x2 x3 x4 x5 x6 x7 x8 x9
  go_wp2_with fail
  go_ret
  rw [HE.out]
  exact ⟨rfl, P41.out.bl⟩
set_option maxHeartbeats 6400000 in
set_option maxRecDepth 100000 in
theorem rright14_k11 (m0 m1 m2 m3 m4 : Int) (m5 : Bool) (m6 : List Int) (m7 : ByteArray) (m8 m9 : Int) (s : HelS) (w : World) (h : Rds w.heap.size w .u8 s.A m6.length s.c m6) (hy : Byt m6) (h0 : m0 = 11) :
    Calls Tryd.prog 27 #[.agg (helCs ⟨m0, m1, m2, m3, m4, m5, m6, m7, m8, m9⟩ s)] w fun e w' => e = .returned (.bool (decide (rightM ⟨m0, m1, m2, m3, m4, m5, m6, m7, m8, m9⟩))) ∧ Below w.heap.size w w' := by
  subst h0
  have HY := Lib.hid hy
  obtain ⟨W, hW⟩ : ∃ W, W = w.alloc (.cells (helCs ⟨11, m1, m2, m3, m4, m5, m6, m7, m8, m9⟩ s) 44) := ⟨_, rfl⟩
  have hbw : Below w.heap.size w W := by rw [hW]; exact below_new _
  have P0 : Hid (HW14 w w.heap.size ⟨11, m1, m2, m3, m4, m5, m6, m7, m8, m9⟩ s W) := ⟨hbw, by rw [hW]; exact heap_alloc_new w _, Rds.below h hbw⟩
  clear hbw h hy
  unfold helCs at hW ⊢
  simp only at hW ⊢
  obtain ⟨⟨x0, x1, x2, x3, x4⟩, x5, x6, x7, x8, x9⟩ := P0.out.d.ten
  simp only at x0 x1 x2 x3 x4 x5 x6 x7 x8 x9
  go_enter Tryd.func27, Tryd.ntmps27
  subst hW
  by_cases z1 : m1 = 0
  rotate_left
  · have HE := Lib.hid (show decide (rightM (Hel.mk 11 m1 m2 m3 m4 m5 m6 m7 m8 m9)) = false from decide_eq_false fun h => by have hr := (rest_iff _).1 h.1; exact z1 ((hr.1.1 (by simp; try omega)).1))
    have e1 : (m1 != 0) = true := by simp [z1]
    clear z1
    go_wp2_with fail
    go_ret
    rw [HE.out]
    exact ⟨rfl, P0.out.bl⟩
  subst z1
  by_cases z2 : m2 = 0
  rotate_left
  · have HE := Lib.hid (show decide (rightM (Hel.mk 11 0 m2 m3 m4 m5 m6 m7 m8 m9)) = false from decide_eq_false fun h => by have hr := (rest_iff _).1 h.1; exact z2 ((hr.1.1 (by simp; try omega)).2))
    have e2 : (m2 != 0) = true := by simp [z2]
    clear z2
    go_wp2_with fail
    go_ret
    rw [HE.out]
    exact ⟨rfl, P0.out.bl⟩
  subst z2
  by_cases z3 : m3 = 0
  rotate_left
  · have HE := Lib.hid (show decide (rightM (Hel.mk 11 0 0 m3 m4 m5 m6 m7 m8 m9)) = false from decide_eq_false fun h => by have hr := (rest_iff _).1 h.1; exact z3 (hr.1.2.1 (by simp; try omega)))
    have e3 : (m3 != 0) = true := by simp [z3]
    clear z3
    go_wp2_with fail
    go_ret
    rw [HE.out]
    exact ⟨rfl, P0.out.bl⟩
  subst z3
  by_cases z4 : m4 = 0
  rotate_left
  · have HE := Lib.hid (show decide (rightM (Hel.mk 11 0 0 0 m4 m5 m6 m7 m8 m9)) = false from decide_eq_false fun h => by have hr := (rest_iff _).1 h.1; exact z4 (hr.1.2.2 (by simp; try omega)))
    have e4 : (m4 != 0) = true := by simp [z4]
    clear z4
    go_wp2_with fail
    go_ret
    rw [HE.out]
    exact ⟨rfl, P0.out.bl⟩
  subst z4
  by_cases z5 : m5 = false
  rotate_left
  · have HE := Lib.hid (show decide (rightM (Hel.mk 11 0 0 0 0 m5 m6 m7 m8 m9)) = false from decide_eq_false fun h => by have hr := (rest_iff _).1 h.1; exact z5 (hr.2.1 (by simp; try omega)))
    obtain rfl : m5 = true := by cases m5 <;> simp_all
    clear z5
    go_wp2_with fail
    go_ret
    rw [HE.out]
    exact ⟨rfl, P0.out.bl⟩
  subst z5
  by_cases z6 : m6.length = 0
  rotate_left
  · have HE := Lib.hid (show decide (rightM (Hel.mk 11 0 0 0 0 false m6 m7 m8 m9)) = false from decide_eq_false fun h => by have hr := (rest_iff _).1 h.1; exact z6 (hr.2.2.1 (by simp; try omega)))
    have e6 : (m6.length : Int) > 0 := by omega
    have e6n : 0 < m6.length := by omega
    clear z6
    go_wp2_with fail
    go_ret
    rw [HE.out]
    exact ⟨rfl, P0.out.bl⟩
  obtain rfl : m6 = [] := List.eq_nil_of_length_eq_zero z6
  by_cases z8 : m8 = 0
  rotate_left
  · have HE := Lib.hid (show decide (rightM (Hel.mk 11 0 0 0 0 false [] m7 m8 m9)) = false from decide_eq_false fun h => by have hr := (rest_iff _).1 h.1; exact z8 (hr.2.2.2.2.1 (by simp; try omega)))
    have e8 : (m8 != 0) = true := by simp [z8]
    clear z8
    go_wp2_with fail
    go_ret
    rw [HE.out]
    exact ⟨rfl, P0.out.bl⟩
  subst z8
  by_cases z9 : m9 = 0
  rotate_left
  · have HE := Lib.hid (show decide (rightM (Hel.mk 11 0 0 0 0 false [] m7 0 m9)) = false from decide_eq_false fun h => by have hr := (rest_iff _).1 h.1; exact z9 (hr.2.2.2.2.2 (by simp; try omega)))
    have e9 : (m9 != 0) = true := by simp [z9]
    clear z9
    go_wp2_with fail
    go_ret
    rw [HE.out]
    exact ⟨rfl, P0.out.bl⟩
  subst z9
  have HRest : Hid (restM (Hel.mk 11 0 0 0 0 false [] m7 0 0)) := (rest_iff _).2 ⟨⟨fun q => ⟨(by first | rfl | (exfalso; simp at q; done) | (exfalso; simp at q; omega)), (by first | rfl | (exfalso; simp at q; done) | (exfalso; simp at q; omega))⟩, fun q => (by first | rfl | (exfalso; simp at q; done) | (exfalso; simp at q; omega)), fun q => (by first | rfl | (exfalso; simp at q; done) | (exfalso; simp at q; omega))⟩, fun q => (by first | rfl | (exfalso; simp at q; done) | (exfalso; simp at q; omega)), fun q => (by first | rfl | (exfalso; simp at q; done) | (exfalso; simp at q; omega)), fun q => (by first | rfl | (exfalso; simp at q; done) | (exfalso; simp at q; omega)), fun q => (by first | rfl | (exfalso; simp at q; done) | (exfalso; simp at q; omega)), fun q => (by first | rfl | (exfalso; simp at q; done) | (exfalso; simp at q; omega))⟩
  by_cases c7 : 1 ≤ m7.size
  rotate_left
  · have c7i : ¬ ((m7.size : Int) ≥ 1) := by omega
    have c7j : ¬ ((m7.size : Int) > 0) := by omega
    have HE := Lib.hid (show decide (rightM (Hel.mk 11 0 0 0 0 false [] m7 0 0)) = false from decide_eq_false fun h => by have := h.2; simp [ownM, c7] at this)
    go_wp2_with fail
    go_ret
    rw [HE.out]
    exact ⟨rfl, P0.out.bl⟩
  have c7i : (m7.size : Int) ≥ 1 := by omega
  have c7j : (m7.size : Int) > 0 := by omega
  by_cases d7 : m7.size ≤ 50
  rotate_left
  · have d7i : ¬ ((m7.size : Int) ≤ 50) := by omega
    have HE := Lib.hid (show decide (rightM (Hel.mk 11 0 0 0 0 false [] m7 0 0)) = false from decide_eq_false fun h => by have := h.2; simp [ownM, c7, d7] at this)
    go_wp2_with fail
    go_ret
    rw [HE.out]
    first | exact ⟨rfl, P0.out.bl⟩ | exact ⟨(show Ending.returned (.bool (decide ((m7.size : Int) ≤ 50))) = Ending.returned (.bool false) from by rw [show decide ((m7.size : Int) ≤ 50) = false from decide_eq_false (by omega)]), P0.out.bl⟩ | exact ⟨(show Ending.returned (.bool (decide (m7.size ≤ 50))) = Ending.returned (.bool false) from by rw [show decide (m7.size ≤ 50) = false from decide_eq_false (by omega)]), P0.out.bl⟩
  have d7i : (m7.size : Int) ≤ 50 := by omega
  have HE := Lib.hid (show decide (rightM (Hel.mk 11 0 0 0 0 false [] m7 0 0)) = true from decide_eq_true ⟨HRest.out, by simp [ownM, c7, d7]⟩)
  go_wp2_with fail
  go_ret
  rw [HE.out]
  first | exact ⟨rfl, P0.out.bl⟩ | exact ⟨(show Ending.returned (.bool (decide ((m7.size : Int) ≤ 50))) = Ending.returned (.bool true) from by rw [show decide ((m7.size : Int) ≤ 50) = true from decide_eq_true (by omega)]), P0.out.bl⟩ | exact ⟨(show Ending.returned (.bool (decide (m7.size ≤ 50))) = Ending.returned (.bool true) from by rw [show decide (m7.size ≤ 50) = true from decide_eq_true (by omega)]), P0.out.bl⟩
set_option maxHeartbeats 6400000 in
set_option maxRecDepth 100000 in
theorem rright14_k15 (m0 m1 m2 m3 m4 : Int) (m5 : Bool) (m6 : List Int) (m7 : ByteArray) (m8 m9 : Int) (s : HelS) (w : World) (h : Rds w.heap.size w .u8 s.A m6.length s.c m6) (hy : Byt m6) (h0 : m0 = 15) :
    Calls Tryd.prog 27 #[.agg (helCs ⟨m0, m1, m2, m3, m4, m5, m6, m7, m8, m9⟩ s)] w fun e w' => e = .returned (.bool (decide (rightM ⟨m0, m1, m2, m3, m4, m5, m6, m7, m8, m9⟩))) ∧ Below w.heap.size w w' := by
  subst h0
  have HY := Lib.hid hy
  obtain ⟨W, hW⟩ : ∃ W, W = w.alloc (.cells (helCs ⟨15, m1, m2, m3, m4, m5, m6, m7, m8, m9⟩ s) 44) := ⟨_, rfl⟩
  have hbw : Below w.heap.size w W := by rw [hW]; exact below_new _
  have P0 : Hid (HW14 w w.heap.size ⟨15, m1, m2, m3, m4, m5, m6, m7, m8, m9⟩ s W) := ⟨hbw, by rw [hW]; exact heap_alloc_new w _, Rds.below h hbw⟩
  clear hbw h hy
  unfold helCs at hW ⊢
  simp only at hW ⊢
  obtain ⟨⟨x0, x1, x2, x3, x4⟩, x5, x6, x7, x8, x9⟩ := P0.out.d.ten
  simp only at x0 x1 x2 x3 x4 x5 x6 x7 x8 x9
  go_enter Tryd.func27, Tryd.ntmps27
  subst hW
  by_cases z1 : m1 = 0
  rotate_left
  · have HE := Lib.hid (show decide (rightM (Hel.mk 15 m1 m2 m3 m4 m5 m6 m7 m8 m9)) = false from decide_eq_false fun h => by have hr := (rest_iff _).1 h.1; exact z1 ((hr.1.1 (by simp; try omega)).1))
    have e1 : (m1 != 0) = true := by simp [z1]
    clear z1
    go_wp2_with fail
    go_ret
    rw [HE.out]
    exact ⟨rfl, P0.out.bl⟩
  subst z1
  by_cases z2 : m2 = 0
  rotate_left
  · have HE := Lib.hid (show decide (rightM (Hel.mk 15 0 m2 m3 m4 m5 m6 m7 m8 m9)) = false from decide_eq_false fun h => by have hr := (rest_iff _).1 h.1; exact z2 ((hr.1.1 (by simp; try omega)).2))
    have e2 : (m2 != 0) = true := by simp [z2]
    clear z2
    go_wp2_with fail
    go_ret
    rw [HE.out]
    exact ⟨rfl, P0.out.bl⟩
  subst z2
  by_cases z3 : m3 = 0
  rotate_left
  · have HE := Lib.hid (show decide (rightM (Hel.mk 15 0 0 m3 m4 m5 m6 m7 m8 m9)) = false from decide_eq_false fun h => by have hr := (rest_iff _).1 h.1; exact z3 (hr.1.2.1 (by simp; try omega)))
    have e3 : (m3 != 0) = true := by simp [z3]
    clear z3
    go_wp2_with fail
    go_ret
    rw [HE.out]
    exact ⟨rfl, P0.out.bl⟩
  subst z3
  by_cases z5 : m5 = false
  rotate_left
  · have HE := Lib.hid (show decide (rightM (Hel.mk 15 0 0 0 m4 m5 m6 m7 m8 m9)) = false from decide_eq_false fun h => by have hr := (rest_iff _).1 h.1; exact z5 (hr.2.1 (by simp; try omega)))
    obtain rfl : m5 = true := by cases m5 <;> simp_all
    clear z5
    go_wp2_with fail
    go_ret
    rw [HE.out]
    exact ⟨rfl, P0.out.bl⟩
  subst z5
  by_cases z6 : m6.length = 0
  rotate_left
  · have HE := Lib.hid (show decide (rightM (Hel.mk 15 0 0 0 m4 false m6 m7 m8 m9)) = false from decide_eq_false fun h => by have hr := (rest_iff _).1 h.1; exact z6 (hr.2.2.1 (by simp; try omega)))
    have e6 : (m6.length : Int) > 0 := by omega
    have e6n : 0 < m6.length := by omega
    clear z6
    go_wp2_with fail
    go_ret
    rw [HE.out]
    exact ⟨rfl, P0.out.bl⟩
  obtain rfl : m6 = [] := List.eq_nil_of_length_eq_zero z6
  by_cases z7 : m7 = ByteArray.empty
  rotate_left
  · have HE := Lib.hid (show decide (rightM (Hel.mk 15 0 0 0 m4 false [] m7 m8 m9)) = false from decide_eq_false fun h => by have hr := (rest_iff _).1 h.1; exact z7 (hr.2.2.2.1 (by simp; try omega)))
    have e7 : ¬ m7.toList = [] := by intro q; apply z7; rw [ByteArray.toList_eq] at q; exact ByteArray.ext (Array.toList_inj.1 q)
    clear z7
    go_wp2_with fail
    go_ret
    rw [HE.out]
    exact ⟨rfl, P0.out.bl⟩
  subst z7
  by_cases z8 : m8 = 0
  rotate_left
  · have HE := Lib.hid (show decide (rightM (Hel.mk 15 0 0 0 m4 false [] ByteArray.empty m8 m9)) = false from decide_eq_false fun h => by have hr := (rest_iff _).1 h.1; exact z8 (hr.2.2.2.2.1 (by simp; try omega)))
    have e8 : (m8 != 0) = true := by simp [z8]
    clear z8
    go_wp2_with fail
    go_ret
    rw [HE.out]
    exact ⟨rfl, P0.out.bl⟩
  subst z8
  by_cases z9 : m9 = 0
  rotate_left
  · have HE := Lib.hid (show decide (rightM (Hel.mk 15 0 0 0 m4 false [] ByteArray.empty 0 m9)) = false from decide_eq_false fun h => by have hr := (rest_iff _).1 h.1; exact z9 (hr.2.2.2.2.2 (by simp; try omega)))
    have e9 : (m9 != 0) = true := by simp [z9]
    clear z9
    go_wp2_with fail
    go_ret
    rw [HE.out]
    exact ⟨rfl, P0.out.bl⟩
  subst z9
  have HRest : Hid (restM (Hel.mk 15 0 0 0 m4 false [] ByteArray.empty 0 0)) := (rest_iff _).2 ⟨⟨fun q => ⟨(by first | rfl | (exfalso; simp at q; done) | (exfalso; simp at q; omega)), (by first | rfl | (exfalso; simp at q; done) | (exfalso; simp at q; omega))⟩, fun q => (by first | rfl | (exfalso; simp at q; done) | (exfalso; simp at q; omega)), fun q => (by first | rfl | (exfalso; simp at q; done) | (exfalso; simp at q; omega))⟩, fun q => (by first | rfl | (exfalso; simp at q; done) | (exfalso; simp at q; omega)), fun q => (by first | rfl | (exfalso; simp at q; done) | (exfalso; simp at q; omega)), fun q => (by first | rfl | (exfalso; simp at q; done) | (exfalso; simp at q; omega)), fun q => (by first | rfl | (exfalso; simp at q; done) | (exfalso; simp at q; omega)), fun q => (by first | rfl | (exfalso; simp at q; done) | (exfalso; simp at q; omega))⟩
  by_cases c4 : termOk m4
  rotate_left
  · have HX := Lib.hid c4
    have HE := Lib.hid (show decide (rightM (Hel.mk 15 0 0 0 m4 false [] ByteArray.empty 0 0)) = false from decide_eq_false fun h => by have := h.2; simp [ownM, c4] at this)
    go_wp2_with fail
    refine (rterm14_any _ _).mono ?_
    rintro e w42 ⟨rfl, hw⟩
    subst hw
    rw [decide_eq_false c4]
    go_wp2_with fail
    go_ret
    rw [HE.out]
    exact ⟨rfl, P0.out.bl⟩
  have HE := Lib.hid (show decide (rightM (Hel.mk 15 0 0 0 m4 false [] ByteArray.empty 0 0)) = true from decide_eq_true ⟨HRest.out, by simp [ownM, c4]⟩)
  go_wp2_with fail
  refine (rterm14_any _ _).mono ?_
  rintro e w43 ⟨rfl, hw⟩
  subst hw
  rw [decide_eq_true c4]
  go_wp2_with fail
  go_ret
  rw [HE.out]
  exact ⟨rfl, P0.out.bl⟩
set_option maxHeartbeats 6400000 in
set_option maxRecDepth 100000 in
theorem rright14_k20 (m0 m1 m2 m3 m4 : Int) (m5 : Bool) (m6 : List Int) (m7 : ByteArray) (m8 m9 : Int) (s : HelS) (w : World) (h : Rds w.heap.size w .u8 s.A m6.length s.c m6) (hy : Byt m6) (h0 : m0 = 20) :
    Calls Tryd.prog 27 #[.agg (helCs ⟨m0, m1, m2, m3, m4, m5, m6, m7, m8, m9⟩ s)] w fun e w' => e = .returned (.bool (decide (rightM ⟨m0, m1, m2, m3, m4, m5, m6, m7, m8, m9⟩))) ∧ Below w.heap.size w w' := by
  subst h0
  have HY := Lib.hid hy
  obtain ⟨W, hW⟩ : ∃ W, W = w.alloc (.cells (helCs ⟨20, m1, m2, m3, m4, m5, m6, m7, m8, m9⟩ s) 44) := ⟨_, rfl⟩
  have hbw : Below w.heap.size w W := by rw [hW]; exact below_new _
  have P0 : Hid (HW14 w w.heap.size ⟨20, m1, m2, m3, m4, m5, m6, m7, m8, m9⟩ s W) := ⟨hbw, by rw [hW]; exact heap_alloc_new w _, Rds.below h hbw⟩
  clear hbw h hy
  unfold helCs at hW ⊢
  simp only at hW ⊢
  obtain ⟨⟨x0, x1, x2, x3, x4⟩, x5, x6, x7, x8, x9⟩ := P0.out.d.ten
  simp only at x0 x1 x2 x3 x4 x5 x6 x7 x8 x9
  go_enter Tryd.func27, Tryd.ntmps27
  subst hW
  by_cases z1 : m1 = 0
  rotate_left
  · have HE := Lib.hid (show decide (rightM (Hel.mk 20 m1 m2 m3 m4 m5 m6 m7 m8 m9)) = false from decide_eq_false fun h => by have hr := (rest_iff _).1 h.1; exact z1 ((hr.1.1 (by simp; try omega)).1))
    have e1 : (m1 != 0) = true := by simp [z1]
    clear z1
    go_wp2_with fail
    go_ret
    rw [HE.out]
    exact ⟨rfl, P0.out.bl⟩
  subst z1
  by_cases z2 : m2 = 0
  rotate_left
  · have HE := Lib.hid (show decide (rightM (Hel.mk 20 0 m2 m3 m4 m5 m6 m7 m8 m9)) = false from decide_eq_false fun h => by have hr := (rest_iff _).1 h.1; exact z2 ((hr.1.1 (by simp; try omega)).2))
    have e2 : (m2 != 0) = true := by simp [z2]
    clear z2
    go_wp2_with fail
    go_ret
    rw [HE.out]
    exact ⟨rfl, P0.out.bl⟩
  subst z2
  by_cases z3 : m3 = 0
  rotate_left
  · have HE := Lib.hid (show decide (rightM (Hel.mk 20 0 0 m3 m4 m5 m6 m7 m8 m9)) = false from decide_eq_false fun h => by have hr := (rest_iff _).1 h.1; exact z3 (hr.1.2.1 (by simp; try omega)))
    have e3 : (m3 != 0) = true := by simp [z3]
    clear z3
    go_wp2_with fail
    go_ret
    rw [HE.out]
    exact ⟨rfl, P0.out.bl⟩
  subst z3
  by_cases z5 : m5 = false
  rotate_left
  · have HE := Lib.hid (show decide (rightM (Hel.mk 20 0 0 0 m4 m5 m6 m7 m8 m9)) = false from decide_eq_false fun h => by have hr := (rest_iff _).1 h.1; exact z5 (hr.2.1 (by simp; try omega)))
    obtain rfl : m5 = true := by cases m5 <;> simp_all
    clear z5
    go_wp2_with fail
    go_ret
    rw [HE.out]
    exact ⟨rfl, P0.out.bl⟩
  subst z5
  by_cases z6 : m6.length = 0
  rotate_left
  · have HE := Lib.hid (show decide (rightM (Hel.mk 20 0 0 0 m4 false m6 m7 m8 m9)) = false from decide_eq_false fun h => by have hr := (rest_iff _).1 h.1; exact z6 (hr.2.2.1 (by simp; try omega)))
    have e6 : (m6.length : Int) > 0 := by omega
    have e6n : 0 < m6.length := by omega
    clear z6
    go_wp2_with fail
    go_ret
    rw [HE.out]
    exact ⟨rfl, P0.out.bl⟩
  obtain rfl : m6 = [] := List.eq_nil_of_length_eq_zero z6
  by_cases z7 : m7 = ByteArray.empty
  rotate_left
  · have HE := Lib.hid (show decide (rightM (Hel.mk 20 0 0 0 m4 false [] m7 m8 m9)) = false from decide_eq_false fun h => by have hr := (rest_iff _).1 h.1; exact z7 (hr.2.2.2.1 (by simp; try omega)))
    have e7 : ¬ m7.toList = [] := by intro q; apply z7; rw [ByteArray.toList_eq] at q; exact ByteArray.ext (Array.toList_inj.1 q)
    clear z7
    go_wp2_with fail
    go_ret
    rw [HE.out]
    exact ⟨rfl, P0.out.bl⟩
  subst z7
  by_cases z8 : m8 = 0
  rotate_left
  · have HE := Lib.hid (show decide (rightM (Hel.mk 20 0 0 0 m4 false [] ByteArray.empty m8 m9)) = false from decide_eq_false fun h => by have hr := (rest_iff _).1 h.1; exact z8 (hr.2.2.2.2.1 (by simp; try omega)))
    have e8 : (m8 != 0) = true := by simp [z8]
    clear z8
    go_wp2_with fail
    go_ret
    rw [HE.out]
    exact ⟨rfl, P0.out.bl⟩
  subst z8
  by_cases z9 : m9 = 0
  rotate_left
  · have HE := Lib.hid (show decide (rightM (Hel.mk 20 0 0 0 m4 false [] ByteArray.empty 0 m9)) = false from decide_eq_false fun h => by have hr := (rest_iff _).1 h.1; exact z9 (hr.2.2.2.2.2 (by simp; try omega)))
    have e9 : (m9 != 0) = true := by simp [z9]
    clear z9
    go_wp2_with fail
    go_ret
    rw [HE.out]
    exact ⟨rfl, P0.out.bl⟩
  subst z9
  have HRest : Hid (restM (Hel.mk 20 0 0 0 m4 false [] ByteArray.empty 0 0)) := (rest_iff _).2 ⟨⟨fun q => ⟨(by first | rfl | (exfalso; simp at q; done) | (exfalso; simp at q; omega)), (by first | rfl | (exfalso; simp at q; done) | (exfalso; simp at q; omega))⟩, fun q => (by first | rfl | (exfalso; simp at q; done) | (exfalso; simp at q; omega)), fun q => (by first | rfl | (exfalso; simp at q; done) | (exfalso; simp at q; omega))⟩, fun q => (by first | rfl | (exfalso; simp at q; done) | (exfalso; simp at q; omega)), fun q => (by first | rfl | (exfalso; simp at q; done) | (exfalso; simp at q; omega)), fun q => (by first | rfl | (exfalso; simp at q; done) | (exfalso; simp at q; omega)), fun q => (by first | rfl | (exfalso; simp at q; done) | (exfalso; simp at q; omega)), fun q => (by first | rfl | (exfalso; simp at q; done) | (exfalso; simp at q; omega))⟩
  by_cases c4 : termOk m4
  rotate_left
  · have HX := Lib.hid c4
    have HE := Lib.hid (show decide (rightM (Hel.mk 20 0 0 0 m4 false [] ByteArray.empty 0 0)) = false from decide_eq_false fun h => by have := h.2; simp [ownM, c4] at this)
    go_wp2_with fail
    refine (rterm14_any _ _).mono ?_
    rintro e w44 ⟨rfl, hw⟩
    subst hw
    rw [decide_eq_false c4]
    go_wp2_with fail
    go_ret
    rw [HE.out]
    exact ⟨rfl, P0.out.bl⟩
  have HE := Lib.hid (show decide (rightM (Hel.mk 20 0 0 0 m4 false [] ByteArray.empty 0 0)) = true from decide_eq_true ⟨HRest.out, by simp [ownM, c4]⟩)
  go_wp2_with fail
  refine (rterm14_any _ _).mono ?_
  rintro e w45 ⟨rfl, hw⟩
  subst hw
  rw [decide_eq_true c4]
  go_wp2_with fail
  go_ret
  rw [HE.out]
  exact ⟨rfl, P0.out.bl⟩
set_option maxHeartbeats 6400000 in
set_option maxRecDepth 100000 in
theorem rright14_ko (m0 m1 m2 m3 m4 : Int) (m5 : Bool) (m6 : List Int) (m7 : ByteArray) (m8 m9 : Int) (s : HelS) (w : World) (h : Rds w.heap.size w .u8 s.A m6.length s.c m6) (hy : Byt m6) (h1 : m0 ≠ 1) (h2 : m0 ≠ 2) (h4 : m0 ≠ 4) (h8 : m0 ≠ 8) (h11 : m0 ≠ 11) (h15 : m0 ≠ 15) (h20 : m0 ≠ 20) :
    Calls Tryd.prog 27 #[.agg (helCs ⟨m0, m1, m2, m3, m4, m5, m6, m7, m8, m9⟩ s)] w fun e w' => e = .returned (.bool (decide (rightM ⟨m0, m1, m2, m3, m4, m5, m6, m7, m8, m9⟩))) ∧ Below w.heap.size w w' := by
  have HY := Lib.hid hy
  obtain ⟨W, hW⟩ : ∃ W, W = w.alloc (.cells (helCs ⟨m0, m1, m2, m3, m4, m5, m6, m7, m8, m9⟩ s) 44) := ⟨_, rfl⟩
  have hbw : Below w.heap.size w W := by rw [hW]; exact below_new _
  have P0 : Hid (HW14 w w.heap.size ⟨m0, m1, m2, m3, m4, m5, m6, m7, m8, m9⟩ s W) := ⟨hbw, by rw [hW]; exact heap_alloc_new w _, Rds.below h hbw⟩
  clear hbw h hy
  have k1 : (m0 == 1) = false := by simp [h1]
  have n1 : (m0 != 1) = true := by simp [h1]
  have k2 : (m0 == 2) = false := by simp [h2]
  have n2 : (m0 != 2) = true := by simp [h2]
  have k4 : (m0 == 4) = false := by simp [h4]
  have n4 : (m0 != 4) = true := by simp [h4]
  have k8 : (m0 == 8) = false := by simp [h8]
  have n8 : (m0 != 8) = true := by simp [h8]
  have k11 : (m0 == 11) = false := by simp [h11]
  have n11 : (m0 != 11) = true := by simp [h11]
  have k15 : (m0 == 15) = false := by simp [h15]
  have n15 : (m0 != 15) = true := by simp [h15]
  have k20 : (m0 == 20) = false := by simp [h20]
  have n20 : (m0 != 20) = true := by simp [h20]
  unfold helCs at hW ⊢
  simp only at hW ⊢
  obtain ⟨⟨x0, x1, x2, x3, x4⟩, x5, x6, x7, x8, x9⟩ := P0.out.d.ten
  simp only at x0 x1 x2 x3 x4 x5 x6 x7 x8 x9
  go_enter Tryd.func27, Tryd.ntmps27
  subst hW
  by_cases z1 : m1 = 0
  rotate_left
  · have HE := Lib.hid (show decide (rightM (Hel.mk m0 m1 m2 m3 m4 m5 m6 m7 m8 m9)) = false from decide_eq_false fun h => by have hr := (rest_iff _).1 h.1; exact z1 ((hr.1.1 (by simp; try omega)).1))
    have e1 : (m1 != 0) = true := by simp [z1]
    clear z1
    go_wp2_with fail
    go_ret
    rw [HE.out]
    exact ⟨rfl, P0.out.bl⟩
  subst z1
  by_cases z2 : m2 = 0
  rotate_left
  · have HE := Lib.hid (show decide (rightM (Hel.mk m0 0 m2 m3 m4 m5 m6 m7 m8 m9)) = false from decide_eq_false fun h => by have hr := (rest_iff _).1 h.1; exact z2 ((hr.1.1 (by simp; try omega)).2))
    have e2 : (m2 != 0) = true := by simp [z2]
    clear z2
    go_wp2_with fail
    go_ret
    rw [HE.out]
    exact ⟨rfl, P0.out.bl⟩
  subst z2
  by_cases z3 : m3 = 0
  rotate_left
  · have HE := Lib.hid (show decide (rightM (Hel.mk m0 0 0 m3 m4 m5 m6 m7 m8 m9)) = false from decide_eq_false fun h => by have hr := (rest_iff _).1 h.1; exact z3 (hr.1.2.1 (by simp; try omega)))
    have e3 : (m3 != 0) = true := by simp [z3]
    clear z3
    go_wp2_with fail
    go_ret
    rw [HE.out]
    exact ⟨rfl, P0.out.bl⟩
  subst z3
  by_cases z4 : m4 = 0
  rotate_left
  · have HE := Lib.hid (show decide (rightM (Hel.mk m0 0 0 0 m4 m5 m6 m7 m8 m9)) = false from decide_eq_false fun h => by have hr := (rest_iff _).1 h.1; exact z4 (hr.1.2.2 (by simp; try omega)))
    have e4 : (m4 != 0) = true := by simp [z4]
    clear z4
    go_wp2_with fail
    go_ret
    rw [HE.out]
    exact ⟨rfl, P0.out.bl⟩
  subst z4
  by_cases z5 : m5 = false
  rotate_left
  · have HE := Lib.hid (show decide (rightM (Hel.mk m0 0 0 0 0 m5 m6 m7 m8 m9)) = false from decide_eq_false fun h => by have hr := (rest_iff _).1 h.1; exact z5 (hr.2.1 (by simp; try omega)))
    obtain rfl : m5 = true := by cases m5 <;> simp_all
    clear z5
    go_wp2_with fail
    go_ret
    rw [HE.out]
    exact ⟨rfl, P0.out.bl⟩
  subst z5
  by_cases z6 : m6.length = 0
  rotate_left
  · have HE := Lib.hid (show decide (rightM (Hel.mk m0 0 0 0 0 false m6 m7 m8 m9)) = false from decide_eq_false fun h => by have hr := (rest_iff _).1 h.1; exact z6 (hr.2.2.1 (by simp; try omega)))
    have e6 : (m6.length : Int) > 0 := by omega
    have e6n : 0 < m6.length := by omega
    clear z6
    go_wp2_with fail
    go_ret
    rw [HE.out]
    exact ⟨rfl, P0.out.bl⟩
  obtain rfl : m6 = [] := List.eq_nil_of_length_eq_zero z6
  by_cases z7 : m7 = ByteArray.empty
  rotate_left
  · have HE := Lib.hid (show decide (rightM (Hel.mk m0 0 0 0 0 false [] m7 m8 m9)) = false from decide_eq_false fun h => by have hr := (rest_iff _).1 h.1; exact z7 (hr.2.2.2.1 (by simp; try omega)))
    have e7 : ¬ m7.toList = [] := by intro q; apply z7; rw [ByteArray.toList_eq] at q; exact ByteArray.ext (Array.toList_inj.1 q)
    clear z7
    go_wp2_with fail
    go_ret
    rw [HE.out]
    exact ⟨rfl, P0.out.bl⟩
  subst z7
  by_cases z8 : m8 = 0
  rotate_left
  · have HE := Lib.hid (show decide (rightM (Hel.mk m0 0 0 0 0 false [] ByteArray.empty m8 m9)) = false from decide_eq_false fun h => by have hr := (rest_iff _).1 h.1; exact z8 (hr.2.2.2.2.1 (by simp; try omega)))
    have e8 : (m8 != 0) = true := by simp [z8]
    clear z8
    go_wp2_with fail
    go_ret
    rw [HE.out]
    exact ⟨rfl, P0.out.bl⟩
  subst z8
  by_cases z9 : m9 = 0
  rotate_left
  · have HE := Lib.hid (show decide (rightM (Hel.mk m0 0 0 0 0 false [] ByteArray.empty 0 m9)) = false from decide_eq_false fun h => by have hr := (rest_iff _).1 h.1; exact z9 (hr.2.2.2.2.2 (by simp; try omega)))
    have e9 : (m9 != 0) = true := by simp [z9]
    clear z9
    go_wp2_with fail
    go_ret
    rw [HE.out]
    exact ⟨rfl, P0.out.bl⟩
  subst z9
  have HRest : Hid (restM (Hel.mk m0 0 0 0 0 false [] ByteArray.empty 0 0)) := (rest_iff _).2 ⟨⟨fun q => ⟨(by first | rfl | (exfalso; simp at q; done) | (exfalso; simp at q; omega)), (by first | rfl | (exfalso; simp at q; done) | (exfalso; simp at q; omega))⟩, fun q => (by first | rfl | (exfalso; simp at q; done) | (exfalso; simp at q; omega)), fun q => (by first | rfl | (exfalso; simp at q; done) | (exfalso; simp at q; omega))⟩, fun q => (by first | rfl | (exfalso; simp at q; done) | (exfalso; simp at q; omega)), fun q => (by first | rfl | (exfalso; simp at q; done) | (exfalso; simp at q; omega)), fun q => (by first | rfl | (exfalso; simp at q; done) | (exfalso; simp at q; omega)), fun q => (by first | rfl | (exfalso; simp at q; done) | (exfalso; simp at q; omega)), fun q => (by first | rfl | (exfalso; simp at q; done) | (exfalso; simp at q; omega))⟩
  have HE := Lib.hid (show decide (rightM (Hel.mk m0 0 0 0 0 false [] ByteArray.empty 0 0)) = false from decide_eq_false fun h => by have := ownM_kind h.2; simp at this; omega)
  go_wp2_with fail
  go_ret
  rw [HE.out]
  exact ⟨rfl, P0.out.bl⟩
theorem rright14_any (m : Hel) (s : HelS) (w : World) (h : HelAt w.heap.size w m s) (hy : Byt m.params) :
    Calls Tryd.prog 27 #[.agg (helCs m s)] w fun e w' => e = .returned (.bool (decide (rightM m))) ∧ Below w.heap.size w w' := by
  obtain ⟨m0, m1, m2, m3, m4, m5, m6, m7, m8, m9⟩ := m
  by_cases h1 : m0 = 1
  · exact rright14_k1 m0 m1 m2 m3 m4 m5 m6 m7 m8 m9 s w h hy h1
  by_cases h2 : m0 = 2
  · exact rright14_k2 m0 m1 m2 m3 m4 m5 m6 m7 m8 m9 s w h hy h2
  by_cases h4 : m0 = 4
  · exact rright14_k4 m0 m1 m2 m3 m4 m5 m6 m7 m8 m9 s w h hy h4
  by_cases h8 : m0 = 8
  · exact rright14_k8 m0 m1 m2 m3 m4 m5 m6 m7 m8 m9 s w h hy h8
  by_cases h11 : m0 = 11
  · exact rright14_k11 m0 m1 m2 m3 m4 m5 m6 m7 m8 m9 s w h hy h11
  by_cases h15 : m0 = 15
  · exact rright14_k15 m0 m1 m2 m3 m4 m5 m6 m7 m8 m9 s w h hy h15
  by_cases h20 : m0 = 20
  · exact rright14_k20 m0 m1 m2 m3 m4 m5 m6 m7 m8 m9 s w h hy h20
  · exact rright14_ko m0 m1 m2 m3 m4 m5 m6 m7 m8 m9 s w h hy h1 h2 h4 h8 h11 h15 h20
end Go.Proofs.YtbfgoojpbhlboaaDoor
