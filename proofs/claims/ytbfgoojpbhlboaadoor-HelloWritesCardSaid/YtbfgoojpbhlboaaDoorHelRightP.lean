/- The program of layer 14: Right. No condition. Printed by gen_helright.py. -/
import Derived.Test.YtbfgoojpbhlboaaDoorHelSmall
import Derived.Test.YtbfgoojpbhlboaaDoorHelOnly
import Derived.Test.YtbfgoojpbhlboaaDoorParRead
import Derived.Test.YtbfgoojpbhlboaaDoorTurn
set_option linter.unusedVariables false
set_option linter.unusedSimpArgs false
namespace Go.Proofs.YtbfgoojpbhlboaaDoor
open Go Go.RowKit

set_option maxHeartbeats 1600000 in
set_option maxRecDepth 100000 in
theorem told14_any {A : Option Addr} {c : Nat} {xs : List Int} (w : World) (h : Rds w.heap.size w .u8 A xs.length c xs) (hb : Byt xs) :
    Calls Tryd.prog 65 #[.slice A xs.length c] w fun e w' => e = .returned (.bool (decide (paramsOk xs))) ∧ Below w.heap.size w w' := by
  have key := readP_any w h hb
  obtain ⟨⟨p, er⟩, hp⟩ : ∃ r, r = readP xs := ⟨_, rfl⟩
  have hq : paramsOk xs ↔ er = 0 := by unfold paramsOk; rw [← hp]
  have HD : Hid (decide (paramsOk xs) = (er == 0)) := by
    show _ = _
    by_cases q : er = 0
    · rw [decide_eq_true (hq.2 q)]; simp [q]
    · rw [decide_eq_false fun k => q (hq.1 k)]; simp [q]
  clear hq
  unfold ReadPPost at key
  rw [← hp] at key
  simp only at key
  obtain ⟨D, hD⟩ : ∃ D, D = decide (paramsOk xs) := ⟨_, rfl⟩
  rw [← hD] at HD ⊢
  clear hp hD h hb
  go_enter Tryd.func65, Tryd.ntmps65
  go_wp2_with fail
  refine key.mono ?_
  clear key
  rintro e w2 ⟨s, rfl, hat, hb2⟩
  have HB3 : Hid (Below w.heap.size w (w2.alloc (.cells (parCs p s) 27))) := hb2.trans ((below_new _).mono hb2.size)
  unfold parCs at HB3 ⊢
  clear hat hb2
  go_wp2_with fail
  go_ret
  exact ⟨by rw [HD.out]; rfl, HB3.out⟩
/-- A message in its box and in memory, seen from a later world. -/
structure BW14 (w : World) (g : Nat) (m : Hel) (s : HelS) (W : World) : Prop where
  bl : Below w.heap.size w W
  d : HelB W g m s
  h : HelAt w.heap.size W m s
theorem BW14.below {w W W' : World} {g : Nat} {m : Hel} {s : HelS} (h : BW14 w g m s W) (hb : Below W.heap.size W W') : BW14 w g m s W' := ⟨below_next h.bl h.bl.size hb, h.d.later hb (lt_of_get h.d), h.h.below hb⟩
set_option maxHeartbeats 6400000 in
set_option maxRecDepth 100000 in
theorem right14_k1 (m0 m1 m2 m3 m4 : Int) (m5 : Bool) (m6 : List Int) (m7 : ByteArray) (m8 m9 : Int) (s : HelS) (w : World) (h : Rds w.heap.size w .u8 s.A m6.length s.c m6) (hy : Byt m6) (h0 : m0 = 1) :
    Calls Tryd.prog 28 #[.agg (helCs ⟨m0, m1, m2, m3, m4, m5, m6, m7, m8, m9⟩ s)] w fun e w' => e = .returned (.bool (decide (rightM ⟨m0, m1, m2, m3, m4, m5, m6, m7, m8, m9⟩))) ∧ Below w.heap.size w w' := by
  subst h0
  have HY := Lib.hid hy
  obtain ⟨W, hW⟩ : ∃ W, W = w.alloc (.cells (helCs ⟨1, m1, m2, m3, m4, m5, m6, m7, m8, m9⟩ s) 48) := ⟨_, rfl⟩
  have hbw : Below w.heap.size w W := by rw [hW]; exact below_new _
  have P0 : Hid (BW14 w w.heap.size ⟨1, m1, m2, m3, m4, m5, m6, m7, m8, m9⟩ s W) := ⟨hbw, by rw [hW]; exact heap_alloc_new w _, Rds.below h hbw⟩
  clear hbw h hy
  obtain ⟨O, hO⟩ : ∃ O, O = onlyM (Hel.mk 1 m1 m2 m3 m4 m5 m6 m7 m8 m9) := ⟨_, rfl⟩
  obtain ⟨SO, hSO⟩ : ∃ SO, SO = onlyS (Hel.mk 1 m1 m2 m3 m4 m5 m6 m7 m8 m9) s := ⟨_, rfl⟩
  have key := only_any (Hel.mk 1 m1 m2 m3 m4 m5 m6 m7 m8 m9) s W
  rw [← hO, ← hSO] at key
  have HO := Lib.hid hO
  clear hO hSO
  unfold helCs at hW key ⊢
  simp only at hW key ⊢
  obtain ⟨⟨x0, x1, x2, x3, x4⟩, x5, x6, x7, x8, x9⟩ := P0.out.d.ten
  simp only at x0 x1 x2 x3 x4 x5 x6 x7 x8 x9
  go_enter Tryd.func28, Tryd.ntmps28
  subst hW
  go_wp2_with fail
  refine key.mono ?_
  clear key
  rintro e w1 ⟨rfl, hb⟩
  have P1 := Lib.hid (P0.out.below hb)
  obtain ⟨W3, hW3⟩ : ∃ W3, W3 = w1.alloc (.cells (helCs O SO) 48) := ⟨_, rfl⟩
  have hb3 : Below w1.heap.size w1 W3 := by rw [hW3]; exact below_new _
  have P3 := Lib.hid (P1.out.below hb3)
  have O3 : Hid (HelB W3 w1.heap.size O SO) := by show _ = _; rw [hW3]; exact heap_alloc_new w1 _
  have key := hsame_any O (Hel.mk 1 m1 m2 m3 m4 m5 m6 m7 m8 m9) SO s W3
  unfold helCs at hW3 key
  simp only at key
  clear hb hb3 x0 x1 x2 x3 x4 x5 x6 x7 x8 x9
  obtain ⟨⟨x0, x1, x2, x3, x4⟩, x5, x6, x7, x8, x9⟩ := P3.out.d.ten
  simp only at x0 x1 x2 x3 x4 x5 x6 x7 x8 x9
  obtain ⟨⟨y0, y1, y2, y3, y4⟩, y5, y6, y7, y8, y9⟩ := O3.out.ten
  subst hW3
  go_wp2_with fail
  refine key.mono ?_
  clear key
  rintro e w4 ⟨rfl, hb⟩
  have P4 := Lib.hid (P3.out.below hb)
  have O4 := Lib.hid (O3.out.later hb (lt_of_get O3.out))
  clear hb x0 x1 x2 x3 x4 x5 x6 x7 x8 x9 y0 y1 y2 y3 y4 y5 y6 y7 y8 y9
  obtain ⟨⟨x0, x1, x2, x3, x4⟩, x5, x6, x7, x8, x9⟩ := P4.out.d.ten
  simp only at x0 x1 x2 x3 x4 x5 x6 x7 x8 x9
  obtain ⟨⟨y0, y1, y2, y3, y4⟩, y5, y6, y7, y8, y9⟩ := O4.out.ten
  by_cases hsm : sameM O (Hel.mk 1 m1 m2 m3 m4 m5 m6 m7 m8 m9)
  rotate_left
  · have HE := Lib.hid (show decide (rightM (Hel.mk 1 m1 m2 m3 m4 m5 m6 m7 m8 m9)) = false from decide_eq_false fun h => hsm (by rw [HO.out]; exact h.1.1))
    rw [decide_eq_false hsm]
    clear hsm
    go_wp2_with fail
    go_ret
    rw [HE.out]
    exact ⟨rfl, P4.out.bl⟩
  rw [decide_eq_true hsm]
  have HSM := Lib.hid hsm
  clear hsm
  by_cases hln : O.params.length = m6.length
  rotate_left
  · have HE := Lib.hid (show decide (rightM (Hel.mk 1 m1 m2 m3 m4 m5 m6 m7 m8 m9)) = false from decide_eq_false fun h => hln (by rw [HO.out]; exact h.1.2))
    have hli : ((O.params.length : Int) != (m6.length : Int)) = true := by simp; omega
    clear hln
    go_wp2_with fail
    go_ret
    rw [HE.out]
    exact ⟨rfl, P4.out.bl⟩
  have HRest : Hid (restM (Hel.mk 1 m1 m2 m3 m4 m5 m6 m7 m8 m9)) := ⟨by rw [← HO.out]; exact HSM.out, by rw [← HO.out]; exact hln⟩
  have hli : ((O.params.length : Int) != (m6.length : Int)) = false := by simp [hln]
  clear hln
  by_cases c1 : termOk m1
  rotate_left
  · have HX := Lib.hid c1
    have HE := Lib.hid (show decide (rightM (Hel.mk 1 m1 m2 m3 m4 m5 m6 m7 m8 m9)) = false from decide_eq_false fun h => by have := h.2; simp [ownM, c1] at this)
    go_wp2_with fail
    refine (number14_any _ _).mono ?_
    rintro e w1 ⟨rfl, hb⟩
    rw [decide_eq_false c1]
    have P1 := Lib.hid (P4.out.below hb)
    clear hb
    clear x0 x1 x2 x3 x4 x5 x6 x7 x8 x9
    obtain ⟨⟨x0, x1, x2, x3, x4⟩, x5, x6, x7, x8, x9⟩ := P1.out.d.ten
    simp only at x0 x1 x2 x3 x4 x5 x6 x7 x8 x9
    go_wp2_with fail
    go_ret
    rw [HE.out]
    exact ⟨rfl, P1.out.bl⟩
  by_cases c2 : termOk m2
  rotate_left
  · have HX := Lib.hid c2
    have HE := Lib.hid (show decide (rightM (Hel.mk 1 m1 m2 m3 m4 m5 m6 m7 m8 m9)) = false from decide_eq_false fun h => by have := h.2; simp [ownM, c2] at this)
    go_wp2_with fail
    refine (number14_any _ _).mono ?_
    rintro e w2 ⟨rfl, hb⟩
    rw [decide_eq_true c1]
    have P2 := Lib.hid (P4.out.below hb)
    clear hb
    clear x0 x1 x2 x3 x4 x5 x6 x7 x8 x9
    obtain ⟨⟨x0, x1, x2, x3, x4⟩, x5, x6, x7, x8, x9⟩ := P2.out.d.ten
    simp only at x0 x1 x2 x3 x4 x5 x6 x7 x8 x9
    go_wp2_with fail
    refine (number14_any _ _).mono ?_
    rintro e w3 ⟨rfl, hb⟩
    rw [decide_eq_false c2]
    have P3 := Lib.hid (P2.out.below hb)
    clear hb
    clear x0 x1 x2 x3 x4 x5 x6 x7 x8 x9
    obtain ⟨⟨x0, x1, x2, x3, x4⟩, x5, x6, x7, x8, x9⟩ := P3.out.d.ten
    simp only at x0 x1 x2 x3 x4 x5 x6 x7 x8 x9
    go_wp2_with fail
    go_ret
    rw [HE.out]
    exact ⟨rfl, P3.out.bl⟩
  by_cases c6 : paramsOk m6
  rotate_left
  · have HX := Lib.hid c6
    have HE := Lib.hid (show decide (rightM (Hel.mk 1 m1 m2 m3 m4 m5 m6 m7 m8 m9)) = false from decide_eq_false fun h => by have := h.2; simp [ownM, c6] at this)
    go_wp2_with fail
    refine (number14_any _ _).mono ?_
    rintro e w4 ⟨rfl, hb⟩
    rw [decide_eq_true c1]
    have P4 := Lib.hid (P4.out.below hb)
    clear hb
    clear x0 x1 x2 x3 x4 x5 x6 x7 x8 x9
    obtain ⟨⟨x0, x1, x2, x3, x4⟩, x5, x6, x7, x8, x9⟩ := P4.out.d.ten
    simp only at x0 x1 x2 x3 x4 x5 x6 x7 x8 x9
    go_wp2_with fail
    refine (number14_any _ _).mono ?_
    rintro e w5 ⟨rfl, hb⟩
    rw [decide_eq_true c2]
    have P5 := Lib.hid (P4.out.below hb)
    clear hb
    clear x0 x1 x2 x3 x4 x5 x6 x7 x8 x9
    obtain ⟨⟨x0, x1, x2, x3, x4⟩, x5, x6, x7, x8, x9⟩ := P5.out.d.ten
    simp only at x0 x1 x2 x3 x4 x5 x6 x7 x8 x9
    go_wp2_with fail
    refine (told14_any _ (P5.out.h.mono P5.out.bl.size) HY.out).mono ?_
    rintro e w6 ⟨rfl, hb⟩
    rw [decide_eq_false c6]
    have P6 := Lib.hid (P5.out.below hb)
    clear hb
    clear x0 x1 x2 x3 x4 x5 x6 x7 x8 x9
    obtain ⟨⟨x0, x1, x2, x3, x4⟩, x5, x6, x7, x8, x9⟩ := P6.out.d.ten
    simp only at x0 x1 x2 x3 x4 x5 x6 x7 x8 x9
    go_wp2_with fail
    go_ret
    rw [HE.out]
    exact ⟨rfl, P6.out.bl⟩
  by_cases c3 : m3 = 0
  · subst c3
    by_cases c4 : m4 = 0
    · subst c4
      have HE := Lib.hid (show decide (rightM (Hel.mk 1 m1 m2 0 0 m5 m6 m7 m8 m9)) = true from decide_eq_true ⟨HRest.out, by simp [ownM, c1, c2, c6]⟩)
      go_wp2_with fail
      refine (number14_any _ _).mono ?_
      rintro e w7 ⟨rfl, hb⟩
      rw [decide_eq_true c1]
      have P7 := Lib.hid (P4.out.below hb)
      clear hb
      clear x0 x1 x2 x3 x4 x5 x6 x7 x8 x9
      obtain ⟨⟨x0, x1, x2, x3, x4⟩, x5, x6, x7, x8, x9⟩ := P7.out.d.ten
      simp only at x0 x1 x2 x3 x4 x5 x6 x7 x8 x9
      go_wp2_with fail
      refine (number14_any _ _).mono ?_
      rintro e w8 ⟨rfl, hb⟩
      rw [decide_eq_true c2]
      have P8 := Lib.hid (P7.out.below hb)
      clear hb
      clear x0 x1 x2 x3 x4 x5 x6 x7 x8 x9
      obtain ⟨⟨x0, x1, x2, x3, x4⟩, x5, x6, x7, x8, x9⟩ := P8.out.d.ten
      simp only at x0 x1 x2 x3 x4 x5 x6 x7 x8 x9
      go_wp2_with fail
      refine (told14_any _ (P8.out.h.mono P8.out.bl.size) HY.out).mono ?_
      rintro e w9 ⟨rfl, hb⟩
      rw [decide_eq_true c6]
      have P9 := Lib.hid (P8.out.below hb)
      clear hb
      clear x0 x1 x2 x3 x4 x5 x6 x7 x8 x9
      obtain ⟨⟨x0, x1, x2, x3, x4⟩, x5, x6, x7, x8, x9⟩ := P9.out.d.ten
      simp only at x0 x1 x2 x3 x4 x5 x6 x7 x8 x9
      go_wp2_with fail
      go_ret
      rw [HE.out]
      exact ⟨rfl, P9.out.bl⟩
    · have e4 : (m4 == 0) = false := by simp [c4]
      have c3 : ¬ termOk 0 := by decide
      have HE := Lib.hid (show decide (rightM (Hel.mk 1 m1 m2 0 m4 m5 m6 m7 m8 m9)) = false from decide_eq_false fun h => by have := h.2; simp [ownM, c4, c3] at this)
      go_wp2_with fail
      refine (number14_any _ _).mono ?_
      rintro e w10 ⟨rfl, hb⟩
      rw [decide_eq_true c1]
      have P10 := Lib.hid (P4.out.below hb)
      clear hb
      clear x0 x1 x2 x3 x4 x5 x6 x7 x8 x9
      obtain ⟨⟨x0, x1, x2, x3, x4⟩, x5, x6, x7, x8, x9⟩ := P10.out.d.ten
      simp only at x0 x1 x2 x3 x4 x5 x6 x7 x8 x9
      go_wp2_with fail
      refine (number14_any _ _).mono ?_
      rintro e w11 ⟨rfl, hb⟩
      rw [decide_eq_true c2]
      have P11 := Lib.hid (P10.out.below hb)
      clear hb
      clear x0 x1 x2 x3 x4 x5 x6 x7 x8 x9
      obtain ⟨⟨x0, x1, x2, x3, x4⟩, x5, x6, x7, x8, x9⟩ := P11.out.d.ten
      simp only at x0 x1 x2 x3 x4 x5 x6 x7 x8 x9
      go_wp2_with fail
      refine (told14_any _ (P11.out.h.mono P11.out.bl.size) HY.out).mono ?_
      rintro e w12 ⟨rfl, hb⟩
      rw [decide_eq_true c6]
      have P12 := Lib.hid (P11.out.below hb)
      clear hb
      clear x0 x1 x2 x3 x4 x5 x6 x7 x8 x9
      obtain ⟨⟨x0, x1, x2, x3, x4⟩, x5, x6, x7, x8, x9⟩ := P12.out.d.ten
      simp only at x0 x1 x2 x3 x4 x5 x6 x7 x8 x9
      go_wp2_with fail
      refine (number14_any _ _).mono ?_
      rintro e w13 ⟨rfl, hb⟩
      rw [decide_eq_false c3]
      have P13 := Lib.hid (P12.out.below hb)
      clear hb
      clear x0 x1 x2 x3 x4 x5 x6 x7 x8 x9
      obtain ⟨⟨x0, x1, x2, x3, x4⟩, x5, x6, x7, x8, x9⟩ := P13.out.d.ten
      simp only at x0 x1 x2 x3 x4 x5 x6 x7 x8 x9
      go_wp2_with fail
      go_ret
      rw [HE.out]
      exact ⟨rfl, P13.out.bl⟩
  have e3 : (m3 == 0) = false := by simp [c3]
  by_cases d3 : termOk m3
  rotate_left
  · have HX := Lib.hid d3
    have HE := Lib.hid (show decide (rightM (Hel.mk 1 m1 m2 m3 m4 m5 m6 m7 m8 m9)) = false from decide_eq_false fun h => by have := h.2; simp [ownM, c3, d3] at this)
    go_wp2_with fail
    refine (number14_any _ _).mono ?_
    rintro e w14 ⟨rfl, hb⟩
    rw [decide_eq_true c1]
    have P14 := Lib.hid (P4.out.below hb)
    clear hb
    clear x0 x1 x2 x3 x4 x5 x6 x7 x8 x9
    obtain ⟨⟨x0, x1, x2, x3, x4⟩, x5, x6, x7, x8, x9⟩ := P14.out.d.ten
    simp only at x0 x1 x2 x3 x4 x5 x6 x7 x8 x9
    go_wp2_with fail
    refine (number14_any _ _).mono ?_
    rintro e w15 ⟨rfl, hb⟩
    rw [decide_eq_true c2]
    have P15 := Lib.hid (P14.out.below hb)
    clear hb
    clear x0 x1 x2 x3 x4 x5 x6 x7 x8 x9
    obtain ⟨⟨x0, x1, x2, x3, x4⟩, x5, x6, x7, x8, x9⟩ := P15.out.d.ten
    simp only at x0 x1 x2 x3 x4 x5 x6 x7 x8 x9
    go_wp2_with fail
    refine (told14_any _ (P15.out.h.mono P15.out.bl.size) HY.out).mono ?_
    rintro e w16 ⟨rfl, hb⟩
    rw [decide_eq_true c6]
    have P16 := Lib.hid (P15.out.below hb)
    clear hb
    clear x0 x1 x2 x3 x4 x5 x6 x7 x8 x9
    obtain ⟨⟨x0, x1, x2, x3, x4⟩, x5, x6, x7, x8, x9⟩ := P16.out.d.ten
    simp only at x0 x1 x2 x3 x4 x5 x6 x7 x8 x9
    go_wp2_with fail
    refine (number14_any _ _).mono ?_
    rintro e w17 ⟨rfl, hb⟩
    rw [decide_eq_false d3]
    have P17 := Lib.hid (P16.out.below hb)
    clear hb
    clear x0 x1 x2 x3 x4 x5 x6 x7 x8 x9
    obtain ⟨⟨x0, x1, x2, x3, x4⟩, x5, x6, x7, x8, x9⟩ := P17.out.d.ten
    simp only at x0 x1 x2 x3 x4 x5 x6 x7 x8 x9
    go_wp2_with fail
    go_ret
    rw [HE.out]
    exact ⟨rfl, P17.out.bl⟩
  by_cases d4 : termOk m4
  rotate_left
  · have HX := Lib.hid d4
    have HE := Lib.hid (show decide (rightM (Hel.mk 1 m1 m2 m3 m4 m5 m6 m7 m8 m9)) = false from decide_eq_false fun h => by have := h.2; simp [ownM, c3, d3, d4] at this)
    go_wp2_with fail
    refine (number14_any _ _).mono ?_
    rintro e w18 ⟨rfl, hb⟩
    rw [decide_eq_true c1]
    have P18 := Lib.hid (P4.out.below hb)
    clear hb
    clear x0 x1 x2 x3 x4 x5 x6 x7 x8 x9
    obtain ⟨⟨x0, x1, x2, x3, x4⟩, x5, x6, x7, x8, x9⟩ := P18.out.d.ten
    simp only at x0 x1 x2 x3 x4 x5 x6 x7 x8 x9
    go_wp2_with fail
    refine (number14_any _ _).mono ?_
    rintro e w19 ⟨rfl, hb⟩
    rw [decide_eq_true c2]
    have P19 := Lib.hid (P18.out.below hb)
    clear hb
    clear x0 x1 x2 x3 x4 x5 x6 x7 x8 x9
    obtain ⟨⟨x0, x1, x2, x3, x4⟩, x5, x6, x7, x8, x9⟩ := P19.out.d.ten
    simp only at x0 x1 x2 x3 x4 x5 x6 x7 x8 x9
    go_wp2_with fail
    refine (told14_any _ (P19.out.h.mono P19.out.bl.size) HY.out).mono ?_
    rintro e w20 ⟨rfl, hb⟩
    rw [decide_eq_true c6]
    have P20 := Lib.hid (P19.out.below hb)
    clear hb
    clear x0 x1 x2 x3 x4 x5 x6 x7 x8 x9
    obtain ⟨⟨x0, x1, x2, x3, x4⟩, x5, x6, x7, x8, x9⟩ := P20.out.d.ten
    simp only at x0 x1 x2 x3 x4 x5 x6 x7 x8 x9
    go_wp2_with fail
    refine (number14_any _ _).mono ?_
    rintro e w21 ⟨rfl, hb⟩
    rw [decide_eq_true d3]
    have P21 := Lib.hid (P20.out.below hb)
    clear hb
    clear x0 x1 x2 x3 x4 x5 x6 x7 x8 x9
    obtain ⟨⟨x0, x1, x2, x3, x4⟩, x5, x6, x7, x8, x9⟩ := P21.out.d.ten
    simp only at x0 x1 x2 x3 x4 x5 x6 x7 x8 x9
    go_wp2_with fail
    refine (number14_any _ _).mono ?_
    rintro e w22 ⟨rfl, hb⟩
    rw [decide_eq_false d4]
    have P22 := Lib.hid (P21.out.below hb)
    clear hb
    clear x0 x1 x2 x3 x4 x5 x6 x7 x8 x9
    obtain ⟨⟨x0, x1, x2, x3, x4⟩, x5, x6, x7, x8, x9⟩ := P22.out.d.ten
    simp only at x0 x1 x2 x3 x4 x5 x6 x7 x8 x9
    go_wp2_with fail
    go_ret
    rw [HE.out]
    exact ⟨rfl, P22.out.bl⟩
  have HE := Lib.hid (show decide (rightM (Hel.mk 1 m1 m2 m3 m4 m5 m6 m7 m8 m9)) = true from decide_eq_true ⟨HRest.out, by simp [ownM, c1, c2, c6, d3, d4]⟩)
  go_wp2_with fail
  refine (number14_any _ _).mono ?_
  rintro e w23 ⟨rfl, hb⟩
  rw [decide_eq_true c1]
  have P23 := Lib.hid (P4.out.below hb)
  clear hb
  clear x0 x1 x2 x3 x4 x5 x6 x7 x8 x9
  obtain ⟨⟨x0, x1, x2, x3, x4⟩, x5, x6, x7, x8, x9⟩ := P23.out.d.ten
  simp only at x0 x1 x2 x3 x4 x5 x6 x7 x8 x9
  go_wp2_with fail
  refine (number14_any _ _).mono ?_
  rintro e w24 ⟨rfl, hb⟩
  rw [decide_eq_true c2]
  have P24 := Lib.hid (P23.out.below hb)
  clear hb
  clear x0 x1 x2 x3 x4 x5 x6 x7 x8 x9
  obtain ⟨⟨x0, x1, x2, x3, x4⟩, x5, x6, x7, x8, x9⟩ := P24.out.d.ten
  simp only at x0 x1 x2 x3 x4 x5 x6 x7 x8 x9
  go_wp2_with fail
  refine (told14_any _ (P24.out.h.mono P24.out.bl.size) HY.out).mono ?_
  rintro e w25 ⟨rfl, hb⟩
  rw [decide_eq_true c6]
  have P25 := Lib.hid (P24.out.below hb)
  clear hb
  clear x0 x1 x2 x3 x4 x5 x6 x7 x8 x9
  obtain ⟨⟨x0, x1, x2, x3, x4⟩, x5, x6, x7, x8, x9⟩ := P25.out.d.ten
  simp only at x0 x1 x2 x3 x4 x5 x6 x7 x8 x9
  go_wp2_with fail
  refine (number14_any _ _).mono ?_
  rintro e w26 ⟨rfl, hb⟩
  rw [decide_eq_true d3]
  have P26 := Lib.hid (P25.out.below hb)
  clear hb
  clear x0 x1 x2 x3 x4 x5 x6 x7 x8 x9
  obtain ⟨⟨x0, x1, x2, x3, x4⟩, x5, x6, x7, x8, x9⟩ := P26.out.d.ten
  simp only at x0 x1 x2 x3 x4 x5 x6 x7 x8 x9
  go_wp2_with fail
  refine (number14_any _ _).mono ?_
  rintro e w27 ⟨rfl, hb⟩
  rw [decide_eq_true d4]
  have P27 := Lib.hid (P26.out.below hb)
  clear hb
  clear x0 x1 x2 x3 x4 x5 x6 x7 x8 x9
  obtain ⟨⟨x0, x1, x2, x3, x4⟩, x5, x6, x7, x8, x9⟩ := P27.out.d.ten
  simp only at x0 x1 x2 x3 x4 x5 x6 x7 x8 x9
  go_wp2_with fail
  go_ret
  rw [HE.out]
  exact ⟨rfl, P27.out.bl⟩
set_option maxHeartbeats 6400000 in
set_option maxRecDepth 100000 in
theorem right14_k2 (m0 m1 m2 m3 m4 : Int) (m5 : Bool) (m6 : List Int) (m7 : ByteArray) (m8 m9 : Int) (s : HelS) (w : World) (h : Rds w.heap.size w .u8 s.A m6.length s.c m6) (hy : Byt m6) (h0 : m0 = 2) :
    Calls Tryd.prog 28 #[.agg (helCs ⟨m0, m1, m2, m3, m4, m5, m6, m7, m8, m9⟩ s)] w fun e w' => e = .returned (.bool (decide (rightM ⟨m0, m1, m2, m3, m4, m5, m6, m7, m8, m9⟩))) ∧ Below w.heap.size w w' := by
  subst h0
  have HY := Lib.hid hy
  obtain ⟨W, hW⟩ : ∃ W, W = w.alloc (.cells (helCs ⟨2, m1, m2, m3, m4, m5, m6, m7, m8, m9⟩ s) 48) := ⟨_, rfl⟩
  have hbw : Below w.heap.size w W := by rw [hW]; exact below_new _
  have P0 : Hid (BW14 w w.heap.size ⟨2, m1, m2, m3, m4, m5, m6, m7, m8, m9⟩ s W) := ⟨hbw, by rw [hW]; exact heap_alloc_new w _, Rds.below h hbw⟩
  clear hbw h hy
  obtain ⟨O, hO⟩ : ∃ O, O = onlyM (Hel.mk 2 m1 m2 m3 m4 m5 m6 m7 m8 m9) := ⟨_, rfl⟩
  obtain ⟨SO, hSO⟩ : ∃ SO, SO = onlyS (Hel.mk 2 m1 m2 m3 m4 m5 m6 m7 m8 m9) s := ⟨_, rfl⟩
  have key := only_any (Hel.mk 2 m1 m2 m3 m4 m5 m6 m7 m8 m9) s W
  rw [← hO, ← hSO] at key
  have HO := Lib.hid hO
  clear hO hSO
  unfold helCs at hW key ⊢
  simp only at hW key ⊢
  obtain ⟨⟨x0, x1, x2, x3, x4⟩, x5, x6, x7, x8, x9⟩ := P0.out.d.ten
  simp only at x0 x1 x2 x3 x4 x5 x6 x7 x8 x9
  go_enter Tryd.func28, Tryd.ntmps28
  subst hW
  go_wp2_with fail
  refine key.mono ?_
  clear key
  rintro e w1 ⟨rfl, hb⟩
  have P1 := Lib.hid (P0.out.below hb)
  obtain ⟨W3, hW3⟩ : ∃ W3, W3 = w1.alloc (.cells (helCs O SO) 48) := ⟨_, rfl⟩
  have hb3 : Below w1.heap.size w1 W3 := by rw [hW3]; exact below_new _
  have P3 := Lib.hid (P1.out.below hb3)
  have O3 : Hid (HelB W3 w1.heap.size O SO) := by show _ = _; rw [hW3]; exact heap_alloc_new w1 _
  have key := hsame_any O (Hel.mk 2 m1 m2 m3 m4 m5 m6 m7 m8 m9) SO s W3
  unfold helCs at hW3 key
  simp only at key
  clear hb hb3 x0 x1 x2 x3 x4 x5 x6 x7 x8 x9
  obtain ⟨⟨x0, x1, x2, x3, x4⟩, x5, x6, x7, x8, x9⟩ := P3.out.d.ten
  simp only at x0 x1 x2 x3 x4 x5 x6 x7 x8 x9
  obtain ⟨⟨y0, y1, y2, y3, y4⟩, y5, y6, y7, y8, y9⟩ := O3.out.ten
  subst hW3
  go_wp2_with fail
  refine key.mono ?_
  clear key
  rintro e w4 ⟨rfl, hb⟩
  have P4 := Lib.hid (P3.out.below hb)
  have O4 := Lib.hid (O3.out.later hb (lt_of_get O3.out))
  clear hb x0 x1 x2 x3 x4 x5 x6 x7 x8 x9 y0 y1 y2 y3 y4 y5 y6 y7 y8 y9
  obtain ⟨⟨x0, x1, x2, x3, x4⟩, x5, x6, x7, x8, x9⟩ := P4.out.d.ten
  simp only at x0 x1 x2 x3 x4 x5 x6 x7 x8 x9
  obtain ⟨⟨y0, y1, y2, y3, y4⟩, y5, y6, y7, y8, y9⟩ := O4.out.ten
  by_cases hsm : sameM O (Hel.mk 2 m1 m2 m3 m4 m5 m6 m7 m8 m9)
  rotate_left
  · have HE := Lib.hid (show decide (rightM (Hel.mk 2 m1 m2 m3 m4 m5 m6 m7 m8 m9)) = false from decide_eq_false fun h => hsm (by rw [HO.out]; exact h.1.1))
    rw [decide_eq_false hsm]
    clear hsm
    go_wp2_with fail
    go_ret
    rw [HE.out]
    exact ⟨rfl, P4.out.bl⟩
  rw [decide_eq_true hsm]
  have HSM := Lib.hid hsm
  clear hsm
  by_cases hln : O.params.length = m6.length
  rotate_left
  · have HE := Lib.hid (show decide (rightM (Hel.mk 2 m1 m2 m3 m4 m5 m6 m7 m8 m9)) = false from decide_eq_false fun h => hln (by rw [HO.out]; exact h.1.2))
    have hli : ((O.params.length : Int) != (m6.length : Int)) = true := by simp; omega
    clear hln
    go_wp2_with fail
    go_ret
    rw [HE.out]
    exact ⟨rfl, P4.out.bl⟩
  have HRest : Hid (restM (Hel.mk 2 m1 m2 m3 m4 m5 m6 m7 m8 m9)) := ⟨by rw [← HO.out]; exact HSM.out, by rw [← HO.out]; exact hln⟩
  have hli : ((O.params.length : Int) != (m6.length : Int)) = false := by simp [hln]
  clear hln
  by_cases c1 : termOk m1
  rotate_left
  · have HX := Lib.hid c1
    have HE := Lib.hid (show decide (rightM (Hel.mk 2 m1 m2 m3 m4 m5 m6 m7 m8 m9)) = false from decide_eq_false fun h => by have := h.2; simp [ownM, c1] at this)
    go_wp2_with fail
    refine (number14_any _ _).mono ?_
    rintro e w28 ⟨rfl, hb⟩
    rw [decide_eq_false c1]
    have P28 := Lib.hid (P4.out.below hb)
    clear hb
    clear x0 x1 x2 x3 x4 x5 x6 x7 x8 x9
    obtain ⟨⟨x0, x1, x2, x3, x4⟩, x5, x6, x7, x8, x9⟩ := P28.out.d.ten
    simp only at x0 x1 x2 x3 x4 x5 x6 x7 x8 x9
    go_wp2_with fail
    go_ret
    rw [HE.out]
    exact ⟨rfl, P28.out.bl⟩
  by_cases c2 : termOk m2
  rotate_left
  · have HX := Lib.hid c2
    have HE := Lib.hid (show decide (rightM (Hel.mk 2 m1 m2 m3 m4 m5 m6 m7 m8 m9)) = false from decide_eq_false fun h => by have := h.2; simp [ownM, c2] at this)
    go_wp2_with fail
    refine (number14_any _ _).mono ?_
    rintro e w29 ⟨rfl, hb⟩
    rw [decide_eq_true c1]
    have P29 := Lib.hid (P4.out.below hb)
    clear hb
    clear x0 x1 x2 x3 x4 x5 x6 x7 x8 x9
    obtain ⟨⟨x0, x1, x2, x3, x4⟩, x5, x6, x7, x8, x9⟩ := P29.out.d.ten
    simp only at x0 x1 x2 x3 x4 x5 x6 x7 x8 x9
    go_wp2_with fail
    refine (number14_any _ _).mono ?_
    rintro e w30 ⟨rfl, hb⟩
    rw [decide_eq_false c2]
    have P30 := Lib.hid (P29.out.below hb)
    clear hb
    clear x0 x1 x2 x3 x4 x5 x6 x7 x8 x9
    obtain ⟨⟨x0, x1, x2, x3, x4⟩, x5, x6, x7, x8, x9⟩ := P30.out.d.ten
    simp only at x0 x1 x2 x3 x4 x5 x6 x7 x8 x9
    go_wp2_with fail
    go_ret
    rw [HE.out]
    exact ⟨rfl, P30.out.bl⟩
  by_cases c8 : 1 ≤ m8
  rotate_left
  · have HX := Lib.hid c8
    have HE := Lib.hid (show decide (rightM (Hel.mk 2 m1 m2 m3 m4 m5 m6 m7 m8 m9)) = false from decide_eq_false fun h => by have := h.2; simp [ownM, c8] at this)
    go_wp2_with fail
    refine (number14_any _ _).mono ?_
    rintro e w31 ⟨rfl, hb⟩
    rw [decide_eq_true c1]
    have P31 := Lib.hid (P4.out.below hb)
    clear hb
    clear x0 x1 x2 x3 x4 x5 x6 x7 x8 x9
    obtain ⟨⟨x0, x1, x2, x3, x4⟩, x5, x6, x7, x8, x9⟩ := P31.out.d.ten
    simp only at x0 x1 x2 x3 x4 x5 x6 x7 x8 x9
    go_wp2_with fail
    refine (number14_any _ _).mono ?_
    rintro e w32 ⟨rfl, hb⟩
    rw [decide_eq_true c2]
    have P32 := Lib.hid (P31.out.below hb)
    clear hb
    clear x0 x1 x2 x3 x4 x5 x6 x7 x8 x9
    obtain ⟨⟨x0, x1, x2, x3, x4⟩, x5, x6, x7, x8, x9⟩ := P32.out.d.ten
    simp only at x0 x1 x2 x3 x4 x5 x6 x7 x8 x9
    go_wp2_with fail
    go_ret
    rw [HE.out]
    exact ⟨rfl, P32.out.bl⟩
  by_cases d8 : m8 ≤ 4294967295
  rotate_left
  · have HX := Lib.hid d8
    have HE := Lib.hid (show decide (rightM (Hel.mk 2 m1 m2 m3 m4 m5 m6 m7 m8 m9)) = false from decide_eq_false fun h => by have := h.2; simp [ownM, d8] at this)
    go_wp2_with fail
    refine (number14_any _ _).mono ?_
    rintro e w33 ⟨rfl, hb⟩
    rw [decide_eq_true c1]
    have P33 := Lib.hid (P4.out.below hb)
    clear hb
    clear x0 x1 x2 x3 x4 x5 x6 x7 x8 x9
    obtain ⟨⟨x0, x1, x2, x3, x4⟩, x5, x6, x7, x8, x9⟩ := P33.out.d.ten
    simp only at x0 x1 x2 x3 x4 x5 x6 x7 x8 x9
    go_wp2_with fail
    refine (number14_any _ _).mono ?_
    rintro e w34 ⟨rfl, hb⟩
    rw [decide_eq_true c2]
    have P34 := Lib.hid (P33.out.below hb)
    clear hb
    clear x0 x1 x2 x3 x4 x5 x6 x7 x8 x9
    obtain ⟨⟨x0, x1, x2, x3, x4⟩, x5, x6, x7, x8, x9⟩ := P34.out.d.ten
    simp only at x0 x1 x2 x3 x4 x5 x6 x7 x8 x9
    go_wp2_with fail
    go_ret
    rw [HE.out]
    first | exact ⟨rfl, P34.out.bl⟩ | exact ⟨(show Ending.returned (.bool (decide (m8 ≤ 4294967295))) = Ending.returned (.bool false) from by rw [show decide (m8 ≤ 4294967295) = false from decide_eq_false (by omega)]), P34.out.bl⟩ | exact ⟨(show Ending.returned (.bool (decide (m8 < 4294967296))) = Ending.returned (.bool false) from by rw [show decide (m8 < 4294967296) = false from decide_eq_false (by omega)]), P34.out.bl⟩
  have HE := Lib.hid (show decide (rightM (Hel.mk 2 m1 m2 m3 m4 m5 m6 m7 m8 m9)) = true from decide_eq_true ⟨HRest.out, by simp [ownM, c1, c2, c8, d8]⟩)
  go_wp2_with fail
  refine (number14_any _ _).mono ?_
  rintro e w35 ⟨rfl, hb⟩
  rw [decide_eq_true c1]
  have P35 := Lib.hid (P4.out.below hb)
  clear hb
  clear x0 x1 x2 x3 x4 x5 x6 x7 x8 x9
  obtain ⟨⟨x0, x1, x2, x3, x4⟩, x5, x6, x7, x8, x9⟩ := P35.out.d.ten
  simp only at x0 x1 x2 x3 x4 x5 x6 x7 x8 x9
  go_wp2_with fail
  refine (number14_any _ _).mono ?_
  rintro e w36 ⟨rfl, hb⟩
  rw [decide_eq_true c2]
  have P36 := Lib.hid (P35.out.below hb)
  clear hb
  clear x0 x1 x2 x3 x4 x5 x6 x7 x8 x9
  obtain ⟨⟨x0, x1, x2, x3, x4⟩, x5, x6, x7, x8, x9⟩ := P36.out.d.ten
  simp only at x0 x1 x2 x3 x4 x5 x6 x7 x8 x9
  go_wp2_with fail
  go_ret
  rw [HE.out]
  first | exact ⟨rfl, P36.out.bl⟩ | exact ⟨(show Ending.returned (.bool (decide (m8 ≤ 4294967295))) = Ending.returned (.bool true) from by rw [show decide (m8 ≤ 4294967295) = true from decide_eq_true (by omega)]), P36.out.bl⟩ | exact ⟨(show Ending.returned (.bool (decide (m8 < 4294967296))) = Ending.returned (.bool true) from by rw [show decide (m8 < 4294967296) = true from decide_eq_true (by omega)]), P36.out.bl⟩
set_option maxHeartbeats 6400000 in
set_option maxRecDepth 100000 in
theorem right14_k4 (m0 m1 m2 m3 m4 : Int) (m5 : Bool) (m6 : List Int) (m7 : ByteArray) (m8 m9 : Int) (s : HelS) (w : World) (h : Rds w.heap.size w .u8 s.A m6.length s.c m6) (hy : Byt m6) (h0 : m0 = 4) :
    Calls Tryd.prog 28 #[.agg (helCs ⟨m0, m1, m2, m3, m4, m5, m6, m7, m8, m9⟩ s)] w fun e w' => e = .returned (.bool (decide (rightM ⟨m0, m1, m2, m3, m4, m5, m6, m7, m8, m9⟩))) ∧ Below w.heap.size w w' := by
  subst h0
  have HY := Lib.hid hy
  obtain ⟨W, hW⟩ : ∃ W, W = w.alloc (.cells (helCs ⟨4, m1, m2, m3, m4, m5, m6, m7, m8, m9⟩ s) 48) := ⟨_, rfl⟩
  have hbw : Below w.heap.size w W := by rw [hW]; exact below_new _
  have P0 : Hid (BW14 w w.heap.size ⟨4, m1, m2, m3, m4, m5, m6, m7, m8, m9⟩ s W) := ⟨hbw, by rw [hW]; exact heap_alloc_new w _, Rds.below h hbw⟩
  clear hbw h hy
  obtain ⟨O, hO⟩ : ∃ O, O = onlyM (Hel.mk 4 m1 m2 m3 m4 m5 m6 m7 m8 m9) := ⟨_, rfl⟩
  obtain ⟨SO, hSO⟩ : ∃ SO, SO = onlyS (Hel.mk 4 m1 m2 m3 m4 m5 m6 m7 m8 m9) s := ⟨_, rfl⟩
  have key := only_any (Hel.mk 4 m1 m2 m3 m4 m5 m6 m7 m8 m9) s W
  rw [← hO, ← hSO] at key
  have HO := Lib.hid hO
  clear hO hSO
  unfold helCs at hW key ⊢
  simp only at hW key ⊢
  obtain ⟨⟨x0, x1, x2, x3, x4⟩, x5, x6, x7, x8, x9⟩ := P0.out.d.ten
  simp only at x0 x1 x2 x3 x4 x5 x6 x7 x8 x9
  go_enter Tryd.func28, Tryd.ntmps28
  subst hW
  go_wp2_with fail
  refine key.mono ?_
  clear key
  rintro e w1 ⟨rfl, hb⟩
  have P1 := Lib.hid (P0.out.below hb)
  obtain ⟨W3, hW3⟩ : ∃ W3, W3 = w1.alloc (.cells (helCs O SO) 48) := ⟨_, rfl⟩
  have hb3 : Below w1.heap.size w1 W3 := by rw [hW3]; exact below_new _
  have P3 := Lib.hid (P1.out.below hb3)
  have O3 : Hid (HelB W3 w1.heap.size O SO) := by show _ = _; rw [hW3]; exact heap_alloc_new w1 _
  have key := hsame_any O (Hel.mk 4 m1 m2 m3 m4 m5 m6 m7 m8 m9) SO s W3
  unfold helCs at hW3 key
  simp only at key
  clear hb hb3 x0 x1 x2 x3 x4 x5 x6 x7 x8 x9
  obtain ⟨⟨x0, x1, x2, x3, x4⟩, x5, x6, x7, x8, x9⟩ := P3.out.d.ten
  simp only at x0 x1 x2 x3 x4 x5 x6 x7 x8 x9
  obtain ⟨⟨y0, y1, y2, y3, y4⟩, y5, y6, y7, y8, y9⟩ := O3.out.ten
  subst hW3
  go_wp2_with fail
  refine key.mono ?_
  clear key
  rintro e w4 ⟨rfl, hb⟩
  have P4 := Lib.hid (P3.out.below hb)
  have O4 := Lib.hid (O3.out.later hb (lt_of_get O3.out))
  clear hb x0 x1 x2 x3 x4 x5 x6 x7 x8 x9 y0 y1 y2 y3 y4 y5 y6 y7 y8 y9
  obtain ⟨⟨x0, x1, x2, x3, x4⟩, x5, x6, x7, x8, x9⟩ := P4.out.d.ten
  simp only at x0 x1 x2 x3 x4 x5 x6 x7 x8 x9
  obtain ⟨⟨y0, y1, y2, y3, y4⟩, y5, y6, y7, y8, y9⟩ := O4.out.ten
  by_cases hsm : sameM O (Hel.mk 4 m1 m2 m3 m4 m5 m6 m7 m8 m9)
  rotate_left
  · have HE := Lib.hid (show decide (rightM (Hel.mk 4 m1 m2 m3 m4 m5 m6 m7 m8 m9)) = false from decide_eq_false fun h => hsm (by rw [HO.out]; exact h.1.1))
    rw [decide_eq_false hsm]
    clear hsm
    go_wp2_with fail
    go_ret
    rw [HE.out]
    exact ⟨rfl, P4.out.bl⟩
  rw [decide_eq_true hsm]
  have HSM := Lib.hid hsm
  clear hsm
  by_cases hln : O.params.length = m6.length
  rotate_left
  · have HE := Lib.hid (show decide (rightM (Hel.mk 4 m1 m2 m3 m4 m5 m6 m7 m8 m9)) = false from decide_eq_false fun h => hln (by rw [HO.out]; exact h.1.2))
    have hli : ((O.params.length : Int) != (m6.length : Int)) = true := by simp; omega
    clear hln
    go_wp2_with fail
    go_ret
    rw [HE.out]
    exact ⟨rfl, P4.out.bl⟩
  have HRest : Hid (restM (Hel.mk 4 m1 m2 m3 m4 m5 m6 m7 m8 m9)) := ⟨by rw [← HO.out]; exact HSM.out, by rw [← HO.out]; exact hln⟩
  have hli : ((O.params.length : Int) != (m6.length : Int)) = false := by simp [hln]
  clear hln
  by_cases c3 : termOk m3
  rotate_left
  · have HX := Lib.hid c3
    have HE := Lib.hid (show decide (rightM (Hel.mk 4 m1 m2 m3 m4 m5 m6 m7 m8 m9)) = false from decide_eq_false fun h => by have := h.2; simp [ownM, c3] at this)
    go_wp2_with fail
    refine (number14_any _ _).mono ?_
    rintro e w37 ⟨rfl, hb⟩
    rw [decide_eq_false c3]
    have P37 := Lib.hid (P4.out.below hb)
    clear hb
    clear x0 x1 x2 x3 x4 x5 x6 x7 x8 x9
    obtain ⟨⟨x0, x1, x2, x3, x4⟩, x5, x6, x7, x8, x9⟩ := P37.out.d.ten
    simp only at x0 x1 x2 x3 x4 x5 x6 x7 x8 x9
    go_wp2_with fail
    go_ret
    rw [HE.out]
    exact ⟨rfl, P37.out.bl⟩
  by_cases c9 : sizeV m9 = 0
  · have HX := Lib.hid c9
    have HE := Lib.hid (show decide (rightM (Hel.mk 4 m1 m2 m3 m4 m5 m6 m7 m8 m9)) = false from decide_eq_false fun h => by have := h.2; simp [ownM, c9] at this)
    go_wp2_with fail
    refine (number14_any _ _).mono ?_
    rintro e w38 ⟨rfl, hb⟩
    rw [decide_eq_true c3]
    have P38 := Lib.hid (P4.out.below hb)
    clear hb
    clear x0 x1 x2 x3 x4 x5 x6 x7 x8 x9
    obtain ⟨⟨x0, x1, x2, x3, x4⟩, x5, x6, x7, x8, x9⟩ := P38.out.d.ten
    simp only at x0 x1 x2 x3 x4 x5 x6 x7 x8 x9
    go_wp2_with fail
    refine (vsize_any _ _).mono ?_
    rintro e v38 ⟨rfl, hw⟩
    have hw := hw.symm
    subst hw
    rw [c9]
    go_wp2_with fail
    go_ret
    rw [HE.out]
    exact ⟨rfl, P38.out.bl⟩
  · have HX := Lib.hid c9
    have HE := Lib.hid (show decide (rightM (Hel.mk 4 m1 m2 m3 m4 m5 m6 m7 m8 m9)) = true from decide_eq_true ⟨HRest.out, by simp [ownM, c3, c9]⟩)
    have hs9 : ((sizeV m9 : Nat) : Int) > 0 := by omega
    go_wp2_with fail
    refine (number14_any _ _).mono ?_
    rintro e w39 ⟨rfl, hb⟩
    rw [decide_eq_true c3]
    have P39 := Lib.hid (P4.out.below hb)
    clear hb
    clear x0 x1 x2 x3 x4 x5 x6 x7 x8 x9
    obtain ⟨⟨x0, x1, x2, x3, x4⟩, x5, x6, x7, x8, x9⟩ := P39.out.d.ten
    simp only at x0 x1 x2 x3 x4 x5 x6 x7 x8 x9
    go_wp2_with fail
    refine (vsize_any _ _).mono ?_
    rintro e v39 ⟨rfl, hw⟩
    have hw := hw.symm
    subst hw
    go_wp2_with fail
    go_ret
    rw [HE.out]
    first | exact ⟨rfl, P39.out.bl⟩ | exact ⟨(show Ending.returned (.bool (decide (0 < sizeV m9))) = Ending.returned (.bool true) from by rw [show decide (0 < sizeV m9) = true from decide_eq_true (by omega)]), P39.out.bl⟩ | exact ⟨(show Ending.returned (.bool (decide ((0 : Int) < ((sizeV m9 : Nat) : Int)))) = Ending.returned (.bool true) from by rw [show decide ((0 : Int) < ((sizeV m9 : Nat) : Int)) = true from decide_eq_true (by omega)]), P39.out.bl⟩ | exact ⟨(show Ending.returned (.bool (decide (((sizeV m9 : Nat) : Int) > 0))) = Ending.returned (.bool true) from by rw [show decide (((sizeV m9 : Nat) : Int) > 0) = true from decide_eq_true (by omega)]), P39.out.bl⟩
set_option maxHeartbeats 6400000 in
set_option maxRecDepth 100000 in
theorem right14_k8 (m0 m1 m2 m3 m4 : Int) (m5 : Bool) (m6 : List Int) (m7 : ByteArray) (m8 m9 : Int) (s : HelS) (w : World) (h : Rds w.heap.size w .u8 s.A m6.length s.c m6) (hy : Byt m6) (h0 : m0 = 8) :
    Calls Tryd.prog 28 #[.agg (helCs ⟨m0, m1, m2, m3, m4, m5, m6, m7, m8, m9⟩ s)] w fun e w' => e = .returned (.bool (decide (rightM ⟨m0, m1, m2, m3, m4, m5, m6, m7, m8, m9⟩))) ∧ Below w.heap.size w w' := by
  subst h0
  have HY := Lib.hid hy
  obtain ⟨W, hW⟩ : ∃ W, W = w.alloc (.cells (helCs ⟨8, m1, m2, m3, m4, m5, m6, m7, m8, m9⟩ s) 48) := ⟨_, rfl⟩
  have hbw : Below w.heap.size w W := by rw [hW]; exact below_new _
  have P0 : Hid (BW14 w w.heap.size ⟨8, m1, m2, m3, m4, m5, m6, m7, m8, m9⟩ s W) := ⟨hbw, by rw [hW]; exact heap_alloc_new w _, Rds.below h hbw⟩
  clear hbw h hy
  obtain ⟨O, hO⟩ : ∃ O, O = onlyM (Hel.mk 8 m1 m2 m3 m4 m5 m6 m7 m8 m9) := ⟨_, rfl⟩
  obtain ⟨SO, hSO⟩ : ∃ SO, SO = onlyS (Hel.mk 8 m1 m2 m3 m4 m5 m6 m7 m8 m9) s := ⟨_, rfl⟩
  have key := only_any (Hel.mk 8 m1 m2 m3 m4 m5 m6 m7 m8 m9) s W
  rw [← hO, ← hSO] at key
  have HO := Lib.hid hO
  clear hO hSO
  unfold helCs at hW key ⊢
  simp only at hW key ⊢
  obtain ⟨⟨x0, x1, x2, x3, x4⟩, x5, x6, x7, x8, x9⟩ := P0.out.d.ten
  simp only at x0 x1 x2 x3 x4 x5 x6 x7 x8 x9
  go_enter Tryd.func28, Tryd.ntmps28
  subst hW
  go_wp2_with fail
  refine key.mono ?_
  clear key
  rintro e w1 ⟨rfl, hb⟩
  have P1 := Lib.hid (P0.out.below hb)
  obtain ⟨W3, hW3⟩ : ∃ W3, W3 = w1.alloc (.cells (helCs O SO) 48) := ⟨_, rfl⟩
  have hb3 : Below w1.heap.size w1 W3 := by rw [hW3]; exact below_new _
  have P3 := Lib.hid (P1.out.below hb3)
  have O3 : Hid (HelB W3 w1.heap.size O SO) := by show _ = _; rw [hW3]; exact heap_alloc_new w1 _
  have key := hsame_any O (Hel.mk 8 m1 m2 m3 m4 m5 m6 m7 m8 m9) SO s W3
  unfold helCs at hW3 key
  simp only at key
  clear hb hb3 x0 x1 x2 x3 x4 x5 x6 x7 x8 x9
  obtain ⟨⟨x0, x1, x2, x3, x4⟩, x5, x6, x7, x8, x9⟩ := P3.out.d.ten
  simp only at x0 x1 x2 x3 x4 x5 x6 x7 x8 x9
  obtain ⟨⟨y0, y1, y2, y3, y4⟩, y5, y6, y7, y8, y9⟩ := O3.out.ten
  subst hW3
  go_wp2_with fail
  refine key.mono ?_
  clear key
  rintro e w4 ⟨rfl, hb⟩
  have P4 := Lib.hid (P3.out.below hb)
  have O4 := Lib.hid (O3.out.later hb (lt_of_get O3.out))
  clear hb x0 x1 x2 x3 x4 x5 x6 x7 x8 x9 y0 y1 y2 y3 y4 y5 y6 y7 y8 y9
  obtain ⟨⟨x0, x1, x2, x3, x4⟩, x5, x6, x7, x8, x9⟩ := P4.out.d.ten
  simp only at x0 x1 x2 x3 x4 x5 x6 x7 x8 x9
  obtain ⟨⟨y0, y1, y2, y3, y4⟩, y5, y6, y7, y8, y9⟩ := O4.out.ten
  by_cases hsm : sameM O (Hel.mk 8 m1 m2 m3 m4 m5 m6 m7 m8 m9)
  rotate_left
  · have HE := Lib.hid (show decide (rightM (Hel.mk 8 m1 m2 m3 m4 m5 m6 m7 m8 m9)) = false from decide_eq_false fun h => hsm (by rw [HO.out]; exact h.1.1))
    rw [decide_eq_false hsm]
    clear hsm
    go_wp2_with fail
    go_ret
    rw [HE.out]
    exact ⟨rfl, P4.out.bl⟩
  rw [decide_eq_true hsm]
  have HSM := Lib.hid hsm
  clear hsm
  by_cases hln : O.params.length = m6.length
  rotate_left
  · have HE := Lib.hid (show decide (rightM (Hel.mk 8 m1 m2 m3 m4 m5 m6 m7 m8 m9)) = false from decide_eq_false fun h => hln (by rw [HO.out]; exact h.1.2))
    have hli : ((O.params.length : Int) != (m6.length : Int)) = true := by simp; omega
    clear hln
    go_wp2_with fail
    go_ret
    rw [HE.out]
    exact ⟨rfl, P4.out.bl⟩
  have HRest : Hid (restM (Hel.mk 8 m1 m2 m3 m4 m5 m6 m7 m8 m9)) := ⟨by rw [← HO.out]; exact HSM.out, by rw [← HO.out]; exact hln⟩
  have hli : ((O.params.length : Int) != (m6.length : Int)) = false := by simp [hln]
  clear hln
  by_cases c6 : paramsOk m6
  rotate_left
  · have HX := Lib.hid c6
    have HE := Lib.hid (show decide (rightM (Hel.mk 8 m1 m2 m3 m4 m5 m6 m7 m8 m9)) = false from decide_eq_false fun h => by have := h.2; simp [ownM, c6] at this)
    go_wp2_with fail
    refine (told14_any _ (P4.out.h.mono P4.out.bl.size) HY.out).mono ?_
    rintro e w40 ⟨rfl, hb⟩
    rw [decide_eq_false c6]
    have P40 := Lib.hid (P4.out.below hb)
    clear hb
    clear x0 x1 x2 x3 x4 x5 x6 x7 x8 x9
    obtain ⟨⟨x0, x1, x2, x3, x4⟩, x5, x6, x7, x8, x9⟩ := P40.out.d.ten
    simp only at x0 x1 x2 x3 x4 x5 x6 x7 x8 x9
    go_wp2_with fail
    go_ret
    rw [HE.out]
    exact ⟨rfl, P40.out.bl⟩
  have HE := Lib.hid (show decide (rightM (Hel.mk 8 m1 m2 m3 m4 m5 m6 m7 m8 m9)) = true from decide_eq_true ⟨HRest.out, by simp [ownM, c6]⟩)
  go_wp2_with fail
  refine (told14_any _ (P4.out.h.mono P4.out.bl.size) HY.out).mono ?_
  rintro e w41 ⟨rfl, hb⟩
  rw [decide_eq_true c6]
  have P41 := Lib.hid (P4.out.below hb)
  clear hb
  clear x0 x1 x2 x3 x4 x5 x6 x7 x8 x9
  obtain ⟨⟨x0, x1, x2, x3, x4⟩, x5, x6, x7, x8, x9⟩ := P41.out.d.ten
  simp only at x0 x1 x2 x3 x4 x5 x6 x7 x8 x9
  go_wp2_with fail
  go_ret
  rw [HE.out]
  exact ⟨rfl, P41.out.bl⟩
set_option maxHeartbeats 6400000 in
set_option maxRecDepth 100000 in
theorem right14_k11 (m0 m1 m2 m3 m4 : Int) (m5 : Bool) (m6 : List Int) (m7 : ByteArray) (m8 m9 : Int) (s : HelS) (w : World) (h : Rds w.heap.size w .u8 s.A m6.length s.c m6) (hy : Byt m6) (h0 : m0 = 11) :
    Calls Tryd.prog 28 #[.agg (helCs ⟨m0, m1, m2, m3, m4, m5, m6, m7, m8, m9⟩ s)] w fun e w' => e = .returned (.bool (decide (rightM ⟨m0, m1, m2, m3, m4, m5, m6, m7, m8, m9⟩))) ∧ Below w.heap.size w w' := by
  subst h0
  have HY := Lib.hid hy
  obtain ⟨W, hW⟩ : ∃ W, W = w.alloc (.cells (helCs ⟨11, m1, m2, m3, m4, m5, m6, m7, m8, m9⟩ s) 48) := ⟨_, rfl⟩
  have hbw : Below w.heap.size w W := by rw [hW]; exact below_new _
  have P0 : Hid (BW14 w w.heap.size ⟨11, m1, m2, m3, m4, m5, m6, m7, m8, m9⟩ s W) := ⟨hbw, by rw [hW]; exact heap_alloc_new w _, Rds.below h hbw⟩
  clear hbw h hy
  obtain ⟨O, hO⟩ : ∃ O, O = onlyM (Hel.mk 11 m1 m2 m3 m4 m5 m6 m7 m8 m9) := ⟨_, rfl⟩
  obtain ⟨SO, hSO⟩ : ∃ SO, SO = onlyS (Hel.mk 11 m1 m2 m3 m4 m5 m6 m7 m8 m9) s := ⟨_, rfl⟩
  have key := only_any (Hel.mk 11 m1 m2 m3 m4 m5 m6 m7 m8 m9) s W
  rw [← hO, ← hSO] at key
  have HO := Lib.hid hO
  clear hO hSO
  unfold helCs at hW key ⊢
  simp only at hW key ⊢
  obtain ⟨⟨x0, x1, x2, x3, x4⟩, x5, x6, x7, x8, x9⟩ := P0.out.d.ten
  simp only at x0 x1 x2 x3 x4 x5 x6 x7 x8 x9
  go_enter Tryd.func28, Tryd.ntmps28
  subst hW
  go_wp2_with fail
  refine key.mono ?_
  clear key
  rintro e w1 ⟨rfl, hb⟩
  have P1 := Lib.hid (P0.out.below hb)
  obtain ⟨W3, hW3⟩ : ∃ W3, W3 = w1.alloc (.cells (helCs O SO) 48) := ⟨_, rfl⟩
  have hb3 : Below w1.heap.size w1 W3 := by rw [hW3]; exact below_new _
  have P3 := Lib.hid (P1.out.below hb3)
  have O3 : Hid (HelB W3 w1.heap.size O SO) := by show _ = _; rw [hW3]; exact heap_alloc_new w1 _
  have key := hsame_any O (Hel.mk 11 m1 m2 m3 m4 m5 m6 m7 m8 m9) SO s W3
  unfold helCs at hW3 key
  simp only at key
  clear hb hb3 x0 x1 x2 x3 x4 x5 x6 x7 x8 x9
  obtain ⟨⟨x0, x1, x2, x3, x4⟩, x5, x6, x7, x8, x9⟩ := P3.out.d.ten
  simp only at x0 x1 x2 x3 x4 x5 x6 x7 x8 x9
  obtain ⟨⟨y0, y1, y2, y3, y4⟩, y5, y6, y7, y8, y9⟩ := O3.out.ten
  subst hW3
  go_wp2_with fail
  refine key.mono ?_
  clear key
  rintro e w4 ⟨rfl, hb⟩
  have P4 := Lib.hid (P3.out.below hb)
  have O4 := Lib.hid (O3.out.later hb (lt_of_get O3.out))
  clear hb x0 x1 x2 x3 x4 x5 x6 x7 x8 x9 y0 y1 y2 y3 y4 y5 y6 y7 y8 y9
  obtain ⟨⟨x0, x1, x2, x3, x4⟩, x5, x6, x7, x8, x9⟩ := P4.out.d.ten
  simp only at x0 x1 x2 x3 x4 x5 x6 x7 x8 x9
  obtain ⟨⟨y0, y1, y2, y3, y4⟩, y5, y6, y7, y8, y9⟩ := O4.out.ten
  by_cases hsm : sameM O (Hel.mk 11 m1 m2 m3 m4 m5 m6 m7 m8 m9)
  rotate_left
  · have HE := Lib.hid (show decide (rightM (Hel.mk 11 m1 m2 m3 m4 m5 m6 m7 m8 m9)) = false from decide_eq_false fun h => hsm (by rw [HO.out]; exact h.1.1))
    rw [decide_eq_false hsm]
    clear hsm
    go_wp2_with fail
    go_ret
    rw [HE.out]
    exact ⟨rfl, P4.out.bl⟩
  rw [decide_eq_true hsm]
  have HSM := Lib.hid hsm
  clear hsm
  by_cases hln : O.params.length = m6.length
  rotate_left
  · have HE := Lib.hid (show decide (rightM (Hel.mk 11 m1 m2 m3 m4 m5 m6 m7 m8 m9)) = false from decide_eq_false fun h => hln (by rw [HO.out]; exact h.1.2))
    have hli : ((O.params.length : Int) != (m6.length : Int)) = true := by simp; omega
    clear hln
    go_wp2_with fail
    go_ret
    rw [HE.out]
    exact ⟨rfl, P4.out.bl⟩
  have HRest : Hid (restM (Hel.mk 11 m1 m2 m3 m4 m5 m6 m7 m8 m9)) := ⟨by rw [← HO.out]; exact HSM.out, by rw [← HO.out]; exact hln⟩
  have hli : ((O.params.length : Int) != (m6.length : Int)) = false := by simp [hln]
  clear hln
  by_cases c7 : 1 ≤ m7.size
  rotate_left
  · have c7i : ¬ ((m7.size : Int) ≥ 1) := by omega
    have c7j : ¬ ((m7.size : Int) > 0) := by omega
    have HE := Lib.hid (show decide (rightM (Hel.mk 11 m1 m2 m3 m4 m5 m6 m7 m8 m9)) = false from decide_eq_false fun h => by have := h.2; simp [ownM, c7] at this)
    go_wp2_with fail
    go_ret
    rw [HE.out]
    exact ⟨rfl, P4.out.bl⟩
  have c7i : (m7.size : Int) ≥ 1 := by omega
  have c7j : (m7.size : Int) > 0 := by omega
  by_cases d7 : m7.size ≤ 50
  rotate_left
  · have d7i : ¬ ((m7.size : Int) ≤ 50) := by omega
    have HE := Lib.hid (show decide (rightM (Hel.mk 11 m1 m2 m3 m4 m5 m6 m7 m8 m9)) = false from decide_eq_false fun h => by have := h.2; simp [ownM, c7, d7] at this)
    go_wp2_with fail
    go_ret
    rw [HE.out]
    first | exact ⟨rfl, P4.out.bl⟩ | exact ⟨(show Ending.returned (.bool (decide ((m7.size : Int) ≤ 50))) = Ending.returned (.bool false) from by rw [show decide ((m7.size : Int) ≤ 50) = false from decide_eq_false (by omega)]), P4.out.bl⟩ | exact ⟨(show Ending.returned (.bool (decide (m7.size ≤ 50))) = Ending.returned (.bool false) from by rw [show decide (m7.size ≤ 50) = false from decide_eq_false (by omega)]), P4.out.bl⟩
  have d7i : (m7.size : Int) ≤ 50 := by omega
  have HE := Lib.hid (show decide (rightM (Hel.mk 11 m1 m2 m3 m4 m5 m6 m7 m8 m9)) = true from decide_eq_true ⟨HRest.out, by simp [ownM, c7, d7]⟩)
  go_wp2_with fail
  go_ret
  rw [HE.out]
  first | exact ⟨rfl, P4.out.bl⟩ | exact ⟨(show Ending.returned (.bool (decide ((m7.size : Int) ≤ 50))) = Ending.returned (.bool true) from by rw [show decide ((m7.size : Int) ≤ 50) = true from decide_eq_true (by omega)]), P4.out.bl⟩ | exact ⟨(show Ending.returned (.bool (decide (m7.size ≤ 50))) = Ending.returned (.bool true) from by rw [show decide (m7.size ≤ 50) = true from decide_eq_true (by omega)]), P4.out.bl⟩
set_option maxHeartbeats 6400000 in
set_option maxRecDepth 100000 in
theorem right14_k15 (m0 m1 m2 m3 m4 : Int) (m5 : Bool) (m6 : List Int) (m7 : ByteArray) (m8 m9 : Int) (s : HelS) (w : World) (h : Rds w.heap.size w .u8 s.A m6.length s.c m6) (hy : Byt m6) (h0 : m0 = 15) :
    Calls Tryd.prog 28 #[.agg (helCs ⟨m0, m1, m2, m3, m4, m5, m6, m7, m8, m9⟩ s)] w fun e w' => e = .returned (.bool (decide (rightM ⟨m0, m1, m2, m3, m4, m5, m6, m7, m8, m9⟩))) ∧ Below w.heap.size w w' := by
  subst h0
  have HY := Lib.hid hy
  obtain ⟨W, hW⟩ : ∃ W, W = w.alloc (.cells (helCs ⟨15, m1, m2, m3, m4, m5, m6, m7, m8, m9⟩ s) 48) := ⟨_, rfl⟩
  have hbw : Below w.heap.size w W := by rw [hW]; exact below_new _
  have P0 : Hid (BW14 w w.heap.size ⟨15, m1, m2, m3, m4, m5, m6, m7, m8, m9⟩ s W) := ⟨hbw, by rw [hW]; exact heap_alloc_new w _, Rds.below h hbw⟩
  clear hbw h hy
  obtain ⟨O, hO⟩ : ∃ O, O = onlyM (Hel.mk 15 m1 m2 m3 m4 m5 m6 m7 m8 m9) := ⟨_, rfl⟩
  obtain ⟨SO, hSO⟩ : ∃ SO, SO = onlyS (Hel.mk 15 m1 m2 m3 m4 m5 m6 m7 m8 m9) s := ⟨_, rfl⟩
  have key := only_any (Hel.mk 15 m1 m2 m3 m4 m5 m6 m7 m8 m9) s W
  rw [← hO, ← hSO] at key
  have HO := Lib.hid hO
  clear hO hSO
  unfold helCs at hW key ⊢
  simp only at hW key ⊢
  obtain ⟨⟨x0, x1, x2, x3, x4⟩, x5, x6, x7, x8, x9⟩ := P0.out.d.ten
  simp only at x0 x1 x2 x3 x4 x5 x6 x7 x8 x9
  go_enter Tryd.func28, Tryd.ntmps28
  subst hW
  go_wp2_with fail
  refine key.mono ?_
  clear key
  rintro e w1 ⟨rfl, hb⟩
  have P1 := Lib.hid (P0.out.below hb)
  obtain ⟨W3, hW3⟩ : ∃ W3, W3 = w1.alloc (.cells (helCs O SO) 48) := ⟨_, rfl⟩
  have hb3 : Below w1.heap.size w1 W3 := by rw [hW3]; exact below_new _
  have P3 := Lib.hid (P1.out.below hb3)
  have O3 : Hid (HelB W3 w1.heap.size O SO) := by show _ = _; rw [hW3]; exact heap_alloc_new w1 _
  have key := hsame_any O (Hel.mk 15 m1 m2 m3 m4 m5 m6 m7 m8 m9) SO s W3
  unfold helCs at hW3 key
  simp only at key
  clear hb hb3 x0 x1 x2 x3 x4 x5 x6 x7 x8 x9
  obtain ⟨⟨x0, x1, x2, x3, x4⟩, x5, x6, x7, x8, x9⟩ := P3.out.d.ten
  simp only at x0 x1 x2 x3 x4 x5 x6 x7 x8 x9
  obtain ⟨⟨y0, y1, y2, y3, y4⟩, y5, y6, y7, y8, y9⟩ := O3.out.ten
  subst hW3
  go_wp2_with fail
  refine key.mono ?_
  clear key
  rintro e w4 ⟨rfl, hb⟩
  have P4 := Lib.hid (P3.out.below hb)
  have O4 := Lib.hid (O3.out.later hb (lt_of_get O3.out))
  clear hb x0 x1 x2 x3 x4 x5 x6 x7 x8 x9 y0 y1 y2 y3 y4 y5 y6 y7 y8 y9
  obtain ⟨⟨x0, x1, x2, x3, x4⟩, x5, x6, x7, x8, x9⟩ := P4.out.d.ten
  simp only at x0 x1 x2 x3 x4 x5 x6 x7 x8 x9
  obtain ⟨⟨y0, y1, y2, y3, y4⟩, y5, y6, y7, y8, y9⟩ := O4.out.ten
  by_cases hsm : sameM O (Hel.mk 15 m1 m2 m3 m4 m5 m6 m7 m8 m9)
  rotate_left
  · have HE := Lib.hid (show decide (rightM (Hel.mk 15 m1 m2 m3 m4 m5 m6 m7 m8 m9)) = false from decide_eq_false fun h => hsm (by rw [HO.out]; exact h.1.1))
    rw [decide_eq_false hsm]
    clear hsm
    go_wp2_with fail
    go_ret
    rw [HE.out]
    exact ⟨rfl, P4.out.bl⟩
  rw [decide_eq_true hsm]
  have HSM := Lib.hid hsm
  clear hsm
  by_cases hln : O.params.length = m6.length
  rotate_left
  · have HE := Lib.hid (show decide (rightM (Hel.mk 15 m1 m2 m3 m4 m5 m6 m7 m8 m9)) = false from decide_eq_false fun h => hln (by rw [HO.out]; exact h.1.2))
    have hli : ((O.params.length : Int) != (m6.length : Int)) = true := by simp; omega
    clear hln
    go_wp2_with fail
    go_ret
    rw [HE.out]
    exact ⟨rfl, P4.out.bl⟩
  have HRest : Hid (restM (Hel.mk 15 m1 m2 m3 m4 m5 m6 m7 m8 m9)) := ⟨by rw [← HO.out]; exact HSM.out, by rw [← HO.out]; exact hln⟩
  have hli : ((O.params.length : Int) != (m6.length : Int)) = false := by simp [hln]
  clear hln
  by_cases c4 : termOk m4
  rotate_left
  · have HX := Lib.hid c4
    have HE := Lib.hid (show decide (rightM (Hel.mk 15 m1 m2 m3 m4 m5 m6 m7 m8 m9)) = false from decide_eq_false fun h => by have := h.2; simp [ownM, c4] at this)
    go_wp2_with fail
    refine (number14_any _ _).mono ?_
    rintro e w42 ⟨rfl, hb⟩
    rw [decide_eq_false c4]
    have P42 := Lib.hid (P4.out.below hb)
    clear hb
    clear x0 x1 x2 x3 x4 x5 x6 x7 x8 x9
    obtain ⟨⟨x0, x1, x2, x3, x4⟩, x5, x6, x7, x8, x9⟩ := P42.out.d.ten
    simp only at x0 x1 x2 x3 x4 x5 x6 x7 x8 x9
    go_wp2_with fail
    go_ret
    rw [HE.out]
    exact ⟨rfl, P42.out.bl⟩
  have HE := Lib.hid (show decide (rightM (Hel.mk 15 m1 m2 m3 m4 m5 m6 m7 m8 m9)) = true from decide_eq_true ⟨HRest.out, by simp [ownM, c4]⟩)
  go_wp2_with fail
  refine (number14_any _ _).mono ?_
  rintro e w43 ⟨rfl, hb⟩
  rw [decide_eq_true c4]
  have P43 := Lib.hid (P4.out.below hb)
  clear hb
  clear x0 x1 x2 x3 x4 x5 x6 x7 x8 x9
  obtain ⟨⟨x0, x1, x2, x3, x4⟩, x5, x6, x7, x8, x9⟩ := P43.out.d.ten
  simp only at x0 x1 x2 x3 x4 x5 x6 x7 x8 x9
  go_wp2_with fail
  go_ret
  rw [HE.out]
  exact ⟨rfl, P43.out.bl⟩
set_option maxHeartbeats 6400000 in
set_option maxRecDepth 100000 in
theorem right14_k20 (m0 m1 m2 m3 m4 : Int) (m5 : Bool) (m6 : List Int) (m7 : ByteArray) (m8 m9 : Int) (s : HelS) (w : World) (h : Rds w.heap.size w .u8 s.A m6.length s.c m6) (hy : Byt m6) (h0 : m0 = 20) :
    Calls Tryd.prog 28 #[.agg (helCs ⟨m0, m1, m2, m3, m4, m5, m6, m7, m8, m9⟩ s)] w fun e w' => e = .returned (.bool (decide (rightM ⟨m0, m1, m2, m3, m4, m5, m6, m7, m8, m9⟩))) ∧ Below w.heap.size w w' := by
  subst h0
  have HY := Lib.hid hy
  obtain ⟨W, hW⟩ : ∃ W, W = w.alloc (.cells (helCs ⟨20, m1, m2, m3, m4, m5, m6, m7, m8, m9⟩ s) 48) := ⟨_, rfl⟩
  have hbw : Below w.heap.size w W := by rw [hW]; exact below_new _
  have P0 : Hid (BW14 w w.heap.size ⟨20, m1, m2, m3, m4, m5, m6, m7, m8, m9⟩ s W) := ⟨hbw, by rw [hW]; exact heap_alloc_new w _, Rds.below h hbw⟩
  clear hbw h hy
  obtain ⟨O, hO⟩ : ∃ O, O = onlyM (Hel.mk 20 m1 m2 m3 m4 m5 m6 m7 m8 m9) := ⟨_, rfl⟩
  obtain ⟨SO, hSO⟩ : ∃ SO, SO = onlyS (Hel.mk 20 m1 m2 m3 m4 m5 m6 m7 m8 m9) s := ⟨_, rfl⟩
  have key := only_any (Hel.mk 20 m1 m2 m3 m4 m5 m6 m7 m8 m9) s W
  rw [← hO, ← hSO] at key
  have HO := Lib.hid hO
  clear hO hSO
  unfold helCs at hW key ⊢
  simp only at hW key ⊢
  obtain ⟨⟨x0, x1, x2, x3, x4⟩, x5, x6, x7, x8, x9⟩ := P0.out.d.ten
  simp only at x0 x1 x2 x3 x4 x5 x6 x7 x8 x9
  go_enter Tryd.func28, Tryd.ntmps28
  subst hW
  go_wp2_with fail
  refine key.mono ?_
  clear key
  rintro e w1 ⟨rfl, hb⟩
  have P1 := Lib.hid (P0.out.below hb)
  obtain ⟨W3, hW3⟩ : ∃ W3, W3 = w1.alloc (.cells (helCs O SO) 48) := ⟨_, rfl⟩
  have hb3 : Below w1.heap.size w1 W3 := by rw [hW3]; exact below_new _
  have P3 := Lib.hid (P1.out.below hb3)
  have O3 : Hid (HelB W3 w1.heap.size O SO) := by show _ = _; rw [hW3]; exact heap_alloc_new w1 _
  have key := hsame_any O (Hel.mk 20 m1 m2 m3 m4 m5 m6 m7 m8 m9) SO s W3
  unfold helCs at hW3 key
  simp only at key
  clear hb hb3 x0 x1 x2 x3 x4 x5 x6 x7 x8 x9
  obtain ⟨⟨x0, x1, x2, x3, x4⟩, x5, x6, x7, x8, x9⟩ := P3.out.d.ten
  simp only at x0 x1 x2 x3 x4 x5 x6 x7 x8 x9
  obtain ⟨⟨y0, y1, y2, y3, y4⟩, y5, y6, y7, y8, y9⟩ := O3.out.ten
  subst hW3
  go_wp2_with fail
  refine key.mono ?_
  clear key
  rintro e w4 ⟨rfl, hb⟩
  have P4 := Lib.hid (P3.out.below hb)
  have O4 := Lib.hid (O3.out.later hb (lt_of_get O3.out))
  clear hb x0 x1 x2 x3 x4 x5 x6 x7 x8 x9 y0 y1 y2 y3 y4 y5 y6 y7 y8 y9
  obtain ⟨⟨x0, x1, x2, x3, x4⟩, x5, x6, x7, x8, x9⟩ := P4.out.d.ten
  simp only at x0 x1 x2 x3 x4 x5 x6 x7 x8 x9
  obtain ⟨⟨y0, y1, y2, y3, y4⟩, y5, y6, y7, y8, y9⟩ := O4.out.ten
  by_cases hsm : sameM O (Hel.mk 20 m1 m2 m3 m4 m5 m6 m7 m8 m9)
  rotate_left
  · have HE := Lib.hid (show decide (rightM (Hel.mk 20 m1 m2 m3 m4 m5 m6 m7 m8 m9)) = false from decide_eq_false fun h => hsm (by rw [HO.out]; exact h.1.1))
    rw [decide_eq_false hsm]
    clear hsm
    go_wp2_with fail
    go_ret
    rw [HE.out]
    exact ⟨rfl, P4.out.bl⟩
  rw [decide_eq_true hsm]
  have HSM := Lib.hid hsm
  clear hsm
  by_cases hln : O.params.length = m6.length
  rotate_left
  · have HE := Lib.hid (show decide (rightM (Hel.mk 20 m1 m2 m3 m4 m5 m6 m7 m8 m9)) = false from decide_eq_false fun h => hln (by rw [HO.out]; exact h.1.2))
    have hli : ((O.params.length : Int) != (m6.length : Int)) = true := by simp; omega
    clear hln
    go_wp2_with fail
    go_ret
    rw [HE.out]
    exact ⟨rfl, P4.out.bl⟩
  have HRest : Hid (restM (Hel.mk 20 m1 m2 m3 m4 m5 m6 m7 m8 m9)) := ⟨by rw [← HO.out]; exact HSM.out, by rw [← HO.out]; exact hln⟩
  have hli : ((O.params.length : Int) != (m6.length : Int)) = false := by simp [hln]
  clear hln
  by_cases c4 : termOk m4
  rotate_left
  · have HX := Lib.hid c4
    have HE := Lib.hid (show decide (rightM (Hel.mk 20 m1 m2 m3 m4 m5 m6 m7 m8 m9)) = false from decide_eq_false fun h => by have := h.2; simp [ownM, c4] at this)
    go_wp2_with fail
    refine (number14_any _ _).mono ?_
    rintro e w44 ⟨rfl, hb⟩
    rw [decide_eq_false c4]
    have P44 := Lib.hid (P4.out.below hb)
    clear hb
    clear x0 x1 x2 x3 x4 x5 x6 x7 x8 x9
    obtain ⟨⟨x0, x1, x2, x3, x4⟩, x5, x6, x7, x8, x9⟩ := P44.out.d.ten
    simp only at x0 x1 x2 x3 x4 x5 x6 x7 x8 x9
    go_wp2_with fail
    go_ret
    rw [HE.out]
    exact ⟨rfl, P44.out.bl⟩
  have HE := Lib.hid (show decide (rightM (Hel.mk 20 m1 m2 m3 m4 m5 m6 m7 m8 m9)) = true from decide_eq_true ⟨HRest.out, by simp [ownM, c4]⟩)
  go_wp2_with fail
  refine (number14_any _ _).mono ?_
  rintro e w45 ⟨rfl, hb⟩
  rw [decide_eq_true c4]
  have P45 := Lib.hid (P4.out.below hb)
  clear hb
  clear x0 x1 x2 x3 x4 x5 x6 x7 x8 x9
  obtain ⟨⟨x0, x1, x2, x3, x4⟩, x5, x6, x7, x8, x9⟩ := P45.out.d.ten
  simp only at x0 x1 x2 x3 x4 x5 x6 x7 x8 x9
  go_wp2_with fail
  go_ret
  rw [HE.out]
  exact ⟨rfl, P45.out.bl⟩
set_option maxHeartbeats 6400000 in
set_option maxRecDepth 100000 in
theorem right14_ko (m0 m1 m2 m3 m4 : Int) (m5 : Bool) (m6 : List Int) (m7 : ByteArray) (m8 m9 : Int) (s : HelS) (w : World) (h : Rds w.heap.size w .u8 s.A m6.length s.c m6) (hy : Byt m6) (h1 : m0 ≠ 1) (h2 : m0 ≠ 2) (h4 : m0 ≠ 4) (h8 : m0 ≠ 8) (h11 : m0 ≠ 11) (h15 : m0 ≠ 15) (h20 : m0 ≠ 20) :
    Calls Tryd.prog 28 #[.agg (helCs ⟨m0, m1, m2, m3, m4, m5, m6, m7, m8, m9⟩ s)] w fun e w' => e = .returned (.bool (decide (rightM ⟨m0, m1, m2, m3, m4, m5, m6, m7, m8, m9⟩))) ∧ Below w.heap.size w w' := by
  have HY := Lib.hid hy
  obtain ⟨W, hW⟩ : ∃ W, W = w.alloc (.cells (helCs ⟨m0, m1, m2, m3, m4, m5, m6, m7, m8, m9⟩ s) 48) := ⟨_, rfl⟩
  have hbw : Below w.heap.size w W := by rw [hW]; exact below_new _
  have P0 : Hid (BW14 w w.heap.size ⟨m0, m1, m2, m3, m4, m5, m6, m7, m8, m9⟩ s W) := ⟨hbw, by rw [hW]; exact heap_alloc_new w _, Rds.below h hbw⟩
  clear hbw h hy
  have k1 : (m0 == 1) = false := by simp [h1]
  have n1 : (m0 != 1) = true := by simp [h1]
  have k2 : (m0 == 2) = false := by simp [h2]
  have n2 : (m0 != 2) = true := by simp [h2]
  have k4 : (m0 == 4) = false := by simp [h4]
  have n4 : (m0 != 4) = true := by simp [h4]
  have k8 : (m0 == 8) = false := by simp [h8]
  have n8 : (m0 != 8) = true := by simp [h8]
  have k11 : (m0 == 11) = false := by simp [h11]
  have n11 : (m0 != 11) = true := by simp [h11]
  have k15 : (m0 == 15) = false := by simp [h15]
  have n15 : (m0 != 15) = true := by simp [h15]
  have k20 : (m0 == 20) = false := by simp [h20]
  have n20 : (m0 != 20) = true := by simp [h20]
  obtain ⟨O, hO⟩ : ∃ O, O = onlyM (Hel.mk m0 m1 m2 m3 m4 m5 m6 m7 m8 m9) := ⟨_, rfl⟩
  obtain ⟨SO, hSO⟩ : ∃ SO, SO = onlyS (Hel.mk m0 m1 m2 m3 m4 m5 m6 m7 m8 m9) s := ⟨_, rfl⟩
  have key := only_any (Hel.mk m0 m1 m2 m3 m4 m5 m6 m7 m8 m9) s W
  rw [← hO, ← hSO] at key
  have HO := Lib.hid hO
  clear hO hSO
  unfold helCs at hW key ⊢
  simp only at hW key ⊢
  obtain ⟨⟨x0, x1, x2, x3, x4⟩, x5, x6, x7, x8, x9⟩ := P0.out.d.ten
  simp only at x0 x1 x2 x3 x4 x5 x6 x7 x8 x9
  go_enter Tryd.func28, Tryd.ntmps28
  subst hW
  go_wp2_with fail
  refine key.mono ?_
  clear key
  rintro e w1 ⟨rfl, hb⟩
  have P1 := Lib.hid (P0.out.below hb)
  obtain ⟨W3, hW3⟩ : ∃ W3, W3 = w1.alloc (.cells (helCs O SO) 48) := ⟨_, rfl⟩
  have hb3 : Below w1.heap.size w1 W3 := by rw [hW3]; exact below_new _
  have P3 := Lib.hid (P1.out.below hb3)
  have O3 : Hid (HelB W3 w1.heap.size O SO) := by show _ = _; rw [hW3]; exact heap_alloc_new w1 _
  have key := hsame_any O (Hel.mk m0 m1 m2 m3 m4 m5 m6 m7 m8 m9) SO s W3
  unfold helCs at hW3 key
  simp only at key
  clear hb hb3 x0 x1 x2 x3 x4 x5 x6 x7 x8 x9
  obtain ⟨⟨x0, x1, x2, x3, x4⟩, x5, x6, x7, x8, x9⟩ := P3.out.d.ten
  simp only at x0 x1 x2 x3 x4 x5 x6 x7 x8 x9
  obtain ⟨⟨y0, y1, y2, y3, y4⟩, y5, y6, y7, y8, y9⟩ := O3.out.ten
  subst hW3
  go_wp2_with fail
  refine key.mono ?_
  clear key
  rintro e w4 ⟨rfl, hb⟩
  have P4 := Lib.hid (P3.out.below hb)
  have O4 := Lib.hid (O3.out.later hb (lt_of_get O3.out))
  clear hb x0 x1 x2 x3 x4 x5 x6 x7 x8 x9 y0 y1 y2 y3 y4 y5 y6 y7 y8 y9
  obtain ⟨⟨x0, x1, x2, x3, x4⟩, x5, x6, x7, x8, x9⟩ := P4.out.d.ten
  simp only at x0 x1 x2 x3 x4 x5 x6 x7 x8 x9
  obtain ⟨⟨y0, y1, y2, y3, y4⟩, y5, y6, y7, y8, y9⟩ := O4.out.ten
  by_cases hsm : sameM O (Hel.mk m0 m1 m2 m3 m4 m5 m6 m7 m8 m9)
  rotate_left
  · have HE := Lib.hid (show decide (rightM (Hel.mk m0 m1 m2 m3 m4 m5 m6 m7 m8 m9)) = false from decide_eq_false fun h => hsm (by rw [HO.out]; exact h.1.1))
    rw [decide_eq_false hsm]
    clear hsm
    go_wp2_with fail
    go_ret
    rw [HE.out]
    exact ⟨rfl, P4.out.bl⟩
  rw [decide_eq_true hsm]
  have HSM := Lib.hid hsm
  clear hsm
  by_cases hln : O.params.length = m6.length
  rotate_left
  · have HE := Lib.hid (show decide (rightM (Hel.mk m0 m1 m2 m3 m4 m5 m6 m7 m8 m9)) = false from decide_eq_false fun h => hln (by rw [HO.out]; exact h.1.2))
    have hli : ((O.params.length : Int) != (m6.length : Int)) = true := by simp; omega
    clear hln
    go_wp2_with fail
    go_ret
    rw [HE.out]
    exact ⟨rfl, P4.out.bl⟩
  have HRest : Hid (restM (Hel.mk m0 m1 m2 m3 m4 m5 m6 m7 m8 m9)) := ⟨by rw [← HO.out]; exact HSM.out, by rw [← HO.out]; exact hln⟩
  have hli : ((O.params.length : Int) != (m6.length : Int)) = false := by simp [hln]
  clear hln
  have HE := Lib.hid (show decide (rightM (Hel.mk m0 m1 m2 m3 m4 m5 m6 m7 m8 m9)) = false from decide_eq_false fun h => by have := ownM_kind h.2; simp at this; omega)
  go_wp2_with fail
  go_ret
  rw [HE.out]
  exact ⟨rfl, P4.out.bl⟩
theorem right14_any (m : Hel) (s : HelS) (w : World) (h : HelAt w.heap.size w m s) (hy : Byt m.params) :
    Calls Tryd.prog 28 #[.agg (helCs m s)] w fun e w' => e = .returned (.bool (decide (rightM m))) ∧ Below w.heap.size w w' := by
  obtain ⟨m0, m1, m2, m3, m4, m5, m6, m7, m8, m9⟩ := m
  by_cases h1 : m0 = 1
  · exact right14_k1 m0 m1 m2 m3 m4 m5 m6 m7 m8 m9 s w h hy h1
  by_cases h2 : m0 = 2
  · exact right14_k2 m0 m1 m2 m3 m4 m5 m6 m7 m8 m9 s w h hy h2
  by_cases h4 : m0 = 4
  · exact right14_k4 m0 m1 m2 m3 m4 m5 m6 m7 m8 m9 s w h hy h4
  by_cases h8 : m0 = 8
  · exact right14_k8 m0 m1 m2 m3 m4 m5 m6 m7 m8 m9 s w h hy h8
  by_cases h11 : m0 = 11
  · exact right14_k11 m0 m1 m2 m3 m4 m5 m6 m7 m8 m9 s w h hy h11
  by_cases h15 : m0 = 15
  · exact right14_k15 m0 m1 m2 m3 m4 m5 m6 m7 m8 m9 s w h hy h15
  by_cases h20 : m0 = 20
  · exact right14_k20 m0 m1 m2 m3 m4 m5 m6 m7 m8 m9 s w h hy h20
  · exact right14_ko m0 m1 m2 m3 m4 m5 m6 m7 m8 m9 s w h hy h1 h2 h4 h8 h11 h15 h20
end Go.Proofs.YtbfgoojpbhlboaaDoor
