/- SpecialBack: the walk. No condition. -/
import Derived.Test.YtomopjpfdmpgpaaSpecialReads
import Derived.Test.YtomopjpfdmpgpaaPureBack
import Derived.Test.YtomopjpfdmpgpaaRow08
set_option linter.unusedVariables false
set_option linter.unusedSimpArgs false
namespace Go.Proofs.Ytomopjpfdmpgpaa
open Go Go.RowKit

theorem readList8_some {B n c : Nat} {A : Option Addr} {xs ts fr vs : List Int} (w : World) (h : Rds B w .u8 A n c xs) (hb : Byt xs) (hr : readL xs = some (ts, fr, vs)) :
    Calls Try.prog 6 #[.slice A n c] w fun e w' => Below w.heap.size w w' ∧ ∃ A1 c1 A2 c2 A3 c3, e = .returned (.tuple #[.agg #[.slice A1 ts.length c1, .slice A2 fr.length c2, .slice A3 vs.length c3], .int .i64 0]) ∧ Rds w'.heap.size w' .u8 A1 ts.length c1 ts ∧ Rds w'.heap.size w' .u8 A2 fr.length c2 fr ∧ Rds w'.heap.size w' .i64 A3 vs.length c3 vs := by
  have key := readList8_any w h hb
  rw [hr] at key
  exact key
theorem readList8_none {B n c : Nat} {A : Option Addr} {xs : List Int} (w : World) (h : Rds B w .u8 A n c xs) (hb : Byt xs) (hr : readL xs = none) :
    Calls Try.prog 6 #[.slice A n c] w fun e w' => Below w.heap.size w w' ∧ ∃ A1 c1 A2 c2 A3 c3, e = .returned (.tuple #[.agg #[.slice A1 0 c1, .slice A2 0 c2, .slice A3 0 c3], .int .i64 3]) := by
  have key := readList8_any w h hb
  rw [hr] at key
  refine key.mono ?_
  rintro e w' ⟨hb, A1, c1, A2, c2, A3, c3, rfl, -, -, -⟩
  exact ⟨hb, A1, c1, A2, c2, A3, c3, rfl⟩
theorem readRetry8_some {B n c : Nat} {A : Option Addr} {xs ts fr : List Int} {v t u : Int} (w : World) (h : Rds B w .u8 A n c xs) (hb : Byt xs) (hr : readR xs = some ⟨v, ts, fr, t, u⟩) :
    Calls Try.prog 8 #[.slice A n c] w fun e w' => Below w.heap.size w w' ∧ ∃ A1 c1 A2 c2, e = .returned (.tuple #[.agg #[.int .i64 v, .slice A1 ts.length c1, .slice A2 fr.length c2, .int .i64 t, .int .i64 u], .int .i64 0]) ∧ Rds w'.heap.size w' .u8 A1 ts.length c1 ts ∧ Rds w'.heap.size w' .u8 A2 fr.length c2 fr := by
  have key := readRetry8_any w h hb
  rw [hr] at key
  exact key
theorem readRetry8_none {B n c : Nat} {A : Option Addr} {xs : List Int} (w : World) (h : Rds B w .u8 A n c xs) (hb : Byt xs) (hr : readR xs = none) :
    Calls Try.prog 8 #[.slice A n c] w fun e w' => Below w.heap.size w w' ∧ ∃ A1 c1 A2 c2, e = .returned (.tuple #[.agg #[.int .i64 0, .slice A1 0 c1, .slice A2 0 c2, .int .i64 0, .int .i64 0], .int .i64 3]) := by
  have key := readRetry8_any w h hb
  rw [hr] at key
  refine key.mono ?_
  rintro e w' ⟨hb, A1, c1, A2, c2, rfl, -, -⟩
  exact ⟨hb, A1, c1, A2, c2, rfl⟩
/-- What stands in memory all the while: both arguments' boxes and their bytes. -/
structure SB (w W : World) (A1 A2 A3 A4 A5 : Option Addr) (c1 c2 c3 c4 c5 : Nat) (ts fr vs tt ff : List Int) (ver token tag : Int) : Prop where
  bl : Below w.heap.size w W
  x : LBox W w.heap.size 29 A1 ts.length c1 A2 fr.length c2 A3 vs.length c3
  y : RBox W (w.heap.size + 1) 38 ver A4 tt.length c4 A5 ff.length c5 token tag
  h1 : Rds w.heap.size W .u8 A1 ts.length c1 ts
  h2 : Rds w.heap.size W .u8 A2 fr.length c2 fr
  h3 : Rds w.heap.size W .i64 A3 vs.length c3 vs
  h4 : Rds w.heap.size W .u8 A4 tt.length c4 tt
  h5 : Rds w.heap.size W .u8 A5 ff.length c5 ff
theorem SB.below {w W W' : World} {A1 A2 A3 A4 A5 : Option Addr} {c1 c2 c3 c4 c5 : Nat} {ts fr vs tt ff : List Int} {ver token tag : Int} (h : SB w W A1 A2 A3 A4 A5 c1 c2 c3 c4 c5 ts fr vs tt ff ver token tag) (hb : Below W.heap.size W W') : SB w W' A1 A2 A3 A4 A5 c1 c2 c3 c4 c5 ts fr vs tt ff ver token tag :=
  ⟨below_next h.bl h.bl.size hb, h.x.below hb, h.y.below hb, h.h1.below hb, h.h2.below hb, h.h3.below hb, h.h4.below hb, h.h5.below hb⟩
set_option maxHeartbeats 6400000 in
set_option maxRecDepth 100000 in
theorem specialBack_walk (w : World) (A1 A2 A3 A4 A5 : Option Addr) (c1 c2 c3 c4 c5 : Nat) (ts fr vs tt ff : List Int) (ver token tag : Int)
    (h1 : Rds w.heap.size w .u8 A1 ts.length c1 ts) (h2 : Rds w.heap.size w .u8 A2 fr.length c2 fr) (h3 : Rds w.heap.size w .i64 A3 vs.length c3 vs) (h4 : Rds w.heap.size w .u8 A4 tt.length c4 tt) (h5 : Rds w.heap.size w .u8 A5 ff.length c5 ff)
    (b1 : Byt ts) (b2 : Byt fr) (b4 : Byt tt) (b5 : Byt ff) :
    Calls Try.prog 4 #[.agg #[.slice A1 ts.length c1, .slice A2 fr.length c2, .slice A3 vs.length c3], .agg #[.int .i64 ver, .slice A4 tt.length c4, .slice A5 ff.length c5, .int .i64 token, .int .i64 tag]] w fun e w' => e = .returned (.bool true) ∧ Below w.heap.size w w' := by
  have BT := Lib.hid b1
  have BF := Lib.hid b2
  have BT2 := Lib.hid b4
  have BF2 := Lib.hid b5
  obtain ⟨W, hW⟩ : ∃ W, W = (w.alloc (.cells #[.slice A1 ts.length c1, .slice A2 fr.length c2, .slice A3 vs.length c3] 29)).alloc (.cells #[.int .i64 ver, .slice A4 tt.length c4, .slice A5 ff.length c5, .int .i64 token, .int .i64 tag] 38) := ⟨_, rfl⟩
  have hbw : Below w.heap.size w W := by rw [hW]; exact below_pair _ _
  have HW0 : Hid (SB w W A1 A2 A3 A4 A5 c1 c2 c3 c4 c5 ts fr vs tt ff ver token tag) :=
    ⟨hbw, by rw [hW]; exact heap_alloc2_old w _ _, by rw [hW]; exact heap_alloc2_new w _ _, h1.below hbw, h2.below hbw, h3.below hbw, h4.below hbw, h5.below hbw⟩
  obtain ⟨x0, x1, x2⟩ := HW0.out.x.cells
  obtain ⟨y0, y1, y2, y3, y4⟩ := HW0.out.y.cells
  clear h1 h2 h3 h4 h5 b1 b2 b4 b5 hbw
  go_enter Try.func4, Try.ntmps4
  subst hW
  by_cases k1 : 50 < ts.length
  · clear x0 x1 x2 y0 y1 y2 y3 y4
    go_wp2_with fail
    go_ret
    exact ⟨rfl, HW0.out.bl⟩
  by_cases k2 : 50 < fr.length
  · clear x0 x1 x2 y0 y1 y2 y3 y4
    go_wp2_with fail
    go_ret
    exact ⟨rfl, HW0.out.bl⟩
  by_cases k3 : 30 < vs.length
  · clear x0 x1 x2 y0 y1 y2 y3 y4
    go_wp2_with fail
    go_ret
    exact ⟨rfl, HW0.out.bl⟩
  by_cases k4 : 50 < tt.length
  · clear x0 x1 x2 y0 y1 y2 y3 y4
    go_wp2_with fail
    go_ret
    exact ⟨rfl, HW0.out.bl⟩
  by_cases k5 : 50 < ff.length
  · clear x0 x1 x2 y0 y1 y2 y3 y4
    go_wp2_with fail
    go_ret
    exact ⟨rfl, HW0.out.bl⟩
  have key := list_any A1 A2 A3 _ _ _ c1 c2 c3 ts fr vs _ HW0.out.h1 HW0.out.h2 HW0.out.h3 (by omega) (by omega) (by omega)
  go_wp2_with fail
  refine key.mono ?_
  clear key x0 x1 x2 y0 y1 y2 y3 y4
  rintro e w1 ⟨P1, d1, P2, d2, P3, d3, rfl, o1, o2, o3, hb⟩
  have HW1 := Lib.hid (HW0.out.below hb)
  have key := writeList_any P1 P2 P3 _ _ _ d1 d2 d3 ts fr vs w1 (o1.rds (B' := 0)) (o2.rds (B' := 0)) (o3.rds (B' := 0))
  clear o1 o2 o3 hb HW0
  go_wp2_with fail
  refine key.mono ?_
  clear key
  rintro e w2 ⟨v2, rfl, hv, hb⟩
  have HW2 := Lib.hid (HW1.out.below hb)
  clear HW1 hb
  obtain ⟨P4, d4, rfl⟩ := hv.slice
  have HV := Lib.hid (hv.rds (B' := 0))
  clear hv
  obtain ⟨L, hL⟩ : ∃ L, L = listB ts fr vs := ⟨_, rfl⟩
  rw [← hL] at HV ⊢
  by_cases hok : ListOk ts fr vs
  · have hl0 : 0 < L.length := by rw [hL, listB_yes hok, List.length_append, headB_len]; omega
    have HRL : Hid (readL L = some (ts, fr, vs)) := by show _ = _; rw [hL]; exact readL_listB hok
    have HRR : Hid (readR L = none) := by show _ = _; rw [hL]; exact readR_listB hok
    have HBY : Hid (Byt L) := by rw [hL]; exact listB_byt hok BT.out BF.out
    clear hL hok
    have key := readList8_some w2 HV.out HBY.out HRL.out
    go_wp2_with fail
    refine key.mono ?_
    clear key
    rintro e w3 ⟨hb, Q1, e1, Q2, e2, Q3, e3, rfl, t1, t2, t3⟩
    have HW3 := Lib.hid (HW2.out.below hb)
    have HV3 := Lib.hid (HV.out.below hb)
    clear HW2 HV hb
    obtain ⟨W4, hW4⟩ : ∃ W4, W4 = w3.alloc (.cells #[.slice Q1 ts.length e1, .slice Q2 fr.length e2, .slice Q3 vs.length e3] 25) := ⟨_, rfl⟩
    have hb4 : Below w3.heap.size w3 W4 := by rw [hW4]; exact below_new _
    have HW4 := Lib.hid (HW3.out.below hb4)
    have X4 : Hid (LBox W4 w3.heap.size 25 Q1 ts.length e1 Q2 fr.length e2 Q3 vs.length e3) := by rw [hW4]; exact heap_alloc_new _ _
    have T1 := Lib.hid (t1.below hb4)
    have T2 := Lib.hid (t2.below hb4)
    have T3 := Lib.hid (t3.below hb4)
    have key := readRetry8_none W4 (HV3.out.below hb4) HBY.out HRR.out
    subst hW4
    clear t1 t2 t3 hb4 HW3 HV3
    go_wp2_with fail
    refine key.mono ?_
    clear key
    rintro e w5 ⟨hb, U1, i1, U2, i2, rfl⟩
    obtain ⟨W6, hW6⟩ : ∃ W6, W6 = w5.alloc (.cells #[.int .i64 0, .slice U1 0 i1, .slice U2 0 i2, .int .i64 0, .int .i64 0] 34) := ⟨_, rfl⟩
    have hb6 : Below w5.heap.size w5 W6 := by rw [hW6]; exact below_new _
    have hb46 := below_next hb hb.size hb6
    have HW6 := Lib.hid (HW4.out.below hb46)
    have X6 := Lib.hid (X4.out.below hb46)
    have key := listed_yes Q1 Q2 Q3 A1 A2 A3 _ _ _ _ _ _ e1 e2 e3 c1 c2 c3 ts fr vs W6 (T1.out.below hb46) (T2.out.below hb46) (T3.out.below hb46) HW6.out.h1 HW6.out.h2 HW6.out.h3
    obtain ⟨x0, x1, x2⟩ := X6.out.cells
    obtain ⟨y0, y1, y2⟩ := HW6.out.x.cells
    subst hW6
    clear hb hb6 hb46 HW4 X4 T1 T2 T3 X6
    go_wp2_with fail
    refine key.mono ?_
    clear key x0 x1 x2 y0 y1 y2
    rintro e w7 ⟨rfl, hb⟩
    have HW7 := Lib.hid (HW6.out.below hb)
    clear HW6 hb
    obtain ⟨x0, x1, x2, x3, x4⟩ := HW7.out.y.cells
    have key := retry_any ver token tag A4 A5 _ _ c4 c5 tt ff w7 HW7.out.h4 HW7.out.h5 (by omega) (by omega)
    go_wp2_with fail
    refine key.mono ?_
    clear key x0 x1 x2 x3 x4
    rintro e w8 ⟨P5, d5, P6, d6, rfl, o1, o2, hb⟩
    have HW8 := Lib.hid (HW7.out.below hb)
    have key := writeRetry_any ver token tag P5 P6 _ _ d5 d6 tt ff w8 (o1.rds (B' := 0)) (o2.rds (B' := 0))
    clear o1 o2 hb HW7
    go_wp2_with fail
    refine key.mono ?_
    clear key
    rintro e w9 ⟨v9, rfl, hv, hb⟩
    have HW9 := Lib.hid (HW8.out.below hb)
    clear HW8 hb
    obtain ⟨P7, d7, rfl⟩ := hv.slice
    have HV9 := Lib.hid (hv.rds (B' := 0))
    clear hv
    obtain ⟨M, hM⟩ : ∃ M, M = retryB ver tt ff token tag := ⟨_, rfl⟩
    rw [← hM] at HV9 ⊢
    by_cases hok2 : BodyOk ver tt ff token ∧ 1 ≤ tag ∧ tag ≤ 65536
    · have hm0 : 0 < M.length := by rw [hM, retryB_head hok2, List.length_append, headB_len]; omega
      have HRM : Hid (readR M = some ⟨ver, tt, ff, token, tag⟩) := by show _ = _; rw [hM]; exact readR_retryB hok2
      have HRN : Hid (readL M = none) := by show _ = _; rw [hM]; exact readL_retryB hok2
      have HBM : Hid (Byt M) := by rw [hM]; exact retryB_byt hok2 BT2.out BF2.out
      clear hM hok2
      have key := readRetry8_some w9 HV9.out HBM.out HRM.out
      go_wp2_with fail
      refine key.mono ?_
      clear key
      rintro e w10 ⟨hb, Q4, e4, Q5, e5, rfl, t1, t2⟩
      have HW10 := Lib.hid (HW9.out.below hb)
      have HV10 := Lib.hid (HV9.out.below hb)
      clear HW9 HV9 hb
      obtain ⟨W11, hW11⟩ : ∃ W11, W11 = w10.alloc (.cells #[.int .i64 ver, .slice Q4 tt.length e4, .slice Q5 ff.length e5, .int .i64 token, .int .i64 tag] 34) := ⟨_, rfl⟩
      have hb11 : Below w10.heap.size w10 W11 := by rw [hW11]; exact below_new _
      have HW11 := Lib.hid (HW10.out.below hb11)
      have X11 : Hid (RBox W11 w10.heap.size 34 ver Q4 tt.length e4 Q5 ff.length e5 token tag) := by rw [hW11]; exact heap_alloc_new _ _
      have T4 := Lib.hid (t1.below hb11)
      have T5 := Lib.hid (t2.below hb11)
      have key := readList8_none W11 (HV10.out.below hb11) HBM.out HRN.out
      subst hW11
      clear t1 t2 hb11 HW10 HV10
      go_wp2_with fail
      refine key.mono ?_
      clear key
      rintro e w12 ⟨hb, U3, i3, U4, i4, U5, i5, rfl⟩
      obtain ⟨W13, hW13⟩ : ∃ W13, W13 = w12.alloc (.cells #[.slice U3 0 i3, .slice U4 0 i4, .slice U5 0 i5] 25) := ⟨_, rfl⟩
      have hb13 : Below w12.heap.size w12 W13 := by rw [hW13]; exact below_new _
      have hbz := below_next hb hb.size hb13
      have HW13 := Lib.hid (HW11.out.below hbz)
      have X13 := Lib.hid (X11.out.below hbz)
      have key := retried_yes ver token tag ver token tag Q4 Q5 A4 A5 _ _ _ _ e4 e5 c4 c5 tt ff tt ff W13 (T4.out.below hbz) (T5.out.below hbz) HW13.out.h4 HW13.out.h5 ⟨rfl, rfl, rfl, rfl, rfl⟩
      obtain ⟨x0, x1, x2, x3, x4⟩ := X13.out.cells
      obtain ⟨y0, y1, y2, y3, y4⟩ := HW13.out.y.cells
      subst hW13
      clear hb hb13 hbz HW11 X11 T4 T5 X13
      go_wp2_with fail
      refine key.mono ?_
      clear key x0 x1 x2 x3 x4 y0 y1 y2 y3 y4
      rintro e w14 ⟨rfl, hb⟩
      have HW14 := Lib.hid (HW13.out.below hb)
      clear HW13 hb
      go_wp2_with fail
      refine (awake08_any w14).mono ?_
      rintro e w15 ⟨rfl, hb⟩
      have HW15 := Lib.hid (HW14.out.below hb)
      clear hb
      go_wp2_with fail
      go_ret
      exact ⟨rfl, HW15.out.bl⟩
    · have hm0 : ¬ (0 < M.length) := by rw [hM, retryB_no hok2]; simp
      clear hM hok2
      go_wp2_with fail
      refine (awake08_any w9).mono ?_
      rintro e w15 ⟨rfl, hb⟩
      have HW15 := Lib.hid (HW9.out.below hb)
      clear hb
      go_wp2_with fail
      go_ret
      exact ⟨rfl, HW15.out.bl⟩
  · have hl0 : ¬ (0 < L.length) := by rw [hL, listB_no hok]; simp
    clear hL hok
    obtain ⟨x0, x1, x2, x3, x4⟩ := HW2.out.y.cells
    have key := retry_any ver token tag A4 A5 _ _ c4 c5 tt ff w2 HW2.out.h4 HW2.out.h5 (by omega) (by omega)
    go_wp2_with fail
    refine key.mono ?_
    clear key x0 x1 x2 x3 x4
    rintro e w8 ⟨P5, d5, P6, d6, rfl, o1, o2, hb⟩
    have HW8 := Lib.hid (HW2.out.below hb)
    have key := writeRetry_any ver token tag P5 P6 _ _ d5 d6 tt ff w8 (o1.rds (B' := 0)) (o2.rds (B' := 0))
    clear o1 o2 hb HW2
    go_wp2_with fail
    refine key.mono ?_
    clear key
    rintro e w9 ⟨v9, rfl, hv, hb⟩
    have HW9 := Lib.hid (HW8.out.below hb)
    clear HW8 hb
    obtain ⟨P7, d7, rfl⟩ := hv.slice
    have HV9 := Lib.hid (hv.rds (B' := 0))
    clear hv
    obtain ⟨M, hM⟩ : ∃ M, M = retryB ver tt ff token tag := ⟨_, rfl⟩
    rw [← hM] at HV9 ⊢
    by_cases hok2 : BodyOk ver tt ff token ∧ 1 ≤ tag ∧ tag ≤ 65536
    · have hm0 : 0 < M.length := by rw [hM, retryB_head hok2, List.length_append, headB_len]; omega
      have HRM : Hid (readR M = some ⟨ver, tt, ff, token, tag⟩) := by show _ = _; rw [hM]; exact readR_retryB hok2
      have HRN : Hid (readL M = none) := by show _ = _; rw [hM]; exact readL_retryB hok2
      have HBM : Hid (Byt M) := by rw [hM]; exact retryB_byt hok2 BT2.out BF2.out
      clear hM hok2
      have key := readRetry8_some w9 HV9.out HBM.out HRM.out
      go_wp2_with fail
      refine key.mono ?_
      clear key
      rintro e w10 ⟨hb, Q4, e4, Q5, e5, rfl, t1, t2⟩
      have HW10 := Lib.hid (HW9.out.below hb)
      have HV10 := Lib.hid (HV9.out.below hb)
      clear HW9 HV9 hb
      obtain ⟨W11, hW11⟩ : ∃ W11, W11 = w10.alloc (.cells #[.int .i64 ver, .slice Q4 tt.length e4, .slice Q5 ff.length e5, .int .i64 token, .int .i64 tag] 34) := ⟨_, rfl⟩
      have hb11 : Below w10.heap.size w10 W11 := by rw [hW11]; exact below_new _
      have HW11 := Lib.hid (HW10.out.below hb11)
      have X11 : Hid (RBox W11 w10.heap.size 34 ver Q4 tt.length e4 Q5 ff.length e5 token tag) := by rw [hW11]; exact heap_alloc_new _ _
      have T4 := Lib.hid (t1.below hb11)
      have T5 := Lib.hid (t2.below hb11)
      have key := readList8_none W11 (HV10.out.below hb11) HBM.out HRN.out
      subst hW11
      clear t1 t2 hb11 HW10 HV10
      go_wp2_with fail
      refine key.mono ?_
      clear key
      rintro e w12 ⟨hb, U3, i3, U4, i4, U5, i5, rfl⟩
      obtain ⟨W13, hW13⟩ : ∃ W13, W13 = w12.alloc (.cells #[.slice U3 0 i3, .slice U4 0 i4, .slice U5 0 i5] 25) := ⟨_, rfl⟩
      have hb13 : Below w12.heap.size w12 W13 := by rw [hW13]; exact below_new _
      have hbz := below_next hb hb.size hb13
      have HW13 := Lib.hid (HW11.out.below hbz)
      have X13 := Lib.hid (X11.out.below hbz)
      have key := retried_yes ver token tag ver token tag Q4 Q5 A4 A5 _ _ _ _ e4 e5 c4 c5 tt ff tt ff W13 (T4.out.below hbz) (T5.out.below hbz) HW13.out.h4 HW13.out.h5 ⟨rfl, rfl, rfl, rfl, rfl⟩
      obtain ⟨x0, x1, x2, x3, x4⟩ := X13.out.cells
      obtain ⟨y0, y1, y2, y3, y4⟩ := HW13.out.y.cells
      subst hW13
      clear hb hb13 hbz HW11 X11 T4 T5 X13
      go_wp2_with fail
      refine key.mono ?_
      clear key x0 x1 x2 x3 x4 y0 y1 y2 y3 y4
      rintro e w14 ⟨rfl, hb⟩
      have HW14 := Lib.hid (HW13.out.below hb)
      clear HW13 hb
      go_wp2_with fail
      refine (awake08_any w14).mono ?_
      rintro e w15 ⟨rfl, hb⟩
      have HW15 := Lib.hid (HW14.out.below hb)
      clear hb
      go_wp2_with fail
      go_ret
      exact ⟨rfl, HW15.out.bl⟩
    · have hm0 : ¬ (0 < M.length) := by rw [hM, retryB_no hok2]; simp
      clear hM hok2
      go_wp2_with fail
      refine (awake08_any w9).mono ?_
      rintro e w15 ⟨rfl, hb⟩
      have HW15 := Lib.hid (HW9.out.below hb)
      clear hb
      go_wp2_with fail
      go_ret
      exact ⟨rfl, HW15.out.bl⟩
theorem specialBack_row {v0 v1 : Value} (w : World) (h0 : ListArg w v0) (h1 : RetryArg w v1) : Calls Try.prog 4 #[v0, v1] w fun e w' => e = .returned (.bool true) ∧ Below w.heap.size w w' := by
  obtain ⟨A1, c1, A2, c2, A3, c3, ts, fr, vs, rfl, r1, b1, r2, b2, r3, -⟩ := h0
  obtain ⟨ver, A4, c4, A5, c5, tt, ff, token, tag, rfl, r4, b4, r5, b5, -⟩ := h1
  exact specialBack_walk w A1 A2 A3 A4 A5 c1 c2 c3 c4 c5 ts fr vs tt ff ver token tag r1 r2 r3 r4 r5 b1 b2 b4 b5
end Go.Proofs.Ytomopjpfdmpgpaa
