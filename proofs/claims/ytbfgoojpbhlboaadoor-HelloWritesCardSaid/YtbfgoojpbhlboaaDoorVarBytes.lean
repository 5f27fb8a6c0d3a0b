/- The reference's bytes of numbers. No condition. -/
import Derived.Test.YtbfgoojpbhlboaaDoorVarint2
set_option linter.unusedVariables false
set_option linter.unusedSimpArgs false
namespace Go.Proofs.YtbfgoojpbhlboaaDoor
open Go Go.RowKit

/-- A number is stored into a row of the call's own. -/
theorem OwnI.put {w : World} {B : Nat} {k : IntKind} {g n c : Nat} {xs : List Int} (h : OwnI w B k (.slice (some ⟨g, 0, none⟩) n c) xs) (i : Nat) (hi : i < n) (x : Int) : OwnI (w.setCell ⟨g, i, none⟩ (.int k x)) B k (.slice (some ⟨g, 0, none⟩) n c) (xs.set i x) := by
  rcases h with ⟨rfl, e⟩ | ⟨g', cap, cur, t, e, hb, hg, ht, h1, h2, h3, hc⟩
  · cases e
  · simp only [Value.slice.injEq, Option.some.injEq, Addr.mk.injEq, and_true] at e
    obtain ⟨rfl, rfl, rfl⟩ := e
    refine .inr ⟨g, c, cur.setIfInBounds i (.int k x), t, by simp, hb, heap_setCell_same w g i cur t _ hg, ht, by simpa using h1, by simpa using h2, h3, ?_⟩
    rw [List.length_set, Array.toList_setIfInBounds, List.take_set, hc, List.map_set]
theorem OwnI.at_ {w : World} {B : Nat} {k : IntKind} {g n c : Nat} {xs : List Int} (h : OwnI w B k (.slice (some ⟨g, 0, none⟩) n c) xs) (i : Nat) (hi : i < n) : w.cell? ⟨g, i, none⟩ = some (.int k (nth xs i)) ∧ w.frozen? ⟨g, i, none⟩ = false := by
  rcases h with ⟨rfl, e⟩ | ⟨g', cap, cur, t, e, hb, hg, ht, h1, h2, h3, hc⟩
  · cases e
  · simp only [Value.slice.injEq, Option.some.injEq, Addr.mk.injEq, and_true] at e
    obtain ⟨rfl, rfl, rfl⟩ := e
    refine ⟨?_, frozen_of_row w g i cur t hg⟩
    rw [cell_of_row w g i cur t (0, 0) hg]
    have e := congrArg (fun l => l[i]?) hc
    simp only [List.getElem?_take, if_pos hi, List.getElem?_map, nth_lt hi, Option.map_some] at e
    simpa using e
set_option maxHeartbeats 3200000 in
set_option maxRecDepth 100000 in
theorem rbytes1_any (N : Int) (w : World) (k : sizeV N = 1) (h0 : 0 ≤ N) (h1 : N < 64) : Calls Tryd.prog 49 #[.int .i64 N] w (BytesPost (varB N) w) := by
  have HE : Hid (varB N = _) := varB_one k
  have key := rsize_any N w
  rw [k] at key
  have m0 : Int.tmod (N) 256 = N % 256 := Int.tmod_eq_emod_of_nonneg (by omega)
  have d0 : Int.tdiv (N) 256 = N / 256 := by rw [Int.tdiv_eq_ediv_of_nonneg (by omega)]
  go_enter Tryd.func49, Tryd.ntmps49
  go_wp2_with fail
  refine key.mono ?_
  clear key
  rintro e w1 ⟨rfl, rfl⟩
  go_wp2_with fail
  refine wp_loop_rounds 2 ?_
  have HV0 : Hid (OwnI w w.heap.size .u8 (.slice none 0 0) []) := OwnI.nil _ _ _
  have HB0 : Hid (Below w.heap.size w w) := Below.refl _ _
  rw [rounds_succ]
  go_wp2_with (at_builtin; refine wp_app_u8 (xs := []) (ys := [_]) rfl _ _ rfl rfl rfl (HV0.out.below (below_new _)) (RdI.one_at _ .u8 _ _ rfl) rfl ?_ ?_ ?_)
  · have := HB0.out.size; simp; try omega
  · simp
  intro v1 u1 hv hg hb
  try simp only [List.nil_append, List.cons_append] at hv
  have HV1 := Lib.hid hv
  have HB1 := Lib.hid ((HB0.out.alloc HB0.out.size _).trans hb)
  clear hv hg hb HV0 HB0
  go_wp2_with fail
  rw [rounds_succ]
  go_wp2_with fail
  obtain ⟨g, cap, rfl, hgB, hgl, -⟩ := HV1.out.form (by simp)
  obtain ⟨c0, f0⟩ := HV1.out.at_ 0 (by simp)
  simp only [nth, List.getD_cons_zero, List.getD_cons_succ, List.length_cons, List.length_nil] at *
  refine wp_loop_rounds 2 ?_
  rw [rounds_succ]
  go_wp2_with fail
  rw [rounds_succ]
  go_wp2_with fail
  go_ret
  refine ⟨_, rfl, ?_, (Below.setCell HB1.out hgB _)⟩
  rw [HE.out]
  refine OwnI.of_eq ?_ (OwnI.put HV1.out 0 (by simp) _)
  simp only [List.set_cons_succ, List.set_cons_zero, List.cons.injEq, and_true]
  try omega

set_option maxHeartbeats 3200000 in
set_option maxRecDepth 100000 in
theorem rbytes2_any (N : Int) (w : World) (k : sizeV N = 2) (h0 : 64 ≤ N) (h1 : N < 16384) : Calls Tryd.prog 49 #[.int .i64 N] w (BytesPost (varB N) w) := by
  have HE : Hid (varB N = _) := varB_two k
  have key := rsize_any N w
  rw [k] at key
  have m0 : Int.tmod (N) 256 = N % 256 := Int.tmod_eq_emod_of_nonneg (by omega)
  have d0 : Int.tdiv (N) 256 = N / 256 := by rw [Int.tdiv_eq_ediv_of_nonneg (by omega)]
  have m1 : Int.tmod (N / 256) 256 = (N / 256) % 256 := Int.tmod_eq_emod_of_nonneg (by omega)
  have d1 : Int.tdiv (N / 256) 256 = N / 65536 := by rw [Int.tdiv_eq_ediv_of_nonneg (by omega)]; omega
  go_enter Tryd.func49, Tryd.ntmps49
  go_wp2_with fail
  refine key.mono ?_
  clear key
  rintro e w1 ⟨rfl, rfl⟩
  go_wp2_with fail
  refine wp_loop_rounds 3 ?_
  have HV0 : Hid (OwnI w w.heap.size .u8 (.slice none 0 0) []) := OwnI.nil _ _ _
  have HB0 : Hid (Below w.heap.size w w) := Below.refl _ _
  rw [rounds_succ]
  go_wp2_with (at_builtin; refine wp_app_u8 (xs := []) (ys := [_]) rfl _ _ rfl rfl rfl (HV0.out.below (below_new _)) (RdI.one_at _ .u8 _ _ rfl) rfl ?_ ?_ ?_)
  · have := HB0.out.size; simp; try omega
  · simp
  intro v1 u1 hv hg hb
  try simp only [List.nil_append, List.cons_append] at hv
  have HV1 := Lib.hid hv
  have HB1 := Lib.hid ((HB0.out.alloc HB0.out.size _).trans hb)
  clear hv hg hb HV0 HB0
  go_wp2_with fail
  rw [rounds_succ]
  go_wp2_with (at_builtin; refine wp_app_u8 (xs := [0]) (ys := [_]) rfl _ _ rfl rfl rfl (HV1.out.below (below_new _)) (RdI.one_at _ .u8 _ _ rfl) rfl ?_ ?_ ?_)
  · have := HB1.out.size; simp; try omega
  · simp
  intro v2 u2 hv hg hb
  try simp only [List.nil_append, List.cons_append] at hv
  have HV2 := Lib.hid hv
  have HB2 := Lib.hid ((HB1.out.alloc HB1.out.size _).trans hb)
  clear hv hg hb HV1 HB1
  go_wp2_with fail
  rw [rounds_succ]
  go_wp2_with fail
  obtain ⟨g, cap, rfl, hgB, hgl, -⟩ := HV2.out.form (by simp)
  obtain ⟨c0, f0⟩ := HV2.out.at_ 0 (by simp)
  obtain ⟨c1, f1⟩ := HV2.out.at_ 1 (by simp)
  simp only [nth, List.getD_cons_zero, List.getD_cons_succ, List.length_cons, List.length_nil] at *
  refine wp_loop_rounds 3 ?_
  rw [rounds_succ]
  go_wp2_with fail
  rw [rounds_succ]
  go_wp2_with fail
  rw [rounds_succ]
  go_wp2_with fail
  go_ret
  refine ⟨_, rfl, ?_, (Below.setCell (Below.setCell (Below.setCell HB2.out hgB _) hgB _) hgB _)⟩
  rw [HE.out]
  refine OwnI.of_eq ?_ (OwnI.put (OwnI.put (OwnI.put HV2.out 1 (by simp) _) 0 (by simp) _) 0 (by simp) _)
  simp only [List.set_cons_succ, List.set_cons_zero, List.cons.injEq, and_true]
  try omega

set_option maxHeartbeats 3200000 in
set_option maxRecDepth 100000 in
theorem rbytes4_any (N : Int) (w : World) (k : sizeV N = 4) (h0 : 16384 ≤ N) (h1 : N < 1073741824) : Calls Tryd.prog 49 #[.int .i64 N] w (BytesPost (varB N) w) := by
  have HE : Hid (varB N = _) := varB_four k
  have key := rsize_any N w
  rw [k] at key
  have m0 : Int.tmod (N) 256 = N % 256 := Int.tmod_eq_emod_of_nonneg (by omega)
  have d0 : Int.tdiv (N) 256 = N / 256 := by rw [Int.tdiv_eq_ediv_of_nonneg (by omega)]
  have m1 : Int.tmod (N / 256) 256 = (N / 256) % 256 := Int.tmod_eq_emod_of_nonneg (by omega)
  have d1 : Int.tdiv (N / 256) 256 = N / 65536 := by rw [Int.tdiv_eq_ediv_of_nonneg (by omega)]; omega
  have m2 : Int.tmod (N / 65536) 256 = (N / 65536) % 256 := Int.tmod_eq_emod_of_nonneg (by omega)
  have d2 : Int.tdiv (N / 65536) 256 = N / 16777216 := by rw [Int.tdiv_eq_ediv_of_nonneg (by omega)]; omega
  have m3 : Int.tmod (N / 16777216) 256 = (N / 16777216) % 256 := Int.tmod_eq_emod_of_nonneg (by omega)
  have d3 : Int.tdiv (N / 16777216) 256 = N / 4294967296 := by rw [Int.tdiv_eq_ediv_of_nonneg (by omega)]; omega
  go_enter Tryd.func49, Tryd.ntmps49
  go_wp2_with fail
  refine key.mono ?_
  clear key
  rintro e w1 ⟨rfl, rfl⟩
  go_wp2_with fail
  refine wp_loop_rounds 5 ?_
  have HV0 : Hid (OwnI w w.heap.size .u8 (.slice none 0 0) []) := OwnI.nil _ _ _
  have HB0 : Hid (Below w.heap.size w w) := Below.refl _ _
  rw [rounds_succ]
  go_wp2_with (at_builtin; refine wp_app_u8 (xs := []) (ys := [_]) rfl _ _ rfl rfl rfl (HV0.out.below (below_new _)) (RdI.one_at _ .u8 _ _ rfl) rfl ?_ ?_ ?_)
  · have := HB0.out.size; simp; try omega
  · simp
  intro v1 u1 hv hg hb
  try simp only [List.nil_append, List.cons_append] at hv
  have HV1 := Lib.hid hv
  have HB1 := Lib.hid ((HB0.out.alloc HB0.out.size _).trans hb)
  clear hv hg hb HV0 HB0
  go_wp2_with fail
  rw [rounds_succ]
  go_wp2_with (at_builtin; refine wp_app_u8 (xs := [0]) (ys := [_]) rfl _ _ rfl rfl rfl (HV1.out.below (below_new _)) (RdI.one_at _ .u8 _ _ rfl) rfl ?_ ?_ ?_)
  · have := HB1.out.size; simp; try omega
  · simp
  intro v2 u2 hv hg hb
  try simp only [List.nil_append, List.cons_append] at hv
  have HV2 := Lib.hid hv
  have HB2 := Lib.hid ((HB1.out.alloc HB1.out.size _).trans hb)
  clear hv hg hb HV1 HB1
  go_wp2_with fail
  rw [rounds_succ]
  go_wp2_with (at_builtin; refine wp_app_u8 (xs := [0, 0]) (ys := [_]) rfl _ _ rfl rfl rfl (HV2.out.below (below_new _)) (RdI.one_at _ .u8 _ _ rfl) rfl ?_ ?_ ?_)
  · have := HB2.out.size; simp; try omega
  · simp
  intro v3 u3 hv hg hb
  try simp only [List.nil_append, List.cons_append] at hv
  have HV3 := Lib.hid hv
  have HB3 := Lib.hid ((HB2.out.alloc HB2.out.size _).trans hb)
  clear hv hg hb HV2 HB2
  go_wp2_with fail
  rw [rounds_succ]
  go_wp2_with (at_builtin; refine wp_app_u8 (xs := [0, 0, 0]) (ys := [_]) rfl _ _ rfl rfl rfl (HV3.out.below (below_new _)) (RdI.one_at _ .u8 _ _ rfl) rfl ?_ ?_ ?_)
  · have := HB3.out.size; simp; try omega
  · simp
  intro v4 u4 hv hg hb
  try simp only [List.nil_append, List.cons_append] at hv
  have HV4 := Lib.hid hv
  have HB4 := Lib.hid ((HB3.out.alloc HB3.out.size _).trans hb)
  clear hv hg hb HV3 HB3
  go_wp2_with fail
  rw [rounds_succ]
  go_wp2_with fail
  obtain ⟨g, cap, rfl, hgB, hgl, -⟩ := HV4.out.form (by simp)
  obtain ⟨c0, f0⟩ := HV4.out.at_ 0 (by simp)
  obtain ⟨c1, f1⟩ := HV4.out.at_ 1 (by simp)
  obtain ⟨c2, f2⟩ := HV4.out.at_ 2 (by simp)
  obtain ⟨c3, f3⟩ := HV4.out.at_ 3 (by simp)
  simp only [nth, List.getD_cons_zero, List.getD_cons_succ, List.length_cons, List.length_nil] at *
  refine wp_loop_rounds 5 ?_
  rw [rounds_succ]
  go_wp2_with fail
  rw [rounds_succ]
  go_wp2_with fail
  rw [rounds_succ]
  go_wp2_with fail
  rw [rounds_succ]
  go_wp2_with fail
  rw [rounds_succ]
  go_wp2_with fail
  go_ret
  refine ⟨_, rfl, ?_, (Below.setCell (Below.setCell (Below.setCell (Below.setCell (Below.setCell HB4.out hgB _) hgB _) hgB _) hgB _) hgB _)⟩
  rw [HE.out]
  refine OwnI.of_eq ?_ (OwnI.put (OwnI.put (OwnI.put (OwnI.put (OwnI.put HV4.out 3 (by simp) _) 2 (by simp) _) 1 (by simp) _) 0 (by simp) _) 0 (by simp) _)
  simp only [List.set_cons_succ, List.set_cons_zero, List.cons.injEq, and_true]
  try omega

set_option maxHeartbeats 3200000 in
set_option maxRecDepth 100000 in
theorem rbytes8_any (N : Int) (w : World) (k : sizeV N = 8) (h0 : 1073741824 ≤ N) (h1 : N ≤ 4611686018427387903) : Calls Tryd.prog 49 #[.int .i64 N] w (BytesPost (varB N) w) := by
  have HE : Hid (varB N = _) := varB_eight k
  have key := rsize_any N w
  rw [k] at key
  have m0 : Int.tmod (N) 256 = N % 256 := Int.tmod_eq_emod_of_nonneg (by omega)
  have d0 : Int.tdiv (N) 256 = N / 256 := by rw [Int.tdiv_eq_ediv_of_nonneg (by omega)]
  have m1 : Int.tmod (N / 256) 256 = (N / 256) % 256 := Int.tmod_eq_emod_of_nonneg (by omega)
  have d1 : Int.tdiv (N / 256) 256 = N / 65536 := by rw [Int.tdiv_eq_ediv_of_nonneg (by omega)]; omega
  have m2 : Int.tmod (N / 65536) 256 = (N / 65536) % 256 := Int.tmod_eq_emod_of_nonneg (by omega)
  have d2 : Int.tdiv (N / 65536) 256 = N / 16777216 := by rw [Int.tdiv_eq_ediv_of_nonneg (by omega)]; omega
  have m3 : Int.tmod (N / 16777216) 256 = (N / 16777216) % 256 := Int.tmod_eq_emod_of_nonneg (by omega)
  have d3 : Int.tdiv (N / 16777216) 256 = N / 4294967296 := by rw [Int.tdiv_eq_ediv_of_nonneg (by omega)]; omega
  have m4 : Int.tmod (N / 4294967296) 256 = (N / 4294967296) % 256 := Int.tmod_eq_emod_of_nonneg (by omega)
  have d4 : Int.tdiv (N / 4294967296) 256 = N / 1099511627776 := by rw [Int.tdiv_eq_ediv_of_nonneg (by omega)]; omega
  have m5 : Int.tmod (N / 1099511627776) 256 = (N / 1099511627776) % 256 := Int.tmod_eq_emod_of_nonneg (by omega)
  have d5 : Int.tdiv (N / 1099511627776) 256 = N / 281474976710656 := by rw [Int.tdiv_eq_ediv_of_nonneg (by omega)]; omega
  have m6 : Int.tmod (N / 281474976710656) 256 = (N / 281474976710656) % 256 := Int.tmod_eq_emod_of_nonneg (by omega)
  have d6 : Int.tdiv (N / 281474976710656) 256 = N / 72057594037927936 := by rw [Int.tdiv_eq_ediv_of_nonneg (by omega)]; omega
  have m7 : Int.tmod (N / 72057594037927936) 256 = (N / 72057594037927936) % 256 := Int.tmod_eq_emod_of_nonneg (by omega)
  have d7 : Int.tdiv (N / 72057594037927936) 256 = N / 18446744073709551616 := by rw [Int.tdiv_eq_ediv_of_nonneg (by omega)]; omega
  go_enter Tryd.func49, Tryd.ntmps49
  go_wp2_with fail
  refine key.mono ?_
  clear key
  rintro e w1 ⟨rfl, rfl⟩
  go_wp2_with fail
  refine wp_loop_rounds 9 ?_
  have HV0 : Hid (OwnI w w.heap.size .u8 (.slice none 0 0) []) := OwnI.nil _ _ _
  have HB0 : Hid (Below w.heap.size w w) := Below.refl _ _
  rw [rounds_succ]
  go_wp2_with (at_builtin; refine wp_app_u8 (xs := []) (ys := [_]) rfl _ _ rfl rfl rfl (HV0.out.below (below_new _)) (RdI.one_at _ .u8 _ _ rfl) rfl ?_ ?_ ?_)
  · have := HB0.out.size; simp; try omega
  · simp
  intro v1 u1 hv hg hb
  try simp only [List.nil_append, List.cons_append] at hv
  have HV1 := Lib.hid hv
  have HB1 := Lib.hid ((HB0.out.alloc HB0.out.size _).trans hb)
  clear hv hg hb HV0 HB0
  go_wp2_with fail
  rw [rounds_succ]
  go_wp2_with (at_builtin; refine wp_app_u8 (xs := [0]) (ys := [_]) rfl _ _ rfl rfl rfl (HV1.out.below (below_new _)) (RdI.one_at _ .u8 _ _ rfl) rfl ?_ ?_ ?_)
  · have := HB1.out.size; simp; try omega
  · simp
  intro v2 u2 hv hg hb
  try simp only [List.nil_append, List.cons_append] at hv
  have HV2 := Lib.hid hv
  have HB2 := Lib.hid ((HB1.out.alloc HB1.out.size _).trans hb)
  clear hv hg hb HV1 HB1
  go_wp2_with fail
  rw [rounds_succ]
  go_wp2_with (at_builtin; refine wp_app_u8 (xs := [0, 0]) (ys := [_]) rfl _ _ rfl rfl rfl (HV2.out.below (below_new _)) (RdI.one_at _ .u8 _ _ rfl) rfl ?_ ?_ ?_)
  · have := HB2.out.size; simp; try omega
  · simp
  intro v3 u3 hv hg hb
  try simp only [List.nil_append, List.cons_append] at hv
  have HV3 := Lib.hid hv
  have HB3 := Lib.hid ((HB2.out.alloc HB2.out.size _).trans hb)
  clear hv hg hb HV2 HB2
  go_wp2_with fail
  rw [rounds_succ]
  go_wp2_with (at_builtin; refine wp_app_u8 (xs := [0, 0, 0]) (ys := [_]) rfl _ _ rfl rfl rfl (HV3.out.below (below_new _)) (RdI.one_at _ .u8 _ _ rfl) rfl ?_ ?_ ?_)
  · have := HB3.out.size; simp; try omega
  · simp
  intro v4 u4 hv hg hb
  try simp only [List.nil_append, List.cons_append] at hv
  have HV4 := Lib.hid hv
  have HB4 := Lib.hid ((HB3.out.alloc HB3.out.size _).trans hb)
  clear hv hg hb HV3 HB3
  go_wp2_with fail
  rw [rounds_succ]
  go_wp2_with (at_builtin; refine wp_app_u8 (xs := [0, 0, 0, 0]) (ys := [_]) rfl _ _ rfl rfl rfl (HV4.out.below (below_new _)) (RdI.one_at _ .u8 _ _ rfl) rfl ?_ ?_ ?_)
  · have := HB4.out.size; simp; try omega
  · simp
  intro v5 u5 hv hg hb
  try simp only [List.nil_append, List.cons_append] at hv
  have HV5 := Lib.hid hv
  have HB5 := Lib.hid ((HB4.out.alloc HB4.out.size _).trans hb)
  clear hv hg hb HV4 HB4
  go_wp2_with fail
  rw [rounds_succ]
  go_wp2_with (at_builtin; refine wp_app_u8 (xs := [0, 0, 0, 0, 0]) (ys := [_]) rfl _ _ rfl rfl rfl (HV5.out.below (below_new _)) (RdI.one_at _ .u8 _ _ rfl) rfl ?_ ?_ ?_)
  · have := HB5.out.size; simp; try omega
  · simp
  intro v6 u6 hv hg hb
  try simp only [List.nil_append, List.cons_append] at hv
  have HV6 := Lib.hid hv
  have HB6 := Lib.hid ((HB5.out.alloc HB5.out.size _).trans hb)
  clear hv hg hb HV5 HB5
  go_wp2_with fail
  rw [rounds_succ]
  go_wp2_with (at_builtin; refine wp_app_u8 (xs := [0, 0, 0, 0, 0, 0]) (ys := [_]) rfl _ _ rfl rfl rfl (HV6.out.below (below_new _)) (RdI.one_at _ .u8 _ _ rfl) rfl ?_ ?_ ?_)
  · have := HB6.out.size; simp; try omega
  · simp
  intro v7 u7 hv hg hb
  try simp only [List.nil_append, List.cons_append] at hv
  have HV7 := Lib.hid hv
  have HB7 := Lib.hid ((HB6.out.alloc HB6.out.size _).trans hb)
  clear hv hg hb HV6 HB6
  go_wp2_with fail
  rw [rounds_succ]
  go_wp2_with (at_builtin; refine wp_app_u8 (xs := [0, 0, 0, 0, 0, 0, 0]) (ys := [_]) rfl _ _ rfl rfl rfl (HV7.out.below (below_new _)) (RdI.one_at _ .u8 _ _ rfl) rfl ?_ ?_ ?_)
  · have := HB7.out.size; simp; try omega
  · simp
  intro v8 u8 hv hg hb
  try simp only [List.nil_append, List.cons_append] at hv
  have HV8 := Lib.hid hv
  have HB8 := Lib.hid ((HB7.out.alloc HB7.out.size _).trans hb)
  clear hv hg hb HV7 HB7
  go_wp2_with fail
  rw [rounds_succ]
  go_wp2_with fail
  obtain ⟨g, cap, rfl, hgB, hgl, -⟩ := HV8.out.form (by simp)
  obtain ⟨c0, f0⟩ := HV8.out.at_ 0 (by simp)
  obtain ⟨c1, f1⟩ := HV8.out.at_ 1 (by simp)
  obtain ⟨c2, f2⟩ := HV8.out.at_ 2 (by simp)
  obtain ⟨c3, f3⟩ := HV8.out.at_ 3 (by simp)
  obtain ⟨c4, f4⟩ := HV8.out.at_ 4 (by simp)
  obtain ⟨c5, f5⟩ := HV8.out.at_ 5 (by simp)
  obtain ⟨c6, f6⟩ := HV8.out.at_ 6 (by simp)
  obtain ⟨c7, f7⟩ := HV8.out.at_ 7 (by simp)
  simp only [nth, List.getD_cons_zero, List.getD_cons_succ, List.length_cons, List.length_nil] at *
  refine wp_loop_rounds 9 ?_
  rw [rounds_succ]
  go_wp2_with fail
  rw [rounds_succ]
  go_wp2_with fail
  rw [rounds_succ]
  go_wp2_with fail
  rw [rounds_succ]
  go_wp2_with fail
  rw [rounds_succ]
  go_wp2_with fail
  rw [rounds_succ]
  go_wp2_with fail
  rw [rounds_succ]
  go_wp2_with fail
  rw [rounds_succ]
  go_wp2_with fail
  rw [rounds_succ]
  go_wp2_with fail
  go_ret
  refine ⟨_, rfl, ?_, (Below.setCell (Below.setCell (Below.setCell (Below.setCell (Below.setCell (Below.setCell (Below.setCell (Below.setCell (Below.setCell HB8.out hgB _) hgB _) hgB _) hgB _) hgB _) hgB _) hgB _) hgB _) hgB _)⟩
  rw [HE.out]
  refine OwnI.of_eq ?_ (OwnI.put (OwnI.put (OwnI.put (OwnI.put (OwnI.put (OwnI.put (OwnI.put (OwnI.put (OwnI.put HV8.out 7 (by simp) _) 6 (by simp) _) 5 (by simp) _) 4 (by simp) _) 3 (by simp) _) 2 (by simp) _) 1 (by simp) _) 0 (by simp) _) 0 (by simp) _)
  simp only [List.set_cons_succ, List.set_cons_zero, List.cons.injEq, and_true]
  try omega
set_option maxHeartbeats 800000 in
theorem rbytes0_any (N : Int) (w : World) (k : sizeV N = 0) : Calls Tryd.prog 49 #[.int .i64 N] w (BytesPost (varB N) w) := by
  have HE : Hid (varB N = []) := varB_none k
  have key := rsize_any N w
  rw [k] at key
  go_enter Tryd.func49, Tryd.ntmps49
  go_wp2_with fail
  refine key.mono ?_
  clear key
  rintro e w1 ⟨rfl, rfl⟩
  go_wp2_with fail
  refine wp_loop_rounds 1 ?_
  rw [rounds_succ]
  go_wp2_with fail
  refine wp_loop_rounds 1 ?_
  rw [rounds_succ]
  go_wp2_with fail
  go_ret
  rw [HE.out]
  exact BytesPost.nil (Below.refl _ _)
theorem rbytes_any (N : Int) (w : World) : Calls Tryd.prog 49 #[.int .i64 N] w (BytesPost (varB N) w) := by
  rcases sizeV_cases N with ⟨k, h1⟩ | ⟨k, h1, h2⟩ | ⟨k, h1, h2⟩ | ⟨k, h1, h2⟩ | ⟨k, h1, h2⟩
  · exact rbytes0_any N w k
  · exact rbytes1_any N w k h1 h2
  · exact rbytes2_any N w k h1 h2
  · exact rbytes4_any N w k h1 h2
  · exact rbytes8_any N w k h1 h2
end Go.Proofs.YtbfgoojpbhlboaaDoor
