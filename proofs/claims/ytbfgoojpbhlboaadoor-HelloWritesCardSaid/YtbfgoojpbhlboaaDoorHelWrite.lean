/- The program's layer 14: Write. No condition but the table of bit places. Printed by gen_helwrite.py. -/
import Derived.Test.YtbfgoojpbhlboaaDoorHelBody
import Derived.Test.YtbfgoojpbhlboaaDoorHelRightP
set_option linter.unusedVariables false
set_option linter.unusedSimpArgs false
set_option linter.unnecessarySimpa false
namespace Go.Proofs.YtbfgoojpbhlboaaDoor
open Go Go.RowKit

set_option maxHeartbeats 6400000 in
set_option maxRecDepth 100000 in
theorem hwrite_any (m : Hel) (s : HelS) (w : World) (h : HelAt w.heap.size w m s) (hy : Byt m.params) (hl : m.params.length ≤ 600) (ht : Tz w) :
    Calls Tryd.prog 26 #[.agg (helCs m s)] w (RowPost (writeM m) w) := by
  have hmix := hel_hmix
  have HT := Lib.hid ht
  have HL := Lib.hid hl
  have HYY := Lib.hid hy
  obtain ⟨W0, hW⟩ : ∃ W0, W0 = w.alloc (.cells (helCs m s) 48) := ⟨_, rfl⟩
  have hbw : Below w.heap.size w W0 := by rw [hW]; exact below_new _
  have P0 : Hid (BX14 w.heap.size w w.heap.size m s W0) := ⟨hbw, by rw [hW]; exact heap_alloc_new w _, h.below hbw⟩
  clear hbw h ht hl hy
  have key := right14_any m s W0 (Rds.mono P0.out.h P0.out.bl.size) HYY.out
  obtain ⟨⟨x0, x1, x2, x3, x4⟩, x5, x6, x7, x8, x9⟩ := P0.out.d.ten
  unfold helCs at hW key ⊢
  go_enter Tryd.func26, Tryd.ntmps26
  subst hW
  go_wp2_with fail
  refine key.mono ?_
  clear key x0 x1 x2 x3 x4 x5 x6 x7 x8 x9
  rintro e w1 ⟨rfl, hb⟩
  have P1 := Lib.hid (P0.out.below hb)
  clear hb
  by_cases hr : rightM m
  rotate_left
  · have HE := Lib.hid (show writeM m = [] from if_neg hr)
    rw [decide_eq_false hr]
    clear hr
    go_wp2_with fail
    go_ret
    rw [HE.out]
    exact ⟨none, 0, rfl, Rds.nil _ _ _, P1.out.bl⟩
  have HXS := Lib.hid (show writeM m = msgB m.kind (bodyB m) from if_pos hr)
  have HO := Lib.hid hr.2
  rw [decide_eq_true hr]
  clear hr
  go_wp2_with fail
  refine wp_lanes5 hmix 5 (BX14 w.heap.size w w.heap.size m s) (fun _ w w' => Below w.heap.size w w') (rowPR [.val (.pointer (some ⟨w.heap.size, 0, none⟩)), .val (.int .i64 m.kind), .val (.agg (helCs m s)), .rd (bodyB m), .row (msgB m.kind (bodyB m))]) (by decide +kernel) (by decide +kernel) 11 rfl (by decide +kernel) (by decide) (fun i w w' h k => h.below k) (fun i j v w w' _ h k => rowPR_below h k) (P1.out.below ((Below.refl _ _).drew)) ?_
  refine ⟨?_, ?_, ?_, ?_, ?_, ?_⟩
  · intro a W hs hun hdep
    have e1 := hun 1 (by decide +kernel)
    simp at e1
    refine ⟨rfl, ?_⟩
    unfold Oper.wp
    go_simp
    exact ⟨_, rfl, rfl, Below.refl _ _⟩
  · intro a W hs hun hdep
    have e1 : a.tmps[6]?.getD undef = .pointer (some ⟨w.heap.size, 0, none⟩) := hdep 0 6 (by decide +kernel) rfl
    have c1 : W.cell? ⟨w.heap.size, 0, none⟩ = some (.int .i64 m.kind) := hs.d.cell 0
    refine ⟨rfl, ?_⟩
    unfold Oper.wp
    go_simp
    exact ⟨_, rfl, rfl, Below.refl _ _⟩
  · intro a W hs hun hdep
    have e1 := hun 1 (by decide +kernel)
    simp at e1
    obtain ⟨⟨x0, x1, x2, x3, x4⟩, x5, x6, x7, x8, x9⟩ := hs.d.ten
    refine ⟨rfl, ?_⟩
    unfold Oper.wp
    go_simp
    exact ⟨_, rfl, rfl, Below.refl _ _⟩
  · intro a W hs hun hdep
    have e1 : a.tmps[8]?.getD undef = .agg (helCs m s) := hdep 2 8 (by decide +kernel) rfl
    have key := body_any m s W hs.h HL.out (HT.out.later hs.bl) HO.out
    refine ⟨rfl, ?_⟩
    unfold Oper.wp
    go_simp
    refine (key).mono ?_
    rintro e W' ⟨A, c, rfl, hr, hb⟩
    exact ⟨_, rfl, ⟨A, c, rfl, hr⟩, hb⟩
  · intro a W hs hun hdep
    have e1 : a.tmps[7]?.getD undef = .int .i64 m.kind := hdep 1 7 (by decide +kernel) rfl
    obtain ⟨A9, c9, e9, r9⟩ : laneP (.rd (bodyB m)) (a.tmps[9]?.getD undef) W := hdep 3 9 (by decide +kernel) rfl
    have R9 := Lib.hid r9
    clear r9
    refine ⟨rfl, ?_⟩
    unfold Oper.wp
    go_simp
    refine (message_any m.kind A9 _ c9 (bodyB m) W R9.out).mono ?_
    rintro e W' ⟨v, rfl, ho, hb⟩
    exact ⟨_, rfl, ho.mono (Nat.zero_le _), hb⟩
  · intro a W hds hts hs hun hpr
    have hr : OwnI W 0 .u8 (a.tmps[10]?.getD undef) (msgB m.kind (bodyB m)) := hpr 4 10 (by decide) rfl
    obtain ⟨A9, c9, e9⟩ := hr.slice
    rw [e9] at hr
    have v1 : a.eval (.tmp 10) = .slice A9 (msgB m.kind (bodyB m)).length c9 := by show a.tmps.getD 10 undef = _; simpa using e9
    refine ⟨rfl, ?_⟩
    unfold Oper.wp execOp
    simp only [v1, Sem.run_bind, Result.andThen_ok, Sem.run_pure]
    simp only [Oper.upon, Act.put, wpTail, Exit.then]
    have hts' : a.tmps.size = 11 := by simpa using hts
    go_wp2_with fail
    refine bodyPost_ret (v := .slice A9 (msgB m.kind (bodyB m)).length c9) (by simp [results, Tryd.results26, hts']) (by simpa using hds) ?_
    rw [HXS.out]
    exact ⟨A9, c9, rfl, hr.rds, hs.bl⟩
end Go.Proofs.YtbfgoojpbhlboaaDoor
