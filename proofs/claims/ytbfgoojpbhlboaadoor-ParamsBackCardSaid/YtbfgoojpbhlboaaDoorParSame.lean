/- told, Same, and the law ParamsSame. No condition but the table of bit places. Printed by gen_parsame.py. -/
import Derived.Test.YtbfgoojpbhlboaaDoorParTold
set_option linter.unusedVariables false
set_option linter.unusedSimpArgs false
namespace Go.Proofs.YtbfgoojpbhlboaaDoor
open Go Go.RowKit

set_option maxHeartbeats 6400000 in
set_option maxRecDepth 100000 in
theorem psame_any {B1 B2 : Nat} (p q : Par) (s t : ParS) (w : World) (h1 : ParAt B1 w p s) (h2 : ParAt B2 w q t) (b1 : BytP p) (b2 : BytP q) :
    Calls Tryd.prog 20 #[.agg (parCs p s), .agg (parCs q t)] w fun e w' => e = .returned (.bool (decide (sameP p q))) ∧ Below w.heap.size w w' := by
  obtain ⟨D, hD⟩ : ∃ D, D = decide (sameP p q) := ⟨_, rfl⟩
  rw [← hD]
  have HD0 := Lib.hid hD
  clear hD
  obtain ⟨W, hW⟩ : ∃ W, W = (w.alloc (.cells (parCs p s) 27)).alloc (.cells (parCs q t) 27) := ⟨_, rfl⟩
  have hbw : Below w.heap.size w W := by rw [hW]; exact below_pair _ _
  have HB := Lib.hid hbw
  have X := Lib.hid (show ParB W w.heap.size p s by rw [hW]; exact heap_alloc2_old w _ _)
  have Y := Lib.hid (show ParB W (w.heap.size + 1) q t by rw [hW]; exact heap_alloc2_new w _ _)
  have H1 := Lib.hid (h1.below hbw)
  have H2 := Lib.hid (h2.below hbw)
  have BP := Lib.hid b1
  have BQ := Lib.hid b2
  clear b1 b2
  clear h1 h2 hbw
  obtain ⟨idle, data, hg, ho, hr, goal, own, retry, chosen, vs⟩ := p
  obtain ⟨idle', data', hg', ho', hr', goal', own', retry', chosen', vs'⟩ := q
  unfold parCs at hW ⊢
  simp only at hW ⊢
  go_enter Tryd.func20, Tryd.ntmps20
  subst hW
  obtain ⟨⟨x0, x1, x2, x3, x4⟩, x5, x6, x7, x8, x9⟩ := X.out.ten
  obtain ⟨⟨y0, y1, y2, y3, y4⟩, y5, y6, y7, y8, y9⟩ := Y.out.ten
  simp only at x0 x1 x2 x3 x4 x5 x6 x7 x8 x9 y0 y1 y2 y3 y4 y5 y6 y7 y8 y9
  by_cases c0 : idle = idle'
  rotate_left
  · have HE : Hid (D = false) := by show _ = _; rw [HD0.out]; exact decide_eq_false fun h => c0 h.1
    have e0 : (idle == idle') = false := by simp [c0]
    clear c0
    go_wp2_with fail
    go_ret
    rw [HE.out]
    exact ⟨rfl, HB.out⟩
  subst c0
  by_cases c1 : data = data'
  rotate_left
  · have HE : Hid (D = false) := by show _ = _; rw [HD0.out]; exact decide_eq_false fun h => c1 h.2.1
    have e1 : (data == data') = false := by simp [c1]
    clear c1
    go_wp2_with fail
    go_ret
    rw [HE.out]
    exact ⟨rfl, HB.out⟩
  subst c1
  by_cases c2 : hg = hg'
  rotate_left
  · have HE : Hid (D = false) := by show _ = _; rw [HD0.out]; exact decide_eq_false fun h => c2 h.2.2.1
    obtain rfl : hg' = !hg := by cases hg <;> cases hg' <;> simp_all
    clear c2
    go_wp2_with fail
    go_ret
    rw [HE.out]
    exact ⟨rfl, HB.out⟩
  subst c2
  by_cases c3 : ho = ho'
  rotate_left
  · have HE : Hid (D = false) := by show _ = _; rw [HD0.out]; exact decide_eq_false fun h => c3 h.2.2.2.1
    obtain rfl : ho' = !ho := by cases ho <;> cases ho' <;> simp_all
    clear c3
    go_wp2_with fail
    go_ret
    rw [HE.out]
    exact ⟨rfl, HB.out⟩
  subst c3
  by_cases c4 : hr = hr'
  rotate_left
  · have HE : Hid (D = false) := by show _ = _; rw [HD0.out]; exact decide_eq_false fun h => c4 h.2.2.2.2.1
    obtain rfl : hr' = !hr := by cases hr <;> cases hr' <;> simp_all
    clear c4
    go_wp2_with fail
    go_ret
    rw [HE.out]
    exact ⟨rfl, HB.out⟩
  subst c4
  have key := bytesEqual_any s.gA t.gA _ _ s.gc t.gc goal goal' _ H1.out.goal H2.out.goal BP.out.goal BQ.out.goal
  simp only at key
  go_wp2_with fail
  refine key.mono ?_
  clear key
  rintro e w' ⟨rfl, hw⟩
  subst hw
  by_cases c5 : goal = goal'
  rotate_left
  · have HE : Hid (D = false) := by show _ = _; rw [HD0.out]; exact decide_eq_false fun h => c5 h.2.2.2.2.2.1
    rw [decide_eq_false c5]
    clear c5
    go_wp2_with fail
    go_ret
    rw [HE.out]
    exact ⟨rfl, HB.out⟩
  rw [decide_eq_true c5]
  have C5 := Lib.hid c5; clear c5
  have key := bytesEqual_any s.oA t.oA _ _ s.oc t.oc own own' _ H1.out.own H2.out.own BP.out.own BQ.out.own
  simp only at key
  go_wp2_with fail
  refine key.mono ?_
  clear key
  rintro e w' ⟨rfl, hw⟩
  subst hw
  by_cases c6 : own = own'
  rotate_left
  · have HE : Hid (D = false) := by show _ = _; rw [HD0.out]; exact decide_eq_false fun h => c6 h.2.2.2.2.2.2.1
    rw [decide_eq_false c6]
    clear c6
    go_wp2_with fail
    go_ret
    rw [HE.out]
    exact ⟨rfl, HB.out⟩
  rw [decide_eq_true c6]
  have C6 := Lib.hid c6; clear c6
  have key := bytesEqual_any s.rA t.rA _ _ s.rc t.rc retry retry' _ H1.out.retry H2.out.retry BP.out.retry BQ.out.retry
  simp only at key
  go_wp2_with fail
  refine key.mono ?_
  clear key
  rintro e w' ⟨rfl, hw⟩
  subst hw
  by_cases c7 : retry = retry'
  rotate_left
  · have HE : Hid (D = false) := by show _ = _; rw [HD0.out]; exact decide_eq_false fun h => c7 h.2.2.2.2.2.2.2.1
    rw [decide_eq_false c7]
    clear c7
    go_wp2_with fail
    go_ret
    rw [HE.out]
    exact ⟨rfl, HB.out⟩
  rw [decide_eq_true c7]
  have C7 := Lib.hid c7; clear c7
  by_cases c8 : chosen = chosen'
  rotate_left
  · have HE : Hid (D = false) := by show _ = _; rw [HD0.out]; exact decide_eq_false fun h => c8 h.2.2.2.2.2.2.2.2.1
    have e8 : (chosen == chosen') = false := by simp [c8]
    clear c8
    go_wp2_with fail
    go_ret
    rw [HE.out]
    exact ⟨rfl, HB.out⟩
  subst c8
  have HM : Hid (sameP ⟨idle, data, hg, ho, hr, goal, own, retry, chosen, vs⟩ ⟨idle, data, hg, ho, hr, goal', own', retry', chosen, vs'⟩ ↔ vs = vs') := ⟨fun h => h.2.2.2.2.2.2.2.2.2, fun h => ⟨rfl, rfl, rfl, rfl, rfl, C5.out, C6.out, C7.out, rfl, h⟩⟩
  have key := slicesEqual_any s.vA t.vA _ _ s.vc t.vc vs vs' _ H1.out.vs H2.out.vs
  have HE : Hid (D = decide (vs = vs')) := by
    show _ = _
    rw [HD0.out]
    by_cases r : vs = vs'
    · rw [decide_eq_true r, decide_eq_true (HM.out.2 r)]
    · rw [decide_eq_false r, decide_eq_false fun h => r (HM.out.1 h)]
  rw [← HE.out] at key
  simp only at key
  go_wp2_with fail
  refine key.mono ?_
  clear key
  rintro e w9 ⟨rfl, hb⟩
  have HG9 := Lib.hid (HB.out.trans (hb.mono HB.out.size))
  clear hb x0 x1 x2 x3 x4 x5 x6 x7 x8 x9 y0 y1 y2 y3 y4 y5 y6 y7 y8 y9
  go_wp2_with fail
  go_ret
  exact ⟨rfl, HG9.out⟩
end Go.Proofs.YtbfgoojpbhlboaaDoor
