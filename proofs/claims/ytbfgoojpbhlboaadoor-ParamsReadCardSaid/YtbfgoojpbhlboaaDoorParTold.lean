/- told, Same, and the law ParamsSame. No condition but the table of bit places. Printed by gen_parsame.py. -/
import Derived.Test.YtbfgoojpbhlboaaDoorParamsWrite
import Derived.Test.YtbfgoojpbhlboaaDoorConvB
set_option linter.unusedVariables false
set_option linter.unusedSimpArgs false
namespace Go.Proofs.YtbfgoojpbhlboaaDoor
open Go Go.RowKit

set_option maxHeartbeats 800000 in
theorem bytesEqual_any {B0 B1 : Nat} (A0 A1 : Option Addr) (n m c d : Nat) (xs ys : List Int) (w : World) (h1 : Rds B0 w .u8 A0 n c xs) (h2 : Rds B1 w .u8 A1 m d ys) (b1 : Byt xs) (b2 : Byt ys) :
    Calls Tryd.prog 51 #[.slice A0 n c, .slice A1 m d] w fun e w' => e = .returned (.bool (decide (xs = ys))) ∧ w = w' := by
  have r1 := run_bytes_string h1
  have r2 := run_bytes_string h2
  have e : ((strOfNums xs).toList == (strOfNums ys).toList) = decide (xs = ys) := by
    rw [str_beq]
    by_cases q : xs = ys
    · rw [decide_eq_true q, decide_eq_true (by rw [q])]
    · rw [decide_eq_false q, decide_eq_false fun k => q (strOfNums_inj b1 b2 k)]
  have E := Lib.hid e
  clear h1 h2 b1 b2 e
  obtain ⟨X, hX⟩ : ∃ X, X = strOfNums xs := ⟨_, rfl⟩
  obtain ⟨Y, hY⟩ : ∃ Y, Y = strOfNums ys := ⟨_, rfl⟩
  rw [← hX] at r1 E
  rw [← hY] at r2 E
  clear hX hY
  go_enter Tryd.func51, Tryd.ntmps51
  go_wp2_with fail
  go_ret
  exact ⟨by rw [← E.out]; rfl, rfl⟩
set_option maxHeartbeats 800000 in
theorem slicesEqual_any {B0 B1 : Nat} (A0 A1 : Option Addr) (n m c d : Nat) (xs ys : List Int) (w : World) (h1 : Rds B0 w .i64 A0 n c xs) (h2 : Rds B1 w .i64 A1 m d ys) :
    Calls Tryd.prog 52 #[.slice A0 n c, .slice A1 m d] w fun e w' => e = .returned (.bool (decide (xs = ys))) ∧ Below w.heap.size w w' := by
  obtain ⟨D, hD⟩ : ∃ D, D = decide (xs = ys) := ⟨_, rfl⟩
  rw [← hD]
  have HD0 := Lib.hid hD
  clear hD
  by_cases hnm : n = m
  rotate_left
  · have HE : Hid (D = false) := by
      show _ = _
      rw [HD0.out]
      exact decide_eq_false fun k => hnm (by rw [← h1.len, ← h2.len, k])
    have hb : ((n : Int) != (m : Int)) = true := by simp; omega
    clear h1 h2 hnm
    go_enter Tryd.func52, Tryd.ntmps52
    go_wp2
    go_ret
    rw [HE.out]
    exact ⟨rfl, Below.refl _ _⟩
  subst hnm
  have Hn := Lib.hid h1.len
  have Hm := Lib.hid h2.len
  have Hx := Lib.hid h1.cell
  have Hy := Lib.hid h2.cell
  have hm : n ≤ 9223372036854775807 := Nat.le_trans h1.cap h1.max
  clear h1 h2
  go_enter Tryd.func52, Tryd.ntmps52
  go_wp2
  go_loopw [13] (fun i wr => ∃ k : Nat, k ≤ n ∧ i = .int .i64 k ∧ Hid (∀ j, j < k → nth xs j = nth ys j) ∧ ∃ q, wr = w.drewN q) (fun i _ => n - (intOf i).toNat)
  case atStart => exact ⟨0, Nat.zero_le _, rfl, fun j hj => by omega, 0, rfl⟩
  case round =>
    obtain ⟨k, hk, rfl, hq, q, rfl⟩ := hrel
    by_cases hlt : k < n
    · obtain ⟨b, o, rfl, hcx⟩ := RdI.at_ Hx.out (by have := Hn.out; omega)
      obtain ⟨b', o', rfl, hcy⟩ := RdI.at_ Hy.out (by have := Hm.out; omega)
      have g1 := hcx k (by have := Hn.out; omega)
      have g2 := hcy k (by have := Hm.out; omega)
      clear hcx hcy
      by_cases hz : nth xs k = nth ys k
      · have hz' : (nth xs k != nth ys k) = false := by simp [hz]
        have HZ := Lib.hid hz; clear hz
        go_wp2
        go_quiet (fail)
        go_wp2
        go_roundw
        case rel => exact ⟨k + 1, by omega, by go_num, fun j hj => by
          rcases Nat.lt_or_ge j k with h | h
          · exact hq.out j h
          · obtain rfl : j = k := by omega
            exact HZ.out, _, rfl⟩
        case measure => simp [intOf]; omega
      · have hz' : (nth xs k != nth ys k) = true := by simp [hz]
        have HE : Hid (D = false) := by
          show _ = _
          rw [HD0.out]
          exact decide_eq_false fun e => hz (by rw [e])
        clear hz
        go_wp2
        go_quiet (fail)
        go_wp2
        go_ret
        rw [HE.out]
        exact ⟨rfl, below_drewN (below_drewN (Below.refl _ _) _) _⟩
    · have HE : Hid (D = true) := by
        show _ = _
        rw [HD0.out]
        exact decide_eq_true (ext_nth (Hn.out.trans Hm.out.symm) fun j hj => hq.out j (by have := Hn.out; omega))
      go_wp2
      go_ret
      rw [HE.out]
      exact ⟨rfl, below_drewN (Below.refl _ _) _⟩
set_option maxHeartbeats 6400000 in
set_option maxRecDepth 100000 in
theorem told_any {B1 B2 : Nat} (p q : Par) (s t : ParS) (w : World) (h1 : ParAt B1 w p s) (h2 : ParAt B2 w q t) :
    Calls Tryd.prog 21 #[.agg (parCs p s), .agg (parCs q t)] w fun e w' => e = .returned (.bool (decide (sameP p q))) ∧ Below w.heap.size w w' := by
  obtain ⟨D, hD⟩ : ∃ D, D = decide (sameP p q) := ⟨_, rfl⟩
  rw [← hD]
  have HD0 := Lib.hid hD
  clear hD
  obtain ⟨W, hW⟩ : ∃ W, W = (w.alloc (.cells (parCs p s) 27)).alloc (.cells (parCs q t) 25) := ⟨_, rfl⟩
  have hbw : Below w.heap.size w W := by rw [hW]; exact below_pair _ _
  have HB := Lib.hid hbw
  have X := Lib.hid (show ParB W w.heap.size p s by rw [hW]; exact heap_alloc2_old w _ _)
  have Y := Lib.hid (show ParD W (w.heap.size + 1) q t by rw [hW]; exact heap_alloc2_new w _ _)
  have H1 := Lib.hid (h1.below hbw)
  have H2 := Lib.hid (h2.below hbw)
  clear h1 h2 hbw
  obtain ⟨idle, data, hg, ho, hr, goal, own, retry, chosen, vs⟩ := p
  obtain ⟨idle', data', hg', ho', hr', goal', own', retry', chosen', vs'⟩ := q
  unfold parCs at hW ⊢
  simp only at hW ⊢
  go_enter Tryd.func21, Tryd.ntmps21
  subst hW
  obtain ⟨⟨x0, x1, x2, x3, x4⟩, x5, x6, x7, x8, x9⟩ := X.out.ten
  obtain ⟨⟨y0, y1, y2, y3, y4⟩, y5, y6, y7, y8, y9⟩ := Y.out.ten
  simp only at x0 x1 x2 x3 x4 x5 x6 x7 x8 x9 y0 y1 y2 y3 y4 y5 y6 y7 y8 y9
  by_cases c0 : idle = idle'
  rotate_left
  · have HE : Hid (D = false) := by show _ = _; rw [HD0.out]; exact decide_eq_false fun h => c0 h.1
    have e0 : (idle != idle') = true := by simp [c0]
    clear c0
    go_wp2_with fail
    go_ret
    rw [HE.out]
    exact ⟨rfl, HB.out⟩
  subst c0
  by_cases c1 : data = data'
  rotate_left
  · have HE : Hid (D = false) := by show _ = _; rw [HD0.out]; exact decide_eq_false fun h => c1 h.2.1
    have e1 : (data != data') = true := by simp [c1]
    clear c1
    go_wp2_with fail
    go_ret
    rw [HE.out]
    exact ⟨rfl, HB.out⟩
  subst c1
  by_cases c2 : hg = hg'
  rotate_left
  · have HE : Hid (D = false) := by show _ = _; rw [HD0.out]; exact decide_eq_false fun h => c2 h.2.2.1
    obtain rfl : hg' = !hg := by cases hg <;> cases hg' <;> simp_all
    clear c2
    go_wp2_with fail
    go_ret
    rw [HE.out]
    exact ⟨rfl, HB.out⟩
  subst c2
  by_cases c3 : ho = ho'
  rotate_left
  · have HE : Hid (D = false) := by show _ = _; rw [HD0.out]; exact decide_eq_false fun h => c3 h.2.2.2.1
    obtain rfl : ho' = !ho := by cases ho <;> cases ho' <;> simp_all
    clear c3
    go_wp2_with fail
    go_ret
    rw [HE.out]
    exact ⟨rfl, HB.out⟩
  subst c3
  by_cases c4 : hr = hr'
  rotate_left
  · have HE : Hid (D = false) := by show _ = _; rw [HD0.out]; exact decide_eq_false fun h => c4 h.2.2.2.2.1
    obtain rfl : hr' = !hr := by cases hr <;> cases hr' <;> simp_all
    clear c4
    go_wp2_with fail
    go_ret
    rw [HE.out]
    exact ⟨rfl, HB.out⟩
  subst c4
  have key := same_any07 s.gA t.gA _ _ s.gc t.gc goal goal' _ H1.out.goal H2.out.goal
  simp only at key
  go_wp2_with fail
  refine key.mono ?_
  clear key
  rintro e w5 ⟨rfl, hb⟩
  have HWw5 := Lib.hid hb
  have HGw5 : Hid (Below w.heap.size w w5) := HB.out.trans (HWw5.out.mono HB.out.size)
  clear hb x0 x1 x2 x3 x4 x5 x6 x7 x8 x9 y0 y1 y2 y3 y4 y5 y6 y7 y8 y9
  obtain ⟨⟨x0, x1, x2, x3, x4⟩, x5, x6, x7, x8, x9⟩ := (X.out.later HWw5.out (lt_of_get X.out)).ten
  obtain ⟨⟨y0, y1, y2, y3, y4⟩, y5, y6, y7, y8, y9⟩ := (Y.out.later HWw5.out (lt_of_get Y.out)).ten
  simp only at x0 x1 x2 x3 x4 x5 x6 x7 x8 x9 y0 y1 y2 y3 y4 y5 y6 y7 y8 y9
  by_cases c5 : goal = goal'
  rotate_left
  · have HE : Hid (D = false) := by show _ = _; rw [HD0.out]; exact decide_eq_false fun h => c5 h.2.2.2.2.2.1
    rw [decide_eq_false c5]
    clear c5
    go_wp2_with fail
    go_ret
    rw [HE.out]
    exact ⟨rfl, HGw5.out⟩
  rw [decide_eq_true c5]
  have C5 := Lib.hid c5; clear c5
  have key := same_any07 s.oA t.oA _ _ s.oc t.oc own own' w5 (H1.out.below HWw5.out).own (H2.out.below HWw5.out).own
  simp only at key
  go_wp2_with fail
  refine key.mono ?_
  clear key
  rintro e w6 ⟨rfl, hb⟩
  have HWw6 := Lib.hid (below_next HWw5.out HWw5.out.size hb)
  have HGw6 : Hid (Below w.heap.size w w6) := HB.out.trans (HWw6.out.mono HB.out.size)
  clear hb x0 x1 x2 x3 x4 x5 x6 x7 x8 x9 y0 y1 y2 y3 y4 y5 y6 y7 y8 y9
  obtain ⟨⟨x0, x1, x2, x3, x4⟩, x5, x6, x7, x8, x9⟩ := (X.out.later HWw6.out (lt_of_get X.out)).ten
  obtain ⟨⟨y0, y1, y2, y3, y4⟩, y5, y6, y7, y8, y9⟩ := (Y.out.later HWw6.out (lt_of_get Y.out)).ten
  simp only at x0 x1 x2 x3 x4 x5 x6 x7 x8 x9 y0 y1 y2 y3 y4 y5 y6 y7 y8 y9
  by_cases c6 : own = own'
  rotate_left
  · have HE : Hid (D = false) := by show _ = _; rw [HD0.out]; exact decide_eq_false fun h => c6 h.2.2.2.2.2.2.1
    rw [decide_eq_false c6]
    clear c6
    go_wp2_with fail
    go_ret
    rw [HE.out]
    exact ⟨rfl, HGw6.out⟩
  rw [decide_eq_true c6]
  have C6 := Lib.hid c6; clear c6
  have key := same_any07 s.rA t.rA _ _ s.rc t.rc retry retry' w6 (H1.out.below HWw6.out).retry (H2.out.below HWw6.out).retry
  simp only at key
  go_wp2_with fail
  refine key.mono ?_
  clear key
  rintro e w7 ⟨rfl, hb⟩
  have HWw7 := Lib.hid (below_next HWw6.out HWw6.out.size hb)
  have HGw7 : Hid (Below w.heap.size w w7) := HB.out.trans (HWw7.out.mono HB.out.size)
  clear hb x0 x1 x2 x3 x4 x5 x6 x7 x8 x9 y0 y1 y2 y3 y4 y5 y6 y7 y8 y9
  obtain ⟨⟨x0, x1, x2, x3, x4⟩, x5, x6, x7, x8, x9⟩ := (X.out.later HWw7.out (lt_of_get X.out)).ten
  obtain ⟨⟨y0, y1, y2, y3, y4⟩, y5, y6, y7, y8, y9⟩ := (Y.out.later HWw7.out (lt_of_get Y.out)).ten
  simp only at x0 x1 x2 x3 x4 x5 x6 x7 x8 x9 y0 y1 y2 y3 y4 y5 y6 y7 y8 y9
  by_cases c7 : retry = retry'
  rotate_left
  · have HE : Hid (D = false) := by show _ = _; rw [HD0.out]; exact decide_eq_false fun h => c7 h.2.2.2.2.2.2.2.1
    rw [decide_eq_false c7]
    clear c7
    go_wp2_with fail
    go_ret
    rw [HE.out]
    exact ⟨rfl, HGw7.out⟩
  rw [decide_eq_true c7]
  have C7 := Lib.hid c7; clear c7
  by_cases c8 : chosen = chosen'
  rotate_left
  · have HE : Hid (D = false) := by show _ = _; rw [HD0.out]; exact decide_eq_false fun h => c8 h.2.2.2.2.2.2.2.2.1
    have e8 : (chosen != chosen') = true := by simp [c8]
    clear c8
    go_wp2_with fail
    go_ret
    rw [HE.out]
    exact ⟨rfl, HGw7.out⟩
  subst c8
  have HM : Hid (sameP ⟨idle, data, hg, ho, hr, goal, own, retry, chosen, vs⟩ ⟨idle, data, hg, ho, hr, goal', own', retry', chosen, vs'⟩ ↔ vs = vs') := ⟨fun h => h.2.2.2.2.2.2.2.2.2, fun h => ⟨rfl, rfl, rfl, rfl, rfl, C5.out, C6.out, C7.out, rfl, h⟩⟩
  have RX := Lib.hid ((H1.out.below HWw7.out).vs)
  have RY := Lib.hid ((H2.out.below HWw7.out).vs)
  by_cases c9 : vs.length = vs'.length
  rotate_left
  · have HE : Hid (D = false) := by show _ = _; rw [HD0.out]; exact decide_eq_false fun h => c9 (by rw [HM.out.1 h])
    have e9 : ((vs.length : Int) != (vs'.length : Int)) = true := by simp; omega
    clear c9
    go_wp2_with fail
    go_ret
    rw [HE.out]
    exact ⟨rfl, HGw7.out⟩
  have Hn := Lib.hid c9
  have hmx : vs'.length ≤ 9223372036854775807 := by have := RY.out.cap; have := RY.out.max; simp only at *; omega
  rw [c9] at x9
  have e9 : ((vs.length : Int) != (vs'.length : Int)) = false := by simp [c9]
  clear c9
  go_wp2_with fail
  clear x0 x1 x2 x3 x4 x5 x6 x7 x8 y0 y1 y2 y3 y4 y5 y6 y7 y8 e9
  go_loopw [5] (fun i wr => ∃ k : Nat, k ≤ vs'.length ∧ i = .int .i64 k ∧ Hid (∀ j, j < k → nth vs j = nth vs' j) ∧ ∃ q, wr = w7.drewN q) (fun i _ => vs'.length - (intOf i).toNat)
  case atStart => exact ⟨0, Nat.zero_le _, rfl, fun j hj => by omega, 0, rfl⟩
  case round =>
    obtain ⟨k, hk, rfl, hq, q, rfl⟩ := hrel
    by_cases hlt : k < vs'.length
    · obtain ⟨b, o, hA, hcx⟩ := RdI.at_ RX.out.cell (by have := Hn.out; omega)
      obtain ⟨b', o', hA', hcy⟩ := RdI.at_ RY.out.cell (by omega)
      try simp only at hA hA' hcx hcy
      have g1 := hcx k (by have := Hn.out; omega)
      have g2 := hcy k hlt
      rw [hA] at x9
      rw [hA'] at y9
      clear hcx hcy hA hA'
      by_cases hz : nth vs k = nth vs' k
      · have hz' : (nth vs k != nth vs' k) = false := by simp [hz]
        have HZ := Lib.hid hz; clear hz
        go_wp2_with fail
        go_quiet (fail)
        go_wp2_with fail
        go_roundw
        case rel => exact ⟨k + 1, by omega, by go_num, fun j hj => by
          rcases Nat.lt_or_ge j k with h | h
          · exact hq.out j h
          · obtain rfl : j = k := by omega
            exact HZ.out, _, rfl⟩
        case measure => simp [intOf]; omega
      · have hz' : (nth vs k != nth vs' k) = true := by simp [hz]
        have HE : Hid (D = false) := by
          show _ = _
          rw [HD0.out]
          exact decide_eq_false fun e => hz (by rw [HM.out.1 e])
        clear hz
        go_wp2_with fail
        go_quiet (fail)
        go_wp2_with fail
        go_ret
        rw [HE.out]
        exact ⟨rfl, below_drewN (below_drewN HGw7.out _) _⟩
    · have HE : Hid (D = true) := by
        show _ = _
        rw [HD0.out]
        exact decide_eq_true (HM.out.2 (ext_nth Hn.out fun j hj => hq.out j (by have := Hn.out; omega)))
      go_wp2_with fail
      go_ret
      rw [HE.out]
      exact ⟨rfl, below_drewN HGw7.out _⟩
end Go.Proofs.YtbfgoojpbhlboaaDoor
