/- Own texts, one behind the other. Each bears its own remark. -/
import Derived.Test.YtomopjpfdmpgpaaLaw08
/- retried of the laws of layer 8. No condition. -/
set_option linter.unusedVariables false
set_option linter.unusedSimpArgs false
namespace Go.Proofs.Ytomopjpfdmpgpaa
open Go Go.RowKit

set_option maxHeartbeats 1600000 in
set_option maxRecDepth 100000 in
theorem retried_any {B1 B2 B3 B4 : Nat} (ver token tag ver' token' tag' : Int) (A1 A2 A3 A4 : Option Addr) (n1 n2 n3 n4 c1 c2 c3 c4 : Nat) (ts fr ts' fr' : List Int) (w : World)
    (h1 : Rds B1 w .u8 A1 n1 c1 ts) (h2 : Rds B2 w .u8 A2 n2 c2 fr) (h3 : Rds B3 w .u8 A3 n3 c3 ts') (h4 : Rds B4 w .u8 A4 n4 c4 fr') :
    Calls Try.prog 11 #[.agg #[.int .i64 ver, .slice A1 n1 c1, .slice A2 n2 c2, .int .i64 token, .int .i64 tag], .agg #[.int .i64 ver', .slice A3 n3 c3, .slice A4 n4 c4, .int .i64 token', .int .i64 tag']] w
      fun e w' => e = .returned (.bool (decide (ver = ver' ∧ ts = ts' ∧ fr = fr' ∧ token = token' ∧ tag = tag'))) ∧ Below w.heap.size w w' := by
  obtain ⟨D, hD⟩ : ∃ D, D = decide (ver = ver' ∧ ts = ts' ∧ fr = fr' ∧ token = token' ∧ tag = tag') := ⟨_, rfl⟩
  rw [← hD]
  have HD0 := Lib.hid hD
  clear hD
  obtain ⟨W, hW⟩ : ∃ W, W = (w.alloc (.cells #[.int .i64 ver, .slice A1 n1 c1, .slice A2 n2 c2, .int .i64 token, .int .i64 tag] 34)).alloc (.cells #[.int .i64 ver', .slice A3 n3 c3, .slice A4 n4 c4, .int .i64 token', .int .i64 tag'] 38) := ⟨_, rfl⟩
  have HBW : Hid (Below w.heap.size w W) := by rw [hW]; exact below_pair _ _
  have HSW : Hid (W.heap.size = w.heap.size + 2) := by rw [hW]; show _ = _; simp
  have H1 := Lib.hid (h1.below HBW.out)
  have H2 := Lib.hid (h2.below HBW.out)
  have H3 := Lib.hid (h3.below HBW.out)
  have H4 := Lib.hid (h4.below HBW.out)
  clear h1 h2 h3 h4
  go_enter Try.func11, Try.ntmps11
  by_cases hv : ver = ver'
  rotate_left
  · have HE : Hid (D = false) := by show _ = _; rw [HD0.out]; simp [hv]
    have hvb : (ver == ver') = false := by simp [hv]
    clear hv
    go_wp2_with fail
    go_ret
    rw [HE.out, ← hW]
    exact ⟨rfl, HBW.out⟩
  have hvb : (ver == ver') = true := by simp [hv]
  have HV := Lib.hid hv
  have x2 : W.cell? ⟨w.heap.size, 2, none⟩ = some (.slice A2 n2 c2) := by rw [hW]; simp [go_sem]
  have x3 : W.cell? ⟨w.heap.size, 3, none⟩ = some (.int .i64 token) := by rw [hW]; simp [go_sem]
  have x4 : W.cell? ⟨w.heap.size, 4, none⟩ = some (.int .i64 tag) := by rw [hW]; simp [go_sem]
  have y2 : W.cell? ⟨w.heap.size + 1, 2, none⟩ = some (.slice A4 n4 c4) := by rw [hW]; simp [go_sem]
  have y3 : W.cell? ⟨w.heap.size + 1, 3, none⟩ = some (.int .i64 token') := by rw [hW]; simp [go_sem]
  have y4 : W.cell? ⟨w.heap.size + 1, 4, none⟩ = some (.int .i64 tag') := by rw [hW]; simp [go_sem]
  have key := same_any08 A1 A3 n1 n3 c1 c3 ts ts' W H1.out H3.out
  clear hv
  go_wp2_with fail
  rw [← hW]
  clear hW
  refine key.mono ?_
  clear key
  rintro e w1 ⟨rfl, hb1⟩
  replace x2 := later_cell hb1 x2 (by simp; have := HSW.out; omega)
  replace x3 := later_cell hb1 x3 (by simp; have := HSW.out; omega)
  replace x4 := later_cell hb1 x4 (by simp; have := HSW.out; omega)
  replace y2 := later_cell hb1 y2 (by simp; have := HSW.out; omega)
  replace y3 := later_cell hb1 y3 (by simp; have := HSW.out; omega)
  replace y4 := later_cell hb1 y4 (by simp; have := HSW.out; omega)
  have HB1 := Lib.hid (HBW.out.trans (hb1.mono (by have := HSW.out; omega)))
  have HS1 : Hid (w.heap.size + 2 ≤ w1.heap.size) := by show _ ≤ _; have := HSW.out; have := hb1.size; omega
  by_cases hts : ts = ts'
  rotate_left
  · have HE : Hid (D = false) := by show _ = _; rw [HD0.out]; simp [hts]
    rw [decide_eq_false hts]
    clear hts hb1 x2 x3 x4 y2 y3 y4
    go_wp2_with fail
    go_ret
    rw [HE.out]
    exact ⟨rfl, HB1.out⟩
  rw [decide_eq_true hts]
  have HTS := Lib.hid hts
  have key := same_any08 A2 A4 n2 n4 c2 c4 fr fr' w1 (H2.out.below hb1) (H4.out.below hb1)
  clear hts hb1
  go_wp2_with fail
  refine key.mono ?_
  clear key
  rintro e w2 ⟨rfl, hb2⟩
  replace x3 := later_cell hb2 x3 (by simp; have := HS1.out; omega)
  replace x4 := later_cell hb2 x4 (by simp; have := HS1.out; omega)
  replace y3 := later_cell hb2 y3 (by simp; have := HS1.out; omega)
  replace y4 := later_cell hb2 y4 (by simp; have := HS1.out; omega)
  have HB2 := Lib.hid (below_next HB1.out HB1.out.size hb2)
  clear hb2 x2 y2
  by_cases hfr : fr = fr'
  rotate_left
  · have HE : Hid (D = false) := by show _ = _; rw [HD0.out]; simp [hfr]
    rw [decide_eq_false hfr]
    clear hfr
    go_wp2_with fail
    go_ret
    rw [HE.out]
    exact ⟨rfl, HB2.out⟩
  rw [decide_eq_true hfr]
  have HFR := Lib.hid hfr
  clear hfr
  by_cases hto : token = token'
  rotate_left
  · have HE : Hid (D = false) := by show _ = _; rw [HD0.out]; simp [hto]
    have hb : (token == token') = false := by simp [hto]
    clear hto
    go_wp2_with fail
    go_ret
    rw [HE.out]
    exact ⟨rfl, HB2.out⟩
  have hb : (token == token') = true := by simp [hto]
  have HTO := Lib.hid hto
  clear hto
  by_cases hta : tag = tag'
  rotate_left
  · have HE : Hid (D = false) := by show _ = _; rw [HD0.out]; simp [hta]
    have hb' : (tag == tag') = false := by simp [hta]
    clear hta
    go_wp2_with fail
    go_ret
    rw [HE.out]
    exact ⟨rfl, HB2.out⟩
  · have HE : Hid (D = true) := by show _ = _; rw [HD0.out]; simp [hta, HV.out, HTS.out, HFR.out, HTO.out]
    have hb' : (tag == tag') = true := by simp [hta]
    clear hta
    go_wp2_with fail
    go_ret
    rw [HE.out]
    exact ⟨rfl, HB2.out⟩
theorem retried_yes {B1 B2 B3 B4 : Nat} (ver token tag ver' token' tag' : Int) (A1 A2 A3 A4 : Option Addr) (n1 n2 n3 n4 c1 c2 c3 c4 : Nat) (ts fr ts' fr' : List Int) (w : World)
    (h1 : Rds B1 w .u8 A1 n1 c1 ts) (h2 : Rds B2 w .u8 A2 n2 c2 fr) (h3 : Rds B3 w .u8 A3 n3 c3 ts') (h4 : Rds B4 w .u8 A4 n4 c4 fr') (h : ver = ver' ∧ ts = ts' ∧ fr = fr' ∧ token = token' ∧ tag = tag') :
    Calls Try.prog 11 #[.agg #[.int .i64 ver, .slice A1 n1 c1, .slice A2 n2 c2, .int .i64 token, .int .i64 tag], .agg #[.int .i64 ver', .slice A3 n3 c3, .slice A4 n4 c4, .int .i64 token', .int .i64 tag']] w fun e w' => e = .returned (.bool true) ∧ Below w.heap.size w w' := by
  have hd : decide (ver = ver' ∧ ts = ts' ∧ fr = fr' ∧ token = token' ∧ tag = tag') = true := decide_eq_true h
  have key := retried_any ver token tag ver' token' tag' A1 A2 A3 A4 n1 n2 n3 n4 c1 c2 c3 c4 ts fr ts' fr' w h1 h2 h3 h4
  rw [hd] at key
  exact key
theorem retried_no {B1 B2 B3 B4 : Nat} (ver token tag ver' token' tag' : Int) (A1 A2 A3 A4 : Option Addr) (n1 n2 n3 n4 c1 c2 c3 c4 : Nat) (ts fr ts' fr' : List Int) (w : World)
    (h1 : Rds B1 w .u8 A1 n1 c1 ts) (h2 : Rds B2 w .u8 A2 n2 c2 fr) (h3 : Rds B3 w .u8 A3 n3 c3 ts') (h4 : Rds B4 w .u8 A4 n4 c4 fr') (h : ¬ (ver = ver' ∧ ts = ts' ∧ fr = fr' ∧ token = token' ∧ tag = tag')) :
    Calls Try.prog 11 #[.agg #[.int .i64 ver, .slice A1 n1 c1, .slice A2 n2 c2, .int .i64 token, .int .i64 tag], .agg #[.int .i64 ver', .slice A3 n3 c3, .slice A4 n4 c4, .int .i64 token', .int .i64 tag']] w fun e w' => e = .returned (.bool false) ∧ Below w.heap.size w w' := by
  have hd : decide (ver = ver' ∧ ts = ts' ∧ fr = fr' ∧ token = token' ∧ tag = tag') = false := decide_eq_false h
  have key := retried_any ver token tag ver' token' tag' A1 A2 A3 A4 n1 n2 n3 n4 c1 c2 c3 c4 ts fr ts' fr' w h1 h2 h3 h4
  rw [hd] at key
  exact key
end Go.Proofs.Ytomopjpfdmpgpaa

/- listed of the laws of layer 8. No condition. -/
set_option linter.unusedVariables false
set_option linter.unusedSimpArgs false
namespace Go.Proofs.Ytomopjpfdmpgpaa
open Go Go.RowKit

set_option maxHeartbeats 1600000 in
set_option maxRecDepth 100000 in
theorem listed_any {B1 B2 B3 B4 B5 B6 : Nat} (A1 A2 A3 A4 A5 A6 : Option Addr) (n1 n2 n3 n4 n5 n6 c1 c2 c3 c4 c5 c6 : Nat) (ts fr vs ts' fr' vs' : List Int) (w : World)
    (h1 : Rds B1 w .u8 A1 n1 c1 ts) (h2 : Rds B2 w .u8 A2 n2 c2 fr) (h3 : Rds B3 w .i64 A3 n3 c3 vs) (h4 : Rds B4 w .u8 A4 n4 c4 ts') (h5 : Rds B5 w .u8 A5 n5 c5 fr') (h6 : Rds B6 w .i64 A6 n6 c6 vs') :
    Calls Try.prog 10 #[.agg #[.slice A1 n1 c1, .slice A2 n2 c2, .slice A3 n3 c3], .agg #[.slice A4 n4 c4, .slice A5 n5 c5, .slice A6 n6 c6]] w
      fun e w' => e = .returned (.bool (decide (ts = ts' ∧ fr = fr' ∧ vs = vs'))) ∧ Below w.heap.size w w' := by
  obtain ⟨D, hD⟩ : ∃ D, D = decide (ts = ts' ∧ fr = fr' ∧ vs = vs') := ⟨_, rfl⟩
  rw [← hD]
  have HD0 := Lib.hid hD
  clear hD
  obtain ⟨W, hW⟩ : ∃ W, W = (w.alloc (.cells #[.slice A1 n1 c1, .slice A2 n2 c2, .slice A3 n3 c3] 25)).alloc (.cells #[.slice A4 n4 c4, .slice A5 n5 c5, .slice A6 n6 c6] 29) := ⟨_, rfl⟩
  have HBW : Hid (Below w.heap.size w W) := by rw [hW]; exact below_pair _ _
  have HSW : Hid (W.heap.size = w.heap.size + 2) := by rw [hW]; show _ = _; simp
  have H1 := Lib.hid (h1.below HBW.out)
  have H2 := Lib.hid (h2.below HBW.out)
  have H3 := Lib.hid (h3.below HBW.out)
  have H4 := Lib.hid (h4.below HBW.out)
  have H5 := Lib.hid (h5.below HBW.out)
  have H6 := Lib.hid (h6.below HBW.out)
  have x1 : W.cell? ⟨w.heap.size, 1, none⟩ = some (.slice A2 n2 c2) := by rw [hW]; simp [go_sem]
  have x2 : W.cell? ⟨w.heap.size, 2, none⟩ = some (.slice A3 n3 c3) := by rw [hW]; simp [go_sem]
  have y1 : W.cell? ⟨w.heap.size + 1, 1, none⟩ = some (.slice A5 n5 c5) := by rw [hW]; simp [go_sem]
  have y2 : W.cell? ⟨w.heap.size + 1, 2, none⟩ = some (.slice A6 n6 c6) := by rw [hW]; simp [go_sem]
  clear h1 h2 h3 h4 h5 h6
  have key := same_any08 A1 A4 n1 n4 c1 c4 ts ts' W H1.out H4.out
  go_enter Try.func10, Try.ntmps10
  go_wp2_with fail
  rw [← hW]
  clear hW
  refine key.mono ?_
  clear key
  rintro e w1 ⟨rfl, hb1⟩
  replace x1 := later_cell hb1 x1 (by simp; have := HSW.out; omega)
  replace x2 := later_cell hb1 x2 (by simp; have := HSW.out; omega)
  replace y1 := later_cell hb1 y1 (by simp; have := HSW.out; omega)
  replace y2 := later_cell hb1 y2 (by simp; have := HSW.out; omega)
  have HB1 := Lib.hid (HBW.out.trans (hb1.mono (by have := HSW.out; omega)))
  have HS1 : Hid (w.heap.size + 2 ≤ w1.heap.size) := by show _ ≤ _; have := HSW.out; have := hb1.size; omega
  have J3 := Lib.hid (H3.out.below hb1)
  have J6 := Lib.hid (H6.out.below hb1)
  by_cases hts : ts = ts'
  rotate_left
  · have HE : Hid (D = false) := by show _ = _; rw [HD0.out]; simp [hts]
    rw [decide_eq_false hts]
    clear hts hb1
    go_wp2_with fail
    go_ret
    rw [HE.out]
    exact ⟨rfl, HB1.out⟩
  rw [decide_eq_true hts]
  have HTS := Lib.hid hts
  have key := same_any08 A2 A5 n2 n5 c2 c5 fr fr' w1 (H2.out.below hb1) (H5.out.below hb1)
  clear hts hb1
  go_wp2_with fail
  refine key.mono ?_
  clear key
  rintro e w2 ⟨rfl, hb2⟩
  replace x2 := later_cell hb2 x2 (by simp; have := HS1.out; omega)
  replace y2 := later_cell hb2 y2 (by simp; have := HS1.out; omega)
  have HB2 := Lib.hid (below_next HB1.out HB1.out.size hb2)
  have K3 := Lib.hid (J3.out.below hb2)
  have K6 := Lib.hid (J6.out.below hb2)
  clear hb2 x1 y1
  by_cases hfr : fr = fr'
  rotate_left
  · have HE : Hid (D = false) := by show _ = _; rw [HD0.out]; simp [hfr]
    rw [decide_eq_false hfr]
    clear hfr
    go_wp2_with fail
    go_ret
    rw [HE.out]
    exact ⟨rfl, HB2.out⟩
  rw [decide_eq_true hfr]
  have HFR := Lib.hid hfr
  clear hfr
  by_cases hln : n3 = n6
  rotate_left
  · have HE : Hid (D = false) := by
      show _ = _
      rw [HD0.out, decide_eq_false]
      rintro ⟨-, -, e⟩
      exact hln (by rw [← K3.out.len, ← K6.out.len, e])
    have hb : ((n3 : Int) != (n6 : Int)) = true := by simp; omega
    clear hln
    go_wp2_with fail
    go_ret
    rw [HE.out]
    exact ⟨rfl, HB2.out⟩
  subst hln
  have Hn := Lib.hid K3.out.len
  have Hm := Lib.hid K6.out.len
  have Hx := Lib.hid K3.out.cell
  have Hy := Lib.hid K6.out.cell
  have hm : n3 ≤ 9223372036854775807 := Nat.le_trans K3.out.cap K3.out.max
  have X2 := Lib.hid x2
  have Y2 := Lib.hid y2
  go_wp2
  go_loopw [5] (fun i wr => ∃ k : Nat, k ≤ n3 ∧ i = .int .i64 k ∧ Hid (∀ j, j < k → nth vs j = nth vs' j) ∧ ∃ q, wr = w2.drewN q) (fun i _ => n3 - (intOf i).toNat)
  case atStart => exact ⟨0, Nat.zero_le _, rfl, fun j hj => by omega, 0, rfl⟩
  case round =>
    obtain ⟨k, hk, rfl, hq, q, rfl⟩ := hrel
    by_cases hlt : k < n3
    · obtain ⟨b, o, rfl, hcx⟩ := RdI.at_ Hx.out (by have := Hn.out; omega)
      obtain ⟨b', o', rfl, hcy⟩ := RdI.at_ Hy.out (by have := Hm.out; omega)
      have g1 := hcx k (by have := Hn.out; omega)
      have g2 := hcy k (by have := Hm.out; omega)
      clear hcx hcy
      by_cases hz : nth vs k = nth vs' k
      · have hz' : (nth vs k != nth vs' k) = false := by simp [hz]
        have HZ := Lib.hid hz; clear hz
        go_wp2
        go_quiet (fail)
        go_wp2
        go_roundw
        case rel => exact ⟨k + 1, by omega, by go_num, fun j hj => by
          rcases Nat.lt_or_ge j k with h | h
          · exact hq.out j h
          · obtain rfl : j = k := by omega
            exact HZ.out, _, rfl⟩
        case measure => simp [intOf]; omega
      · have hz' : (nth vs k != nth vs' k) = true := by simp [hz]
        have HZ := Lib.hid hz; clear hz
        have HE : Hid (D = false) := by
          show _ = _
          rw [HD0.out, decide_eq_false]
          rintro ⟨-, -, e⟩
          exact HZ.out (by rw [e])
        go_wp2
        go_quiet (fail)
        go_wp2
        go_ret
        rw [HE.out]
        exact ⟨rfl, below_drewN (below_drewN HB2.out _) _⟩
    · have HE : Hid (D = true) := by
        show _ = _
        rw [HD0.out, decide_eq_true]
        exact ⟨HTS.out, HFR.out, ext_nth (Hn.out.trans Hm.out.symm) fun j hj => hq.out j (by have := Hn.out; omega)⟩
      go_wp2
      go_ret
      rw [HE.out]
      exact ⟨rfl, below_drewN HB2.out _⟩
theorem listed_yes {B1 B2 B3 B4 B5 B6 : Nat} (A1 A2 A3 A4 A5 A6 : Option Addr) (n1 n2 n3 n4 n5 n6 c1 c2 c3 c4 c5 c6 : Nat) (ts fr vs : List Int) (w : World)
    (h1 : Rds B1 w .u8 A1 n1 c1 ts) (h2 : Rds B2 w .u8 A2 n2 c2 fr) (h3 : Rds B3 w .i64 A3 n3 c3 vs) (h4 : Rds B4 w .u8 A4 n4 c4 ts) (h5 : Rds B5 w .u8 A5 n5 c5 fr) (h6 : Rds B6 w .i64 A6 n6 c6 vs) :
    Calls Try.prog 10 #[.agg #[.slice A1 n1 c1, .slice A2 n2 c2, .slice A3 n3 c3], .agg #[.slice A4 n4 c4, .slice A5 n5 c5, .slice A6 n6 c6]] w fun e w' => e = .returned (.bool true) ∧ Below w.heap.size w w' := by
  have key := listed_any A1 A2 A3 A4 A5 A6 n1 n2 n3 n4 n5 n6 c1 c2 c3 c4 c5 c6 ts fr vs ts fr vs w h1 h2 h3 h4 h5 h6
  rw [decide_eq_true (show ts = ts ∧ fr = fr ∧ vs = vs from ⟨rfl, rfl, rfl⟩)] at key
  exact key
end Go.Proofs.Ytomopjpfdmpgpaa
