/- KnowNone: the walk. No condition. -/
import Derived.Test.YtmaedahleenlgaaLaw03
import Derived.Test.YtmaedahleenlgaaRow03
set_option linter.unusedVariables false
set_option linter.unusedSimpArgs false
namespace Go.Proofs.Ytmaedahleenlgaa
open Go Go.RowKit Go.WideMaps

theorem knB_none (S : Int → Prop) (b : Bool) (h : Int) : knB [] S b h = false := by
  cases e : knB [] S b h with
  | false => rfl
  | true => have := (knB_true.1 e).there wfT_nil; simp at this; omega
theorem knL_none (S : Int → Prop) : knL [] S = [] := rfl
set_option maxHeartbeats 3200000 in
set_option maxRecDepth 100000 in
theorem knone_any {B' : Nat} (A : Option Addr) (n c : Nat) (xs : List Int) (h : Int) (hh : h ≤ 9223372036854775807) (w : World) (hr : Rds B' w .i64 A n c xs) :
    Calls Try.prog 8 #[.slice A n c, .int .i64 h] w (AwakePost w) := by
  have hl := Lib.hid hr.len
  have HR := Lib.hid hr
  have hnc := hr.cap
  have hcm := hr.max
  clear hr
  go_enter Try.func8, Try.ntmps8
  by_cases hb : 20 < n
  · go_wp2_with fail
    go_ret
    exact ⟨rfl, Below.refl _ _⟩
  have hn6 : n ≤ 1000000 := by omega
  go_wp2_with fail
  refine (terms3_any A n c xs w HR.out hn6).mono ?_
  rintro e w1 ⟨A1, c1, rfl, ho1, hb1⟩
  have HB1 := Lib.hid hb1
  clear ho1 hb1
  go_wp2_with fail
  refine (learn_nil _ w1).mono ?_
  rintro e w1' ⟨rfl, rfl⟩
  go_wp2_with fail
  refine (knew_any (w.heap.size) none w1' HB1.out.size).mono ?_
  rintro e w2 ⟨rfl, hm, hb2⟩
  have HM2 := Lib.hid (MindV.new wfT_nil hm)
  have HB2 := Lib.hid (HB1.out.trans (hb2.mono HB1.out.size))
  have hq2 := hm.lt
  clear hm hb2
  go_wp2_with fail
  refine (terms3_any A n c xs w2 (HR.out.below HB2.out) hn6).mono ?_
  rintro e w3 ⟨A3, c3, rfl, ho3, hb3⟩
  have HB3 := Lib.hid (HB2.out.trans (hb3.mono HB2.out.size))
  have HM3 := Lib.hid (HM2.out.below hb3)
  have hr3 := ho3.rds (B' := 0)
  have hle3 := hr3.cap
  have HR3 : Hid (Rds 0 w3 .i64 A3 xs.length c3 xs) := by rw [hl.out]; exact hr3
  have hlx : xs.length ≤ 1000000 := by rw [hl.out]; exact hn6
  clear ho3 hb3 hr3
  have key := vlearn_any xs A3 c3 w3 HM3.out (.inl ⟨rfl, rfl⟩) HR3.out hlx
  rw [hl.out] at key
  go_wp2_with fail
  refine key.mono ?_
  clear key
  rintro e w4 ⟨rfl, u1, u2, hk4⟩
  have HB4 := Lib.hid (HB3.out.trans (hk4.below HM3.out))
  have HM4 := Lib.hid hk4.m
  clear hk4
  go_wp2_with fail
  refine (can_nil h w4).mono ?_
  rintro e w4' ⟨rfl, rfl⟩
  go_wp2_with fail
  refine (knows_nil w4').mono ?_
  rintro e w5 ⟨rfl, hb5⟩
  have HM5 := Lib.hid (HM4.out.below hb5)
  have HB5 := Lib.hid (HB4.out.trans (hb5.mono HB4.out.size))
  clear hb5
  go_wp2_with fail
  refine (vcan_any h hh w5 HM5.out (.inl ⟨rfl, rfl⟩)).mono ?_
  rintro e w6 ⟨he, x1, x2, hk6⟩
  rw [knB_none] at he
  subst he
  have HB6 := Lib.hid (HB5.out.trans (hk6.below HM5.out))
  have HM6 := Lib.hid hk6.m
  clear hk6
  go_wp2_with fail
  refine (vknows_any w6 HM6.out (.inl ⟨rfl, rfl⟩)).mono ?_
  rintro e w7 ⟨A7, c7, he, ho7, y1, y2, hk7⟩
  rw [knL_none] at he
  subst he
  have HB7 := Lib.hid (HB6.out.trans (hk7.below HM6.out))
  clear hk7 ho7
  go_wp2_with fail
  refine (terms3_any A n c xs w7 (HR.out.below HB7.out) hn6).mono ?_
  rintro e w8 ⟨A8, c8, rfl, ho8, hb8⟩
  have HB8 := Lib.hid (HB7.out.trans (hb8.mono HB7.out.size))
  have hr8 := ho8.rds (B' := 0)
  have HR8 : Hid (Rds 0 w8 .i64 A8 xs.length c8 xs) := by rw [hl.out]; exact hr8
  clear ho8 hb8 hr8
  have key := closed_any (B := w.heap.size) (tp := none) (T := []) xs A8 c8 w8 (.inl ⟨rfl, rfl⟩) HB8.out.size HR8.out hlx
  rw [hl.out, knL_none] at key
  go_wp2_with fail
  refine key.mono ?_
  clear key
  rintro e w9 ⟨A9, c9, rfl, ho9, hb9⟩
  have HB9 := Lib.hid (HB8.out.trans (hb9.mono HB8.out.size))
  clear ho9 hb9
  go_wp2_with fail
  refine (terms3_any A n c xs w9 (HR.out.below HB9.out) hn6).mono ?_
  rintro e wa ⟨Aa, ca, rfl, hoa, hba⟩
  have HBa := Lib.hid (HB9.out.trans (hba.mono HB9.out.size))
  have hra := hoa.rds (B' := 0)
  have HRa : Hid (Rds 0 wa .i64 Aa xs.length ca xs) := by rw [hl.out]; exact hra
  clear hoa hba hra
  have key := kcan_any (B := w.heap.size) (tp := none) (T := []) xs Aa ca h hh wa (.inl ⟨rfl, rfl⟩) HBa.out.size HRa.out hlx
  rw [hl.out, knB_none] at key
  go_wp2_with fail
  refine key.mono ?_
  clear key
  rintro e wb ⟨rfl, hbb⟩
  have HBb := Lib.hid (HBa.out.trans (hbb.mono HBa.out.size))
  clear hbb
  go_wp2_with fail
  refine (awake03_any wb).mono ?_
  rintro e wc ⟨rfl, hbc⟩
  have HBc := Lib.hid (HBb.out.trans (hbc.mono HBb.out.size))
  go_wp2_with fail
  go_ret
  exact ⟨rfl, HBc.out⟩
theorem knone_row {A : Option Addr} {n c : Nat} (w : World) (h0 : IntsArg w A n c) (h : Int) (hh : (Lit.int .i64 h).wf = true) : Calls Try.prog 8 #[.slice A n c, .int .i64 h] w (AwakePost w) := by
  obtain ⟨xs, hr, -⟩ := h0
  exact knone_any A n c xs h (wf_i64 hh).2 w hr
end Go.Proofs.Ytmaedahleenlgaa
