/- The example of layer 4, and the walk of IdealBytes. No condition. -/
import Derived.Test.YtoelbhmgmlnieaaIdeal4
import Derived.OpenShut
set_option linter.unusedVariables false
set_option linter.unusedSimpArgs false
namespace Go.Proofs.Ytoelbhmgmlnieaa
open Go Go.RowKit

set_option maxHeartbeats 1600000 in
theorem awake04 (w : World) : Calls Try.prog 24 #[] w fun e w' => e = .returned (.bool true) ∧ Below w.heap.size w w' := by
  go_enter Try.func24, Try.ntmps24
  go_wp2_with fail
  refine (wrap_any 258 1 w (by decide) (by decide)).mono ?_
  rintro e w1 ⟨v, rfl, hv, hb1⟩
  obtain ⟨A, c, rfl, hr⟩ := hv.rd (B' := 0)
  have hl : (wrapB 258 1).length = 17 := by decide
  obtain ⟨b, o, rfl, hc⟩ := hr.cell.at_ (by rw [hl]; decide)
  have c2 := hc 2 (by rw [hl]; decide)
  have c3 := hc 3 (by rw [hl]; decide)
  have c16 := hc 16 (by rw [hl]; decide)
  rw [show nth (wrapB 258 1) 2 = 1 from by decide] at c2
  rw [show nth (wrapB 258 1) 3 = 2 from by decide] at c3
  rw [show nth (wrapB 258 1) 16 = 0 from by decide] at c16
  rw [hl]
  have Hv := Lib.hid hv
  clear hv hr hc hl
  go_wp2_with fail
  go_ret
  exact ⟨rfl, hb1⟩

theorem unwrap_ok (xs : List Int) : ((unwrap xs).2.2 == ((unwrap xs).1 != 0)) = true := by
  unfold unwrap
  split
  · rename_i h
    simp [h.2.2.1]
  · rfl
set_option maxHeartbeats 3200000 in
theorem idealBytes_walk (h n : Int) (A : Option Addr) (l c : Nat) (xs : List Int) (w : World) (hn0 : -9223372036854775808 ≤ n) (hn1 : n ≤ 9223372036854775807) (hr : Rds w.heap.size w .u8 A l c xs) (hb : Byt xs) :
    Calls Try.prog 3 #[.int .i64 h, .int .i64 n, .slice A l c] w fun e w' => e = .returned (.bool true) ∧ Below w.heap.size w w' := by
  have hc := hr.cap
  have hm := hr.max
  by_cases hl : 1300 < l
  · have H := Lib.hid hr; clear hr
    have HB := Lib.hid hb; clear hb
    go_enter Try.func3, Try.ntmps3
    go_wp2_with fail
    go_ret
    exact ⟨rfl, Below.refl _ _⟩
  have H := Lib.hid hr; clear hr
  have HB := Lib.hid hb; clear hb
  have u1 := unwrap_ok xs
  go_enter Try.func3, Try.ntmps3
  go_wp2_with fail
  refine (unwrap_any A l c xs w H.out HB.out).mono ?_
  rintro e w1 ⟨rfl, hb1⟩
  go_wp2_with fail
  refine (runwrap_any A l c xs w1 (H.out.below hb1) HB.out).mono ?_
  rintro e w2 ⟨rfl, hb2'⟩
  have hb2 := below_step hb1 hb2'; clear hb2'
  go_wp2_with fail
  refine (numbered_any A l c xs w2 (H.out.below hb2) HB.out).mono ?_
  rintro e w3 ⟨rfl, hb3'⟩
  have hb3 := below_step hb2 hb3'; clear hb3'
  go_wp2_with fail
  refine (rnumbered_any A l c xs w3 (H.out.below hb3) HB.out).mono ?_
  rintro e w4 ⟨rfl, hb4'⟩
  have hb4 := below_step hb3 hb4'; clear hb4'
  go_wp2_with fail
  refine (number_any h w4).mono ?_
  rintro e w5 ⟨v5, rfl, hv5, hb5'⟩
  have hb5 := below_step hb4 hb5'; clear hb5'
  obtain ⟨A5, c5, rfl, hr5⟩ := hv5.rd (B' := 0)
  clear hv5
  have H5 := Lib.hid hr5; clear hr5
  go_wp2_with fail
  refine (rnumber_any h w5).mono ?_
  rintro e w6 ⟨v6, rfl, hv6, hb6'⟩
  have hb6 := below_step hb5 hb6'
  obtain ⟨A6, c6, rfl, hr6⟩ := hv6.rd (B' := 0)
  clear hv6
  have H6 := Lib.hid hr6; clear hr6
  go_wp2_with fail
  refine (same_any04 A5 A6 _ _ c5 c6 _ _ w6 (H5.out.below hb6') H6.out).mono ?_
  rintro e w7 ⟨rfl, hb7'⟩
  have hb7 := below_step hb6 hb7'; clear hb7' hb6'
  rw [decide_eq_true rfl]
  go_wp2_with fail
  refine (wrap_any h n w7 hn0 hn1).mono ?_
  rintro e w8 ⟨v8, rfl, hv8, hb8'⟩
  have hb8 := below_step hb7 hb8'; clear hb8'
  obtain ⟨A8, c8, rfl, hr8⟩ := hv8.rd (B' := 0)
  clear hv8
  have H8 := Lib.hid hr8; clear hr8
  go_wp2_with fail
  refine (rwrap_any h n w8 hn0 hn1).mono ?_
  rintro e w9 ⟨v9, rfl, hv9, hb9'⟩
  have hb9 := below_step hb8 hb9'
  obtain ⟨A9, c9, rfl, hr9⟩ := hv9.rd (B' := 0)
  clear hv9
  have H9 := Lib.hid hr9; clear hr9
  go_wp2_with fail
  refine (same_any04 A8 A9 _ _ c8 c9 _ _ w9 (H8.out.below hb9') H9.out).mono ?_
  rintro e w10 ⟨rfl, hb10'⟩
  have hb10 := below_step hb9 hb10'; clear hb10' hb9'
  rw [decide_eq_true rfl]
  go_wp2_with fail
  refine (awake04 w10).mono ?_
  rintro e w11 ⟨rfl, hb11'⟩
  have hb11 := below_step hb10 hb11'; clear hb11'
  go_wp2_with fail
  go_ret
  exact ⟨rfl, hb11⟩

theorem idealBytes_row {A : Option Addr} {l c : Nat} (w : World) (h : Int) (wh : (Lit.int .i64 h).wf = true) (n : Int) (wn : (Lit.int .i64 n).wf = true) (hx : ∃ xs, Rds w.heap.size w .u8 A l c xs ∧ Byt xs) :
    Calls Try.prog 3 #[.int .i64 h, .int .i64 n, .slice A l c] w fun e w' => e = .returned (.bool true) ∧ Below w.heap.size w w' := by
  obtain ⟨xs, hr, hb⟩ := hx
  have := bounds_i64 wn
  exact idealBytes_walk h n A l c xs w this.1 this.2 hr hb
end Go.Proofs.Ytoelbhmgmlnieaa
