/- The walk of IdealWraps. No condition. -/
import Derived.Test.YtoelbhmgmlnieaaIdeal5
set_option linter.unusedVariables false
set_option linter.unusedSimpArgs false
namespace Go.Proofs.Ytoelbhmgmlnieaa
open Go Go.RowKit

set_option maxHeartbeats 3200000 in
theorem idealWraps_walk (h n p : Int) (w : World) (h0 : 0 ≤ h) (h1 : h ≤ 65535) (n0 : 0 ≤ n) (n1 : n ≤ 65535) (p0 : 0 ≤ p) (p1 : p ≤ 65535) :
    Calls Try.prog 4 #[.int .u16 h, .int .u16 n, .int .u16 p] w fun e w' => e = .returned (.bool true) ∧ Below w.heap.size w w' := by
  obtain ⟨M, hM⟩ : ∃ M : Nat, n % 1201 = M := ⟨(n % 1201).toNat, by omega⟩
  have hM1 : M ≤ 1200 := by omega
  obtain ⟨J, hJ⟩ : ∃ J : Nat, p % ((M : Int) + 12) = J := ⟨(p % ((M : Int) + 12)).toNat, by have := Int.emod_nonneg p (show (M : Int) + 12 ≠ 0 by omega); omega⟩
  have hJ1 : J < M + 12 := by have := Int.emod_lt_of_pos p (show (0 : Int) < (M : Int) + 12 by omega); omega
  have k : (1 ≤ h + 1 ∧ h + 1 ≤ 65536) ∧ 0 ≤ (M : Int) ∧ (M : Int) ≤ 1200 := by omega
  have W1 := Lib.hid (unwrap_wrap k)
  have W2 := Lib.hid (unwrap_spoilt k (j := 4 + J) (by omega) (by simp; omega))
  have W3 := Lib.hid (unwrap_short k)
  have W4 := Lib.hid (wrap_len k)
  have HJ := hJ
  go_enter Try.func4, Try.ntmps4
  go_wp2_with fail
  refine (wrap_any (h + 1) M w (by omega) (by omega)).mono ?_
  rintro e w1 ⟨v, rfl, hv, hb1⟩
  obtain ⟨A, c, rfl, hr⟩ := hv.rd (B' := 0)
  have hl : (wrapB (h + 1) M).length = M + 16 := by rw [W4.out]; simp
  rw [hl] at hr hv ⊢
  have Hl := Lib.hid hl; clear hl
  have HV := Lib.hid hv; clear hv
  obtain ⟨b, o, rfl, _⟩ := hr.cell.at_ (by have := hr.len; omega)
  have hc := hr.cap
  have hc2 := hr.max
  have HR := Lib.hid hr; clear hr
  go_wp2_with fail
  refine (unwrap_any _ _ c _ w1 HR.out (wrap_byt _ _)).mono ?_
  rintro e w2 ⟨rfl, hb2⟩
  rw [W1.out]
  have hb12 := below_step hb1 hb2
  have g1 : ((M : Int) != M) = false := by simp
  have g2 : (h + 1 != h + 1) = false := by simp
  go_wp2_with (at_builtin; refine wp_app_u8 (xs := []) (ys := wrapB (h + 1) M) rfl _ _ rfl rfl rfl (OwnI.empty (B := w2.heap.size) (Nat.le_refl _) sp_u8) ?_ Hl.out ?_ ?_ ?_)
  · exact ((HR.out.below hb2).below (below_new _)).cell
  · simp
  · simp; omega
  intro v' w3 hv3 hg3 hb3
  try simp only [List.nil_append] at hv3
  have hb23 : Below w.heap.size w w3 := below_step hb12 (((Below.refl _ _).alloc (Nat.le_refl _) _).trans hb3)
  have HR3 := Lib.hid ((HR.out.below hb2).below (((Below.refl _ _).alloc (Nat.le_refl _) _).trans hb3))
  obtain ⟨g, cap, rfl, hgb, hgl, hcap, hcell, hfr, hset⟩ := hv3.form (by rw [Hl.out]; omega)
  rw [Hl.out] at hv3 hcell hset hcap ⊢
  have gc := hcell (4 + J) (by omega)
  have gf := hfr (4 + J)
  have HS := Lib.hid (hset (4 + J) 1 (by omega))
  have hgw : w.heap.size ≤ g := by have := hb12.size; omega
  have hlen2 : ((wrapB (h + 1) M).set (4 + J) 1).length = M + 16 := by rw [List.length_set]; exact Hl.out
  clear hv3 hcell hfr hset hg3
  have Hlen2 := Lib.hid hlen2; clear hlen2
  have hb24 : Below w2.heap.size w2 (w3.setCell ⟨g, 4 + J, none⟩ (.int .u8 1)) := (((Below.refl _ _).alloc (Nat.le_refl _) _).trans hb3).setCell hgb _
  have HR4 := Lib.hid ((HR.out.below hb2).below hb24)
  have hb04 := below_step hb12 hb24
  go_wp2_with fail
  refine (unwrap_any _ _ cap _ _ (HS.out.rds (B' := 0)) (fun x hx => ?_)).mono ?_
  · rcases List.mem_or_eq_of_mem_set hx with hx | rfl
    · exact wrap_byt _ _ x hx
    · decide
  rintro e w5 ⟨rfl, hb5⟩
  rw [W2.out]
  have hb05 := below_step hb04 hb5
  have HR5 := Lib.hid (HR4.out.below hb5)
  clear hb24 hb5 hb3 gc gf HS
  have g3 : ((M : Int) + 16 - 1) = ((M + 15 : Nat) : Int) := by omega
  have hm15 : M + 15 ≤ c := by omega
  have hM15 : 0 ≤ (M : Int) + 16 - 1 := by omega
  generalize (unwrap ((wrapB (h + 1) M).set (4 + J) 1)).1 = y1
  generalize (unwrap ((wrapB (h + 1) M).set (4 + J) 1)).2.1 = y2
  go_wp2_with fail
  refine (unwrap_any _ _ c ((wrapB (h + 1) M).take (M + 15)) w5 (HR5.out.take (by omega)) ((wrap_byt _ _).take _)).mono ?_
  rintro e w6 ⟨rfl, hb6⟩
  have hb06 := below_step hb05 hb6
  have e3 := W3.out
  rw [show ((M : Int).toNat + 15) = M + 15 from by simp] at e3
  rw [e3]
  clear e3 hb6
  by_cases hM0 : 0 < M
  · rw [if_pos (show 0 < (M : Int) by omega)]
    have g4 : ((M : Int) == 0) = false := by simp; omega
    have g5 : (true == decide (0 < (M : Int))) = true := by simp; omega
    have g6 : ((M : Int) - 1 == M - 1) = true := by simp
    go_wp2_with fail
    refine (awake04 _).mono ?_
    rintro e w7 ⟨rfl, hb7⟩
    have hb07 := below_step hb06 hb7
    go_wp2_with fail
    go_ret
    exact ⟨rfl, hb07⟩
  · obtain rfl : M = 0 := by omega
    rw [if_neg (show ¬ 0 < ((0 : Nat) : Int) by omega)]
    go_wp2_with fail
    refine (awake04 _).mono ?_
    rintro e w7 ⟨rfl, hb7⟩
    have hb07 := below_step hb06 hb7
    go_wp2_with fail
    go_ret
    exact ⟨rfl, hb07⟩
theorem idealWraps_row (w : World) (h : Int) (wh : (Lit.int .u16 h).wf = true) (n : Int) (wn : (Lit.int .u16 n).wf = true) (p : Int) (wp : (Lit.int .u16 p).wf = true) :
    Calls Try.prog 4 #[.int .u16 h, .int .u16 n, .int .u16 p] w fun e w' => e = .returned (.bool true) ∧ Below w.heap.size w w' := by
  have a := bounds_u16 wh
  have b := bounds_u16 wn
  have c := bounds_u16 wp
  exact idealWraps_walk h n p w a.1 a.2 b.1 b.2 c.1 c.2
end Go.Proofs.Ytoelbhmgmlnieaa
