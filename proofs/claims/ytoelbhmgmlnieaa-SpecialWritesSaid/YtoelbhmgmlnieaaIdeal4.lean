/- What is wrapped, by both texts; the example; two statements of layer 4. No condition. -/
import Derived.Test.YtoelbhmgmlnieaaIdeal3
set_option linter.unusedVariables false
set_option linter.unusedSimpArgs false
namespace Go.Proofs.Ytoelbhmgmlnieaa
open Go Go.RowKit

theorem wrapB_no {h n : Int} (k : ¬((1 ≤ h ∧ h ≤ 65536) ∧ 0 ≤ n ∧ n ≤ 1200)) : wrapB h n = [] := if_neg k
theorem wrapB_yes {h n : Int} (k : (1 ≤ h ∧ h ≤ 65536) ∧ 0 ≤ n ∧ n ≤ 1200) : wrapB h n = numB h ++ List.replicate (n + 12).toNat 0 := if_pos k
def WrapPost (h n : Int) (w : World) (e : Ending) (w' : World) : Prop := ∃ v, e = .returned v ∧ OwnI w' w.heap.size .u8 v (wrapB h n) ∧ Below w.heap.size w w'

set_option maxHeartbeats 1600000 in
theorem wrap_any (h n : Int) (w : World) (hn0 : -9223372036854775808 ≤ n) (hn1 : n ≤ 9223372036854775807) : Calls Try.prog 22 #[.int .i64 h, .int .i64 n] w (WrapPost h n w) := by
  by_cases hh : 1 ≤ h ∧ h ≤ 65536
  rotate_left
  · have H := Lib.hid (wrapB_no (h := h) (n := n) (fun k => hh k.1))
    have hl : (numB h).length = 0 := by rw [numB_no hh]; rfl
    have H1 := Lib.hid (numB_no hh)
    clear hh
    go_enter Try.func22, Try.ntmps22
    go_wp2_with fail
    refine (number_any h w).mono ?_
    rintro e w1 ⟨v, rfl, hv, hb1⟩
    obtain ⟨A, c, rfl⟩ := hv.slice
    rw [hl]
    go_wp2_with fail
    go_ret
    exact ⟨_, rfl, by rw [H.out]; exact OwnI.nil _ _ _, hb1⟩
  have hl : (numB h).length = 4 := by rw [numB_yes hh.1 hh.2]; rfl
  by_cases h0 : n < 0
  · have H := Lib.hid (wrapB_no (h := h) (n := n) (by omega))
    have HH := Lib.hid hh
    clear hh
    go_enter Try.func22, Try.ntmps22
    go_wp2_with fail
    refine (number_any h w).mono ?_
    rintro e w1 ⟨v, rfl, hv, hb1⟩
    obtain ⟨A, c, rfl⟩ := hv.slice
    rw [hl]
    go_wp2_with fail
    go_ret
    exact ⟨_, rfl, by rw [H.out]; exact OwnI.nil _ _ _, hb1⟩
  by_cases h1 : 1200 < n
  · have H := Lib.hid (wrapB_no (h := h) (n := n) (by omega))
    have HH := Lib.hid hh
    clear hh
    go_enter Try.func22, Try.ntmps22
    go_wp2_with fail
    refine (number_any h w).mono ?_
    rintro e w1 ⟨v, rfl, hv, hb1⟩
    obtain ⟨A, c, rfl⟩ := hv.slice
    rw [hl]
    go_wp2_with fail
    go_ret
    exact ⟨_, rfl, by rw [H.out]; exact OwnI.nil _ _ _, hb1⟩
  have H := Lib.hid (wrapB_yes (h := h) (n := n) (by omega))
  have HH := Lib.hid hh
  clear hh
  go_enter Try.func22, Try.ntmps22
  go_wp2_with fail
  refine (number_any h w).mono ?_
  rintro e w1 ⟨v, rfl, hv, hb1⟩
  have Hv := Lib.hid hv
  obtain ⟨A, c, rfl⟩ := hv.slice
  have hl' : (numB h).length ≤ 4 := by omega
  rw [hl] at Hv ⊢
  clear hv
  go_wp2_with (at_builtin; refine wp_app_u8_zeros (m := (n + 12).toNat) rfl _ _ rfl rfl rfl ?_ Hv.out ?_ hb1.size ?_ ?_)
  · omega
  · omega
  · omega
  intro v' w2 hv2 hg2 hb2
  have Hv2 := Lib.hid hv2; clear hv2 hg2
  go_wp2_with fail
  go_ret
  exact ⟨_, rfl, by rw [H.out]; exact Hv2.out, hb1.trans hb2⟩

set_option maxHeartbeats 1600000 in
theorem rwrap_any (h n : Int) (w : World) (hn0 : -9223372036854775808 ≤ n) (hn1 : n ≤ 9223372036854775807) : Calls Try.prog 23 #[.int .i64 h, .int .i64 n] w (WrapPost h n w) := by
  by_cases hh : 1 ≤ h ∧ h ≤ 65536
  rotate_left
  · have H := Lib.hid (wrapB_no (h := h) (n := n) (fun k => hh k.1))
    have hl : (numB h).length = 0 := by rw [numB_no hh]; rfl
    have H1 := Lib.hid (numB_no hh)
    clear hh
    go_enter Try.func23, Try.ntmps23
    go_wp2_with fail
    refine (rnumber_any h w).mono ?_
    rintro e w1 ⟨v, rfl, hv, hb1⟩
    obtain ⟨A, c, rfl⟩ := hv.slice
    rw [hl]
    go_wp2_with fail
    go_ret
    exact ⟨_, rfl, by rw [H.out]; exact OwnI.nil _ _ _, hb1⟩
  have hl : (numB h).length = 4 := by rw [numB_yes hh.1 hh.2]; rfl
  by_cases h0 : n < 0
  · have H := Lib.hid (wrapB_no (h := h) (n := n) (by omega))
    have HH := Lib.hid hh
    clear hh
    go_enter Try.func23, Try.ntmps23
    go_wp2_with fail
    refine (rnumber_any h w).mono ?_
    rintro e w1 ⟨v, rfl, hv, hb1⟩
    obtain ⟨A, c, rfl⟩ := hv.slice
    rw [hl]
    go_wp2_with fail
    go_ret
    exact ⟨_, rfl, by rw [H.out]; exact OwnI.nil _ _ _, hb1⟩
  by_cases h1 : 1200 < n
  · have H := Lib.hid (wrapB_no (h := h) (n := n) (by omega))
    have HH := Lib.hid hh
    clear hh
    go_enter Try.func23, Try.ntmps23
    go_wp2_with fail
    refine (rnumber_any h w).mono ?_
    rintro e w1 ⟨v, rfl, hv, hb1⟩
    obtain ⟨A, c, rfl⟩ := hv.slice
    rw [hl]
    go_wp2_with fail
    go_ret
    exact ⟨_, rfl, by rw [H.out]; exact OwnI.nil _ _ _, hb1⟩
  have H := Lib.hid (wrapB_yes (h := h) (n := n) (by omega))
  have HH := Lib.hid hh
  clear hh
  obtain ⟨N, rfl⟩ : ∃ N : Nat, n = N := ⟨n.toNat, by omega⟩
  go_enter Try.func23, Try.ntmps23
  go_wp2_with fail
  refine (rnumber_any h w).mono ?_
  rintro e w1 ⟨v, rfl, hv, hb1⟩
  have Hv := Lib.hid hv
  obtain ⟨A, c, rfl⟩ := hv.slice
  have hl' : (numB h).length ≤ 4 := by omega
  rw [hl] at Hv ⊢
  clear hv
  go_wp2_with fail
  go_loopw [5, 6] (fun v i wr => ∃ k : Nat, k ≤ N + 12 ∧ i = .int .i64 k ∧ OwnI wr w.heap.size .u8 v (numB h ++ List.replicate k 0) ∧ Below w.heap.size w wr) (fun _ i _ => N + 12 - (intOf i).toNat)
  case atStart => exact ⟨0, Nat.zero_le _, rfl, by simpa using Hv.out, hb1⟩
  case round =>
    obtain ⟨k, hk, rfl, hown, hb2⟩ := hrel
    have HO := Lib.hid hown; clear hown
    have HB := Lib.hid hb2; clear hb2
    by_cases hlt : k < N + 12
    · go_wp2_with (at_builtin; refine wp_app_u8 rfl _ _ rfl rfl rfl (HO.out.below (below_new _)) (RdI.one _ .u8 0 _) rfl ?_ ?_ ?_)
      · have := HB.out.size; simp; omega
      · simp; omega
      intro v' w3 hv3 hg3 hb3
      simp only [List.append_assoc, replicate_snoc] at hv3
      have HV3 := Lib.hid hv3; clear hv3 hg3
      have HB3 := Lib.hid hb3; clear hb3
      go_wp2_with fail
      go_roundw
      case rel => exact ⟨k + 1, by omega, by go_num, HV3.out, (HB.out.trans ((Below.refl _ _).alloc HB.out.size _)).trans HB3.out⟩
      case measure => simp [intOf]; omega
    · go_wp2_with fail
      go_ret
      refine ⟨_, rfl, ?_, HB.out⟩
      rw [H.out, show ((N : Int) + 12).toNat = k from by omega]
      exact HO.out
end Go.Proofs.Ytoelbhmgmlnieaa
