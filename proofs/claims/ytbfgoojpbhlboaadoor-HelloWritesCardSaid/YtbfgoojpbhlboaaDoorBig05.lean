/- The reference's Big: a number's bytes. No condition. -/
import Derived.Test.YtbfgoojpbhlboaaDoorPureHello
import Derived.Test.YtbfgoojpbhlboaaDoorConcat
set_option linter.unusedVariables false
set_option linter.unusedSimpArgs false
namespace Go.Proofs.YtbfgoojpbhlboaaDoor
open Go Go.RowKit

/-- 256, so often. -/
def pw (i : Nat) : Nat := 256 ^ i
theorem pw_succ (i : Nat) : pw (i + 1) = pw i * 256 := Nat.pow_succ 256 i
theorem pw_le {i j : Nat} (h : i ≤ j) : pw i ≤ pw j := Nat.pow_le_pow_right (by decide) h
theorem pw_pos (i : Nat) : 0 < pw i := Nat.pow_pos (by decide)
set_option maxHeartbeats 800000 in
theorem power_any (i : Nat) (w : World) (hi : i ≤ 7) : Calls Tryd.prog 85 #[.int .i64 i] w fun e w' => e = .returned (.int .i64 ((pw i : Nat) : Int)) ∧ w = w' := by
  go_enter Tryd.func85, Tryd.ntmps85
  go_wp2_with fail
  go_loop [3, 4] (fun p j => ∃ k : Nat, k ≤ i ∧ p = .int .i64 ((pw k : Nat) : Int) ∧ j = .int .i64 k) (fun _ j => i - (intOf j).toNat)
  case atStart => exact ⟨0, Nat.zero_le _, rfl, rfl⟩
  case round =>
    obtain ⟨k, hk, rfl, rfl⟩ := hrel
    by_cases hlt : k < i
    · obtain ⟨P, hP⟩ : ∃ P : Nat, P = pw k := ⟨_, rfl⟩
      have hPl : P ≤ 281474976710656 := by rw [hP]; exact Nat.le_trans (pw_le (show k ≤ 6 by omega)) (by decide)
      have hw : IntKind.i64.wrap ((P : Int) * 256) = ((P * 256 : Nat) : Int) := by rw [IntKind.wrap_i64, Int.natCast_mul]; omega
      rw [← hP]
      have HP := Lib.hid hP
      clear hP hPl
      go_wp2_with fail
      go_round
      case rel => exact ⟨k + 1, by omega, by rw [pw_succ, ← HP.out, Int.natCast_mul]; rfl, by go_num⟩
      case measure => simp [intOf]; omega
    · obtain rfl : k = i := by omega
      go_wp2_with fail
      go_ret
      exact ⟨rfl, rfl⟩

/-- A number in so many bytes. -/
def bigW (n : Int) (k : Nat) : List Int := (List.range k).map fun j => n / ((pw (k - 1 - j) : Nat) : Int) % 256
theorem bigW_len (n : Int) (k : Nat) : (bigW n k).length = k := by simp [bigW]
theorem bigW_four (n : Int) : bigW n 4 = bigB n := by simp [bigW, bigB, List.range_succ, pw]
theorem bigW_succ (n : Int) {k j : Nat} (h : j < k) : (bigW n k).take (j + 1) = (bigW n k).take j ++ [n / ((pw (k - 1 - j) : Nat) : Int) % 256] := by
  rw [take_nth_succ (by rw [bigW_len]; exact h)]
  congr 2
  simp [bigW, nth, h]
set_option maxHeartbeats 1600000 in
set_option maxRecDepth 100000 in
theorem big05_any (n : Int) (k : Nat) (w : World) (hk : k ≤ 8) (h0 : 0 ≤ n) (h1 : n ≤ 9223372036854775807) : Calls Tryd.prog 50 #[.int .i64 n, .int .i64 k] w (BytesPost (bigW n k) w) := by
  go_enter Tryd.func50, Tryd.ntmps50
  go_wp2_with fail
  go_loopw [5, 6] (fun v i wr => ∃ j : Nat, j ≤ k ∧ i = .int .i64 ((k : Int) - 1 - j) ∧ OwnI wr w.heap.size .u8 v ((bigW n k).take j) ∧ Below w.heap.size w wr) (fun _ i _ => (intOf i + 1).toNat)
  case atStart => exact ⟨0, Nat.zero_le _, by go_num, OwnI.nil _ _ _, Below.refl _ _⟩
  case round =>
    obtain ⟨j, hj, rfl, hv, hb⟩ := hrel
    have HV := Lib.hid hv
    have HB := Lib.hid hb
    clear hv hb
    by_cases hlt : j < k
    · obtain ⟨i, hi⟩ : ∃ i : Nat, i = k - 1 - j := ⟨_, rfl⟩
      have hi2 : (k : Int) - 1 - j = i := by omega
      obtain ⟨P, hP⟩ : ∃ P : Nat, P = pw i := ⟨_, rfl⟩
      have hPp : 0 < P := by rw [hP]; exact pw_pos _
      have hp := power_any i wr (by omega)
      rw [hi2]
      rw [← hP] at hp
      have HI := Lib.hid hi
      have HI2 := Lib.hid hi2
      have HP := Lib.hid hP
      have hq : Int.tdiv n (P : Int) = n / (P : Int) := Int.tdiv_eq_ediv_of_nonneg h0
      have hq0 : 0 ≤ n / (P : Int) := Int.ediv_nonneg h0 (by omega)
      have hq1 : n / (P : Int) ≤ 9223372036854775807 := Int.le_trans (Int.ediv_le_self _ h0) h1
      have hw2 : IntKind.i64.wrap ((i : Int) - 1) = (i : Int) - 1 := by rw [IntKind.wrap_i64]; omega
      clear hi hi2 hP
      go_wp2_with fail
      refine hp.mono ?_
      rintro e w1 ⟨rfl, rfl⟩
      go_wp2_with (at_builtin; refine wp_app_u8 (ys := [n / (P : Int) % 256]) rfl _ _ rfl rfl rfl (HV.out.below (below_new _)) (RdI.one_at _ .u8 _ _ rfl) rfl ?_ ?_ ?_)
      · have := HB.out.size; simp; omega
      · have := bigW_len n k; simp; omega
      intro v' w3 hv3 hg3 hb3
      have HV3 : Hid (OwnI w3 w.heap.size .u8 v' ((bigW n k).take (j + 1))) := by
        rw [bigW_succ n hlt, ← HI.out, ← HP.out]
        exact hv3
      have HB3 := Lib.hid ((HB.out.alloc HB.out.size _).trans hb3)
      clear hv3 hg3 hb3
      go_wp2_with fail
      go_roundw
      case rel => exact ⟨j + 1, by omega, by have := HI2.out; go_num, HV3.out, HB3.out⟩
      case measure => have := HI2.out; simp [intOf]
    · obtain rfl : j = k := by omega
      go_wp2_with fail
      go_ret
      have := HV.out
      rw [List.take_of_length_le (by rw [bigW_len]; exact Nat.le_refl _)] at this
      exact ⟨_, rfl, this, HB.out⟩
end Go.Proofs.YtbfgoojpbhlboaaDoor
