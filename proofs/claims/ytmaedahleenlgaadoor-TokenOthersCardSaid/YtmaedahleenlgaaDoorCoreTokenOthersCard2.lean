/- Own texts behind the statement TokenOthersCard, one behind the other (part 2 of 4). Each bears its own remark. -/
import Derived.Deep.RegionHeld3
import Derived.BigRegion
import Derived.Lib.ConvBytes
import Derived.OpenShut
import Derived.Test.YtmaedahleenlgaaDoorCoreTokenOthersCard1
/- Numbers of one to eight bytes: Read, and the reference's. No condition. -/
set_option linter.unusedVariables false
set_option linter.unusedSimpArgs false
namespace Go.Proofs.YtmaedahleenlgaaDoor
open Go Go.RowKit

theorem u64_join (x y : Int) (hx₀ : 0 ≤ x) (hx₁ : x < 18446744073709551616) (hx : x % 256 = 0) (h₀ : 0 ≤ y) (h₁ : y ≤ 255) : bits .or .u64 x y = x + y :=
  bits_join .u64 64 (by decide) (fun n h0 h1 => by simp [IntKind.wrap, IntKind.bits, IntKind.signed]; omega) 8 x y hx₀ (by omega) (by omega) h₀ (by omega) (by omega)
def ReadPost (xs : List Int) (w : World) (e : Ending) (w' : World) : Prop := e = .returned (.tuple #[.int .i64 (readV xs).1, .int .i64 ((readV xs).2.1 : Nat), .int .i64 (readV xs).2.2]) ∧ w = w'
theorem readV_nil : readV [] = (0, 0, 2) := rfl
theorem readV_short {y : Int} {r : List Int} (h : (y :: r).length < sizeOfB y) : readV (y :: r) = (0, 0, 2) := by
  unfold readV
  rw [if_neg (by simp), if_pos (by simpa [nth] using h)]
theorem readV_go {y : Int} {r : List Int} {s : Nat} {v : Int} (hs : sizeOfB y = s) (hl : s ≤ (y :: r).length) (hv : beF (y % 64) (((y :: r).take s).drop 1) = v) :
    readV (y :: r) = if sizeV v = s then (v, s, 0) else (0, 0, 3) := by
  have e : nth (y :: r) 0 = y := rfl
  unfold readV
  rw [e, hs, hv, if_neg (by simp), if_neg (by omega)]
  by_cases h : sizeV v = s
  · rw [if_pos h, if_neg (by simp [h])]
  · rw [if_neg h, if_pos h]
theorem sizeOfB_one {y : Int} (h : y < 64) : sizeOfB y = 1 := if_pos h
theorem sizeOfB_two {y : Int} (h : 64 ≤ y) (h2 : y < 128) : sizeOfB y = 2 := by unfold sizeOfB; rw [if_neg (by omega), if_pos h2]
theorem sizeOfB_four {y : Int} (h : 128 ≤ y) (h2 : y < 192) : sizeOfB y = 4 := by unfold sizeOfB; rw [if_neg (by omega), if_neg (by omega), if_pos h2]
theorem sizeOfB_eight {y : Int} (h : 192 ≤ y) : sizeOfB y = 8 := by unfold sizeOfB; rw [if_neg (by omega), if_neg (by omega), if_neg (by omega)]
set_option maxHeartbeats 800000 in
theorem vread_nil (A : Option Addr) (c : Nat) (w : World) : Calls Tryd.prog 46 #[.slice A 0 c] w (ReadPost [] w) := by
  unfold ReadPost
  rw [readV_nil]
  go_enter Tryd.func46, Tryd.ntmps46
  go_wp2_with fail
  go_returns
  exact ⟨rfl, rfl⟩
set_option maxHeartbeats 800000 in
theorem rread_nil (A : Option Addr) (c : Nat) (w : World) : Calls Tryd.prog 36 #[.slice A 0 c] w (ReadPost [] w) := by
  unfold ReadPost
  rw [readV_nil]
  go_enter Tryd.func36, Tryd.ntmps36
  go_wp2_with fail
  go_returns
  exact ⟨rfl, rfl⟩
set_option maxHeartbeats 3200000 in
theorem vread_one (b o n c : Nat) (y0 : Int) (r : List Int) (w : World) (l0 : 0 ≤ y0) (u0 : y0 ≤ 255) (g0 : 0 ≤ y0) (g1 : y0 < 64) (hn : n = r.length + 1) (hc : n ≤ c) (hm : c ≤ 9223372036854775807) (x0 : w.cell? ⟨b, o, none⟩ = some (.int .u8 y0)) :
    Calls Tryd.prog 46 #[.slice (some ⟨b, o, none⟩) n c] w (ReadPost (y0 :: r) w) := by
  obtain ⟨V, hV⟩ : ∃ V, V = y0 % 64 := ⟨_, rfl⟩
  have HV := Lib.hid hV
  have HR : Hid (readV (y0 :: r) = if sizeV V = 1 then (V, 1, 0) else (0, 0, 3)) := by show _ = _; rw [hV]; exact readV_go (sizeOfB_one (by omega)) (by simp) rfl
  have v0 : 0 ≤ V := by omega
  have v1 : V ≤ 4611686018427387903 := by omega
  clear hV
  have hq : y0 / 64 = 0 := by omega
  have hm0 : bits .and .u8 y0 63 = y0 % 64 := u8_and63 _ (by omega) (by omega)
  by_cases hc1 : c = 1
  · go_enter Tryd.func46, Tryd.ntmps46
    go_wp2_with fail
    refine wp_loop_rounds 1 ?_
    rw [rounds_succ]
    go_wp2_with fail
    rw [← HV.out]
    clear  HV
    have key := vsize_any V w
    refine key.mono ?_
    clear key
    rintro e w1 ⟨rfl, rfl⟩
    by_cases hz : sizeV V = 1
    · have hzb : (((sizeV V : Nat) : Int) != 1) = false := by rw [hz]; rfl
      have HZ := Lib.hid hz
      clear hz
      go_wp2_with fail
      go_returns
      exact ⟨by rw [HR.out, if_pos HZ.out]; rfl, rfl⟩
    · have hzb : (((sizeV V : Nat) : Int) != 1) = true := by rw [bne_iff_ne]; omega
      have HZ := Lib.hid hz
      clear hz
      go_wp2_with fail
      go_returns
      exact ⟨by rw [HR.out, if_neg HZ.out]; rfl, rfl⟩
  · go_enter Tryd.func46, Tryd.ntmps46
    go_wp2_with fail
    refine wp_loop_rounds 1 ?_
    rw [rounds_succ]
    go_wp2_with fail
    rw [← HV.out]
    clear  HV
    have key := vsize_any V w
    refine key.mono ?_
    clear key
    rintro e w1 ⟨rfl, rfl⟩
    by_cases hz : sizeV V = 1
    · have hzb : (((sizeV V : Nat) : Int) != 1) = false := by rw [hz]; rfl
      have HZ := Lib.hid hz
      clear hz
      go_wp2_with fail
      go_returns
      exact ⟨by rw [HR.out, if_pos HZ.out]; rfl, rfl⟩
    · have hzb : (((sizeV V : Nat) : Int) != 1) = true := by rw [bne_iff_ne]; omega
      have HZ := Lib.hid hz
      clear hz
      go_wp2_with fail
      go_returns
      exact ⟨by rw [HR.out, if_neg HZ.out]; rfl, rfl⟩

set_option maxHeartbeats 3200000 in
theorem vread_two (b o n c : Nat) (y0 y1 : Int) (r : List Int) (w : World) (l0 : 0 ≤ y0) (u0 : y0 ≤ 255) (l1 : 0 ≤ y1) (u1 : y1 ≤ 255) (g0 : 64 ≤ y0) (g1 : y0 < 128) (hn : n = r.length + 2) (hc : n ≤ c) (hm : c ≤ 9223372036854775807) (x0 : w.cell? ⟨b, o, none⟩ = some (.int .u8 y0)) (x1 : w.cell? ⟨b, o + 1, none⟩ = some (.int .u8 y1)) :
    Calls Tryd.prog 46 #[.slice (some ⟨b, o, none⟩) n c] w (ReadPost (y0 :: y1 :: r) w) := by
  obtain ⟨V, hV⟩ : ∃ V, V = (y0 % 64) * 256 + y1 := ⟨_, rfl⟩
  have HV := Lib.hid hV
  have HR : Hid (readV (y0 :: y1 :: r) = if sizeV V = 2 then (V, 2, 0) else (0, 0, 3)) := by show _ = _; rw [hV]; exact readV_go (sizeOfB_two (by omega) (by omega)) (by simp) rfl
  have v0 : 0 ≤ V := by omega
  have v1 : V ≤ 4611686018427387903 := by omega
  clear hV
  have hq : y0 / 64 = 1 := by omega
  have hm0 : bits .and .u8 y0 63 = y0 % 64 := u8_and63 _ (by omega) (by omega)
  have j1 : bits .or .u64 ((y0 % 64) * 256) y1 = (y0 % 64) * 256 + y1 := u64_join _ _ (by omega) (by omega) (by omega) (by omega) (by omega)
  go_enter Tryd.func46, Tryd.ntmps46
  go_wp2_with fail
  refine wp_loop_rounds 2 ?_
  rw [rounds_succ]
  go_wp2_with fail
  rw [rounds_succ]
  go_wp2_with fail
  rw [← HV.out]
  clear j1 HV
  have key := vsize_any V w
  refine key.mono ?_
  clear key
  rintro e w1 ⟨rfl, rfl⟩
  by_cases hz : sizeV V = 2
  · have hzb : (((sizeV V : Nat) : Int) != 2) = false := by rw [hz]; rfl
    have HZ := Lib.hid hz
    clear hz
    go_wp2_with fail
    go_returns
    exact ⟨by rw [HR.out, if_pos HZ.out]; rfl, rfl⟩
  · have hzb : (((sizeV V : Nat) : Int) != 2) = true := by rw [bne_iff_ne]; omega
    have HZ := Lib.hid hz
    clear hz
    go_wp2_with fail
    go_returns
    exact ⟨by rw [HR.out, if_neg HZ.out]; rfl, rfl⟩

set_option maxHeartbeats 3200000 in
theorem vread_four (b o n c : Nat) (y0 y1 y2 y3 : Int) (r : List Int) (w : World) (l0 : 0 ≤ y0) (u0 : y0 ≤ 255) (l1 : 0 ≤ y1) (u1 : y1 ≤ 255) (l2 : 0 ≤ y2) (u2 : y2 ≤ 255) (l3 : 0 ≤ y3) (u3 : y3 ≤ 255) (g0 : 128 ≤ y0) (g1 : y0 < 192) (hn : n = r.length + 4) (hc : n ≤ c) (hm : c ≤ 9223372036854775807) (x0 : w.cell? ⟨b, o, none⟩ = some (.int .u8 y0)) (x1 : w.cell? ⟨b, o + 1, none⟩ = some (.int .u8 y1)) (x2 : w.cell? ⟨b, o + 2, none⟩ = some (.int .u8 y2)) (x3 : w.cell? ⟨b, o + 3, none⟩ = some (.int .u8 y3)) :
    Calls Tryd.prog 46 #[.slice (some ⟨b, o, none⟩) n c] w (ReadPost (y0 :: y1 :: y2 :: y3 :: r) w) := by
  obtain ⟨V, hV⟩ : ∃ V, V = (((y0 % 64) * 256 + y1) * 256 + y2) * 256 + y3 := ⟨_, rfl⟩
  have HV := Lib.hid hV
  have HR : Hid (readV (y0 :: y1 :: y2 :: y3 :: r) = if sizeV V = 4 then (V, 4, 0) else (0, 0, 3)) := by show _ = _; rw [hV]; exact readV_go (sizeOfB_four (by omega) (by omega)) (by simp) rfl
  have v0 : 0 ≤ V := by omega
  have v1 : V ≤ 4611686018427387903 := by omega
  clear hV
  have hq : y0 / 64 = 2 := by omega
  have hm0 : bits .and .u8 y0 63 = y0 % 64 := u8_and63 _ (by omega) (by omega)
  have j1 : bits .or .u64 ((y0 % 64) * 256) y1 = (y0 % 64) * 256 + y1 := u64_join _ _ (by omega) (by omega) (by omega) (by omega) (by omega)
  have j2 : bits .or .u64 (((y0 % 64) * 256 + y1) * 256) y2 = ((y0 % 64) * 256 + y1) * 256 + y2 := u64_join _ _ (by omega) (by omega) (by omega) (by omega) (by omega)
  have j3 : bits .or .u64 ((((y0 % 64) * 256 + y1) * 256 + y2) * 256) y3 = (((y0 % 64) * 256 + y1) * 256 + y2) * 256 + y3 := u64_join _ _ (by omega) (by omega) (by omega) (by omega) (by omega)
  go_enter Tryd.func46, Tryd.ntmps46
  go_wp2_with fail
  refine wp_loop_rounds 4 ?_
  rw [rounds_succ]
  go_wp2_with fail
  rw [rounds_succ]
  go_wp2_with fail
  rw [rounds_succ]
  go_wp2_with fail
  rw [rounds_succ]
  go_wp2_with fail
  rw [← HV.out]
  clear j1 j2 j3 HV
  have key := vsize_any V w
  refine key.mono ?_
  clear key
  rintro e w1 ⟨rfl, rfl⟩
  by_cases hz : sizeV V = 4
  · have hzb : (((sizeV V : Nat) : Int) != 4) = false := by rw [hz]; rfl
    have HZ := Lib.hid hz
    clear hz
    go_wp2_with fail
    go_returns
    exact ⟨by rw [HR.out, if_pos HZ.out]; rfl, rfl⟩
  · have hzb : (((sizeV V : Nat) : Int) != 4) = true := by rw [bne_iff_ne]; omega
    have HZ := Lib.hid hz
    clear hz
    go_wp2_with fail
    go_returns
    exact ⟨by rw [HR.out, if_neg HZ.out]; rfl, rfl⟩

set_option maxHeartbeats 3200000 in
theorem vread_eight (b o n c : Nat) (y0 y1 y2 y3 y4 y5 y6 y7 : Int) (r : List Int) (w : World) (l0 : 0 ≤ y0) (u0 : y0 ≤ 255) (l1 : 0 ≤ y1) (u1 : y1 ≤ 255) (l2 : 0 ≤ y2) (u2 : y2 ≤ 255) (l3 : 0 ≤ y3) (u3 : y3 ≤ 255) (l4 : 0 ≤ y4) (u4 : y4 ≤ 255) (l5 : 0 ≤ y5) (u5 : y5 ≤ 255) (l6 : 0 ≤ y6) (u6 : y6 ≤ 255) (l7 : 0 ≤ y7) (u7 : y7 ≤ 255) (g0 : 192 ≤ y0) (g1 : y0 < 256) (hn : n = r.length + 8) (hc : n ≤ c) (hm : c ≤ 9223372036854775807) (x0 : w.cell? ⟨b, o, none⟩ = some (.int .u8 y0)) (x1 : w.cell? ⟨b, o + 1, none⟩ = some (.int .u8 y1)) (x2 : w.cell? ⟨b, o + 2, none⟩ = some (.int .u8 y2)) (x3 : w.cell? ⟨b, o + 3, none⟩ = some (.int .u8 y3)) (x4 : w.cell? ⟨b, o + 4, none⟩ = some (.int .u8 y4)) (x5 : w.cell? ⟨b, o + 5, none⟩ = some (.int .u8 y5)) (x6 : w.cell? ⟨b, o + 6, none⟩ = some (.int .u8 y6)) (x7 : w.cell? ⟨b, o + 7, none⟩ = some (.int .u8 y7)) :
    Calls Tryd.prog 46 #[.slice (some ⟨b, o, none⟩) n c] w (ReadPost (y0 :: y1 :: y2 :: y3 :: y4 :: y5 :: y6 :: y7 :: r) w) := by
  obtain ⟨V, hV⟩ : ∃ V, V = (((((((y0 % 64) * 256 + y1) * 256 + y2) * 256 + y3) * 256 + y4) * 256 + y5) * 256 + y6) * 256 + y7 := ⟨_, rfl⟩
  have HV := Lib.hid hV
  have HR : Hid (readV (y0 :: y1 :: y2 :: y3 :: y4 :: y5 :: y6 :: y7 :: r) = if sizeV V = 8 then (V, 8, 0) else (0, 0, 3)) := by show _ = _; rw [hV]; exact readV_go (sizeOfB_eight (by omega)) (by simp) rfl
  have v0 : 0 ≤ V := by omega
  have v1 : V ≤ 4611686018427387903 := by omega
  clear hV
  have hq : y0 / 64 = 3 := by omega
  have hm0 : bits .and .u8 y0 63 = y0 % 64 := u8_and63 _ (by omega) (by omega)
  have j1 : bits .or .u64 ((y0 % 64) * 256) y1 = (y0 % 64) * 256 + y1 := u64_join _ _ (by omega) (by omega) (by omega) (by omega) (by omega)
  have j2 : bits .or .u64 (((y0 % 64) * 256 + y1) * 256) y2 = ((y0 % 64) * 256 + y1) * 256 + y2 := u64_join _ _ (by omega) (by omega) (by omega) (by omega) (by omega)
  have j3 : bits .or .u64 ((((y0 % 64) * 256 + y1) * 256 + y2) * 256) y3 = (((y0 % 64) * 256 + y1) * 256 + y2) * 256 + y3 := u64_join _ _ (by omega) (by omega) (by omega) (by omega) (by omega)
  have j4 : bits .or .u64 (((((y0 % 64) * 256 + y1) * 256 + y2) * 256 + y3) * 256) y4 = ((((y0 % 64) * 256 + y1) * 256 + y2) * 256 + y3) * 256 + y4 := u64_join _ _ (by omega) (by omega) (by omega) (by omega) (by omega)
  have j5 : bits .or .u64 ((((((y0 % 64) * 256 + y1) * 256 + y2) * 256 + y3) * 256 + y4) * 256) y5 = (((((y0 % 64) * 256 + y1) * 256 + y2) * 256 + y3) * 256 + y4) * 256 + y5 := u64_join _ _ (by omega) (by omega) (by omega) (by omega) (by omega)
  have j6 : bits .or .u64 (((((((y0 % 64) * 256 + y1) * 256 + y2) * 256 + y3) * 256 + y4) * 256 + y5) * 256) y6 = ((((((y0 % 64) * 256 + y1) * 256 + y2) * 256 + y3) * 256 + y4) * 256 + y5) * 256 + y6 := u64_join _ _ (by omega) (by omega) (by omega) (by omega) (by omega)
  have j7 : bits .or .u64 ((((((((y0 % 64) * 256 + y1) * 256 + y2) * 256 + y3) * 256 + y4) * 256 + y5) * 256 + y6) * 256) y7 = (((((((y0 % 64) * 256 + y1) * 256 + y2) * 256 + y3) * 256 + y4) * 256 + y5) * 256 + y6) * 256 + y7 := u64_join _ _ (by omega) (by omega) (by omega) (by omega) (by omega)
  go_enter Tryd.func46, Tryd.ntmps46
  go_wp2_with fail
  refine wp_loop_rounds 8 ?_
  rw [rounds_succ]
  go_wp2_with fail
  rw [rounds_succ]
  go_wp2_with fail
  rw [rounds_succ]
  go_wp2_with fail
  rw [rounds_succ]
  go_wp2_with fail
  rw [rounds_succ]
  go_wp2_with fail
  rw [rounds_succ]
  go_wp2_with fail
  rw [rounds_succ]
  go_wp2_with fail
  rw [rounds_succ]
  go_wp2_with fail
  rw [← HV.out]
  clear j1 j2 j3 j4 j5 j6 j7 HV
  have key := vsize_any V w
  refine key.mono ?_
  clear key
  rintro e w1 ⟨rfl, rfl⟩
  by_cases hz : sizeV V = 8
  · have hzb : (((sizeV V : Nat) : Int) != 8) = false := by rw [hz]; rfl
    have HZ := Lib.hid hz
    clear hz
    go_wp2_with fail
    go_returns
    exact ⟨by rw [HR.out, if_pos HZ.out]; rfl, rfl⟩
  · have hzb : (((sizeV V : Nat) : Int) != 8) = true := by rw [bne_iff_ne]; omega
    have HZ := Lib.hid hz
    clear hz
    go_wp2_with fail
    go_returns
    exact ⟨by rw [HR.out, if_neg HZ.out]; rfl, rfl⟩
set_option maxHeartbeats 3200000 in
theorem rread_one (b o n c : Nat) (y0 : Int) (r : List Int) (w : World) (l0 : 0 ≤ y0) (u0 : y0 ≤ 255) (g0 : 0 ≤ y0) (g1 : y0 < 64) (hn : n = r.length + 1) (hc : n ≤ c) (hm : c ≤ 9223372036854775807) (x0 : w.cell? ⟨b, o, none⟩ = some (.int .u8 y0)) :
    Calls Tryd.prog 36 #[.slice (some ⟨b, o, none⟩) n c] w (ReadPost (y0 :: r) w) := by
  obtain ⟨V, hV⟩ : ∃ V, V = y0 % 64 := ⟨_, rfl⟩
  have HV := Lib.hid hV
  have HR : Hid (readV (y0 :: r) = if sizeV V = 1 then (V, 1, 0) else (0, 0, 3)) := by show _ = _; rw [hV]; exact readV_go (sizeOfB_one (by omega)) (by simp) (by simp only [beF, List.take_succ_cons, List.take_zero, List.drop_succ_cons, List.drop_zero, List.foldl_cons, List.foldl_nil])
  have v0 : 0 ≤ V := by omega
  have v1 : V ≤ 4611686018427387903 := by omega
  clear hV
  have hq : Int.tdiv y0 64 = 0 := by rw [Int.tdiv_eq_ediv_of_nonneg l0]; omega
  have hm0 : Int.tmod y0 64 = y0 % 64 := Int.tmod_eq_emod_of_nonneg l0
  have hq' : y0 / 64 = 0 := by omega
  go_enter Tryd.func36, Tryd.ntmps36
  go_wp2_with fail
  refine wp_loop_rounds 1 ?_
  rw [rounds_succ]
  go_wp2_with fail
  refine wp_loop_rounds 1 ?_
  rw [rounds_succ]
  go_wp2_with fail
  rw [← HV.out]
  clear HV
  have key := rsize_any V w
  refine key.mono ?_
  clear key
  rintro e w1 ⟨rfl, rfl⟩
  by_cases hz : sizeV V = 1
  · have hzb : (((sizeV V : Nat) : Int) != 1) = false := by rw [hz]; rfl
    have HZ := Lib.hid hz
    clear hz
    go_wp2_with fail
    go_returns
    exact ⟨by rw [HR.out, if_pos HZ.out]; rfl, rfl⟩
  · have hzb : (((sizeV V : Nat) : Int) != 1) = true := by rw [bne_iff_ne]; omega
    have HZ := Lib.hid hz
    clear hz
    go_wp2_with fail
    go_returns
    exact ⟨by rw [HR.out, if_neg HZ.out]; rfl, rfl⟩
set_option maxHeartbeats 3200000 in
theorem rread_two (b o n c : Nat) (y0 y1 : Int) (r : List Int) (w : World) (l0 : 0 ≤ y0) (u0 : y0 ≤ 255) (l1 : 0 ≤ y1) (u1 : y1 ≤ 255) (g0 : 64 ≤ y0) (g1 : y0 < 128) (hn : n = r.length + 2) (hc : n ≤ c) (hm : c ≤ 9223372036854775807) (x0 : w.cell? ⟨b, o, none⟩ = some (.int .u8 y0)) (x1 : w.cell? ⟨b, o + 1, none⟩ = some (.int .u8 y1)) :
    Calls Tryd.prog 36 #[.slice (some ⟨b, o, none⟩) n c] w (ReadPost (y0 :: y1 :: r) w) := by
  obtain ⟨V, hV⟩ : ∃ V, V = 256 * (y0 % 64) + y1 := ⟨_, rfl⟩
  have HV := Lib.hid hV
  have HR : Hid (readV (y0 :: y1 :: r) = if sizeV V = 2 then (V, 2, 0) else (0, 0, 3)) := by show _ = _; rw [hV]; exact readV_go (sizeOfB_two (by omega) (by omega)) (by simp) (by simp only [beF, List.take_succ_cons, List.take_zero, List.drop_succ_cons, List.drop_zero, List.foldl_cons, List.foldl_nil]; omega)
  have v0 : 0 ≤ V := by omega
  have v1 : V ≤ 4611686018427387903 := by omega
  clear hV
  have hq : Int.tdiv y0 64 = 1 := by rw [Int.tdiv_eq_ediv_of_nonneg l0]; omega
  have hm0 : Int.tmod y0 64 = y0 % 64 := Int.tmod_eq_emod_of_nonneg l0
  have hq' : y0 / 64 = 1 := by omega
  go_enter Tryd.func36, Tryd.ntmps36
  go_wp2_with fail
  refine wp_loop_rounds 2 ?_
  rw [rounds_succ]
  go_wp2_with fail
  rw [rounds_succ]
  go_wp2_with fail
  refine wp_loop_rounds 2 ?_
  rw [rounds_succ]
  go_wp2_with fail
  rw [rounds_succ]
  go_wp2_with fail
  rw [← HV.out]
  clear HV
  have key := rsize_any V w
  refine key.mono ?_
  clear key
  rintro e w1 ⟨rfl, rfl⟩
  by_cases hz : sizeV V = 2
  · have hzb : (((sizeV V : Nat) : Int) != 2) = false := by rw [hz]; rfl
    have HZ := Lib.hid hz
    clear hz
    go_wp2_with fail
    go_returns
    exact ⟨by rw [HR.out, if_pos HZ.out]; rfl, rfl⟩
  · have hzb : (((sizeV V : Nat) : Int) != 2) = true := by rw [bne_iff_ne]; omega
    have HZ := Lib.hid hz
    clear hz
    go_wp2_with fail
    go_returns
    exact ⟨by rw [HR.out, if_neg HZ.out]; rfl, rfl⟩
set_option maxHeartbeats 3200000 in
theorem rread_four (b o n c : Nat) (y0 y1 y2 y3 : Int) (r : List Int) (w : World) (l0 : 0 ≤ y0) (u0 : y0 ≤ 255) (l1 : 0 ≤ y1) (u1 : y1 ≤ 255) (l2 : 0 ≤ y2) (u2 : y2 ≤ 255) (l3 : 0 ≤ y3) (u3 : y3 ≤ 255) (g0 : 128 ≤ y0) (g1 : y0 < 192) (hn : n = r.length + 4) (hc : n ≤ c) (hm : c ≤ 9223372036854775807) (x0 : w.cell? ⟨b, o, none⟩ = some (.int .u8 y0)) (x1 : w.cell? ⟨b, o + 1, none⟩ = some (.int .u8 y1)) (x2 : w.cell? ⟨b, o + 2, none⟩ = some (.int .u8 y2)) (x3 : w.cell? ⟨b, o + 3, none⟩ = some (.int .u8 y3)) :
    Calls Tryd.prog 36 #[.slice (some ⟨b, o, none⟩) n c] w (ReadPost (y0 :: y1 :: y2 :: y3 :: r) w) := by
  obtain ⟨V, hV⟩ : ∃ V, V = 256 * (256 * (256 * (y0 % 64) + y1) + y2) + y3 := ⟨_, rfl⟩
  have HV := Lib.hid hV
  have HR : Hid (readV (y0 :: y1 :: y2 :: y3 :: r) = if sizeV V = 4 then (V, 4, 0) else (0, 0, 3)) := by show _ = _; rw [hV]; exact readV_go (sizeOfB_four (by omega) (by omega)) (by simp) (by simp only [beF, List.take_succ_cons, List.take_zero, List.drop_succ_cons, List.drop_zero, List.foldl_cons, List.foldl_nil]; omega)
  have v0 : 0 ≤ V := by omega
  have v1 : V ≤ 4611686018427387903 := by omega
  clear hV
  have hq : Int.tdiv y0 64 = 2 := by rw [Int.tdiv_eq_ediv_of_nonneg l0]; omega
  have hm0 : Int.tmod y0 64 = y0 % 64 := Int.tmod_eq_emod_of_nonneg l0
  have hq' : y0 / 64 = 2 := by omega
  go_enter Tryd.func36, Tryd.ntmps36
  go_wp2_with fail
  refine wp_loop_rounds 3 ?_
  rw [rounds_succ]
  go_wp2_with fail
  rw [rounds_succ]
  go_wp2_with fail
  rw [rounds_succ]
  go_wp2_with fail
  refine wp_loop_rounds 4 ?_
  rw [rounds_succ]
  go_wp2_with fail
  rw [rounds_succ]
  go_wp2_with fail
  rw [rounds_succ]
  go_wp2_with fail
  rw [rounds_succ]
  go_wp2_with fail
  rw [← HV.out]
  clear HV
  have key := rsize_any V w
  refine key.mono ?_
  clear key
  rintro e w1 ⟨rfl, rfl⟩
  by_cases hz : sizeV V = 4
  · have hzb : (((sizeV V : Nat) : Int) != 4) = false := by rw [hz]; rfl
    have HZ := Lib.hid hz
    clear hz
    go_wp2_with fail
    go_returns
    exact ⟨by rw [HR.out, if_pos HZ.out]; rfl, rfl⟩
  · have hzb : (((sizeV V : Nat) : Int) != 4) = true := by rw [bne_iff_ne]; omega
    have HZ := Lib.hid hz
    clear hz
    go_wp2_with fail
    go_returns
    exact ⟨by rw [HR.out, if_neg HZ.out]; rfl, rfl⟩
set_option maxHeartbeats 3200000 in
theorem rread_eight (b o n c : Nat) (y0 y1 y2 y3 y4 y5 y6 y7 : Int) (r : List Int) (w : World) (l0 : 0 ≤ y0) (u0 : y0 ≤ 255) (l1 : 0 ≤ y1) (u1 : y1 ≤ 255) (l2 : 0 ≤ y2) (u2 : y2 ≤ 255) (l3 : 0 ≤ y3) (u3 : y3 ≤ 255) (l4 : 0 ≤ y4) (u4 : y4 ≤ 255) (l5 : 0 ≤ y5) (u5 : y5 ≤ 255) (l6 : 0 ≤ y6) (u6 : y6 ≤ 255) (l7 : 0 ≤ y7) (u7 : y7 ≤ 255) (g0 : 192 ≤ y0) (g1 : y0 < 256) (hn : n = r.length + 8) (hc : n ≤ c) (hm : c ≤ 9223372036854775807) (x0 : w.cell? ⟨b, o, none⟩ = some (.int .u8 y0)) (x1 : w.cell? ⟨b, o + 1, none⟩ = some (.int .u8 y1)) (x2 : w.cell? ⟨b, o + 2, none⟩ = some (.int .u8 y2)) (x3 : w.cell? ⟨b, o + 3, none⟩ = some (.int .u8 y3)) (x4 : w.cell? ⟨b, o + 4, none⟩ = some (.int .u8 y4)) (x5 : w.cell? ⟨b, o + 5, none⟩ = some (.int .u8 y5)) (x6 : w.cell? ⟨b, o + 6, none⟩ = some (.int .u8 y6)) (x7 : w.cell? ⟨b, o + 7, none⟩ = some (.int .u8 y7)) :
    Calls Tryd.prog 36 #[.slice (some ⟨b, o, none⟩) n c] w (ReadPost (y0 :: y1 :: y2 :: y3 :: y4 :: y5 :: y6 :: y7 :: r) w) := by
  obtain ⟨V, hV⟩ : ∃ V, V = 256 * (256 * (256 * (256 * (256 * (256 * (256 * (y0 % 64) + y1) + y2) + y3) + y4) + y5) + y6) + y7 := ⟨_, rfl⟩
  have HV := Lib.hid hV
  have HR : Hid (readV (y0 :: y1 :: y2 :: y3 :: y4 :: y5 :: y6 :: y7 :: r) = if sizeV V = 8 then (V, 8, 0) else (0, 0, 3)) := by show _ = _; rw [hV]; exact readV_go (sizeOfB_eight (by omega)) (by simp) (by simp only [beF, List.take_succ_cons, List.take_zero, List.drop_succ_cons, List.drop_zero, List.foldl_cons, List.foldl_nil]; omega)
  have v0 : 0 ≤ V := by omega
  have v1 : V ≤ 4611686018427387903 := by omega
  clear hV
  have hq : Int.tdiv y0 64 = 3 := by rw [Int.tdiv_eq_ediv_of_nonneg l0]; omega
  have hm0 : Int.tmod y0 64 = y0 % 64 := Int.tmod_eq_emod_of_nonneg l0
  have hq' : y0 / 64 = 3 := by omega
  go_enter Tryd.func36, Tryd.ntmps36
  go_wp2_with fail
  refine wp_loop_rounds 4 ?_
  rw [rounds_succ]
  go_wp2_with fail
  rw [rounds_succ]
  go_wp2_with fail
  rw [rounds_succ]
  go_wp2_with fail
  rw [rounds_succ]
  go_wp2_with fail
  refine wp_loop_rounds 8 ?_
  rw [rounds_succ]
  go_wp2_with fail
  rw [rounds_succ]
  go_wp2_with fail
  rw [rounds_succ]
  go_wp2_with fail
  rw [rounds_succ]
  go_wp2_with fail
  rw [rounds_succ]
  go_wp2_with fail
  rw [rounds_succ]
  go_wp2_with fail
  rw [rounds_succ]
  go_wp2_with fail
  rw [rounds_succ]
  go_wp2_with fail
  rw [← HV.out]
  clear HV
  have key := rsize_any V w
  refine key.mono ?_
  clear key
  rintro e w1 ⟨rfl, rfl⟩
  by_cases hz : sizeV V = 8
  · have hzb : (((sizeV V : Nat) : Int) != 8) = false := by rw [hz]; rfl
    have HZ := Lib.hid hz
    clear hz
    go_wp2_with fail
    go_returns
    exact ⟨by rw [HR.out, if_pos HZ.out]; rfl, rfl⟩
  · have hzb : (((sizeV V : Nat) : Int) != 8) = true := by rw [bne_iff_ne]; omega
    have HZ := Lib.hid hz
    clear hz
    go_wp2_with fail
    go_returns
    exact ⟨by rw [HR.out, if_neg HZ.out]; rfl, rfl⟩
set_option maxHeartbeats 1600000 in
theorem vread_short_two (b o n c : Nat) (y0 : Int) (r : List Int) (w : World) (l0 : 0 ≤ y0) (u0 : y0 ≤ 255) (g0 : 64 ≤ y0) (g1 : y0 < 128) (hn : n = r.length + 1) (hs : n < 2) (hc : n ≤ c) (hm : c ≤ 9223372036854775807) (x0 : w.cell? ⟨b, o, none⟩ = some (.int .u8 y0)) :
    Calls Tryd.prog 46 #[.slice (some ⟨b, o, none⟩) n c] w (ReadPost (y0 :: r) w) := by
  have HR : Hid (readV (y0 :: r) = (0, 0, 2)) := readV_short (by rw [sizeOfB_two (by omega) (by omega)]; simp; omega)
  have hq : y0 / 64 = 1 := by omega
  go_enter Tryd.func46, Tryd.ntmps46
  go_wp2_with fail
  go_returns
  exact ⟨by rw [HR.out]; rfl, rfl⟩
set_option maxHeartbeats 1600000 in
theorem rread_short_two (b o n c : Nat) (y0 : Int) (r : List Int) (w : World) (l0 : 0 ≤ y0) (u0 : y0 ≤ 255) (g0 : 64 ≤ y0) (g1 : y0 < 128) (hn : n = r.length + 1) (hs : n < 2) (hc : n ≤ c) (hm : c ≤ 9223372036854775807) (x0 : w.cell? ⟨b, o, none⟩ = some (.int .u8 y0)) :
    Calls Tryd.prog 36 #[.slice (some ⟨b, o, none⟩) n c] w (ReadPost (y0 :: r) w) := by
  have HR : Hid (readV (y0 :: r) = (0, 0, 2)) := readV_short (by rw [sizeOfB_two (by omega) (by omega)]; simp; omega)
  have hq : Int.tdiv y0 64 = 1 := by rw [Int.tdiv_eq_ediv_of_nonneg l0]; omega
  have hq' : y0 / 64 = 1 := by omega
  go_enter Tryd.func36, Tryd.ntmps36
  go_wp2_with fail
  refine wp_loop_rounds 2 ?_
  rw [rounds_succ]
  go_wp2_with fail
  rw [rounds_succ]
  go_wp2_with fail
  go_returns
  exact ⟨by rw [HR.out]; rfl, rfl⟩
set_option maxHeartbeats 1600000 in
theorem vread_short_four (b o n c : Nat) (y0 : Int) (r : List Int) (w : World) (l0 : 0 ≤ y0) (u0 : y0 ≤ 255) (g0 : 128 ≤ y0) (g1 : y0 < 192) (hn : n = r.length + 1) (hs : n < 4) (hc : n ≤ c) (hm : c ≤ 9223372036854775807) (x0 : w.cell? ⟨b, o, none⟩ = some (.int .u8 y0)) :
    Calls Tryd.prog 46 #[.slice (some ⟨b, o, none⟩) n c] w (ReadPost (y0 :: r) w) := by
  have HR : Hid (readV (y0 :: r) = (0, 0, 2)) := readV_short (by rw [sizeOfB_four (by omega) (by omega)]; simp; omega)
  have hq : y0 / 64 = 2 := by omega
  go_enter Tryd.func46, Tryd.ntmps46
  go_wp2_with fail
  go_returns
  exact ⟨by rw [HR.out]; rfl, rfl⟩
set_option maxHeartbeats 1600000 in
theorem rread_short_four (b o n c : Nat) (y0 : Int) (r : List Int) (w : World) (l0 : 0 ≤ y0) (u0 : y0 ≤ 255) (g0 : 128 ≤ y0) (g1 : y0 < 192) (hn : n = r.length + 1) (hs : n < 4) (hc : n ≤ c) (hm : c ≤ 9223372036854775807) (x0 : w.cell? ⟨b, o, none⟩ = some (.int .u8 y0)) :
    Calls Tryd.prog 36 #[.slice (some ⟨b, o, none⟩) n c] w (ReadPost (y0 :: r) w) := by
  have HR : Hid (readV (y0 :: r) = (0, 0, 2)) := readV_short (by rw [sizeOfB_four (by omega) (by omega)]; simp; omega)
  have hq : Int.tdiv y0 64 = 2 := by rw [Int.tdiv_eq_ediv_of_nonneg l0]; omega
  have hq' : y0 / 64 = 2 := by omega
  go_enter Tryd.func36, Tryd.ntmps36
  go_wp2_with fail
  refine wp_loop_rounds 3 ?_
  rw [rounds_succ]
  go_wp2_with fail
  rw [rounds_succ]
  go_wp2_with fail
  rw [rounds_succ]
  go_wp2_with fail
  go_returns
  exact ⟨by rw [HR.out]; rfl, rfl⟩
set_option maxHeartbeats 1600000 in
theorem vread_short_eight (b o n c : Nat) (y0 : Int) (r : List Int) (w : World) (l0 : 0 ≤ y0) (u0 : y0 ≤ 255) (g0 : 192 ≤ y0) (g1 : y0 < 256) (hn : n = r.length + 1) (hs : n < 8) (hc : n ≤ c) (hm : c ≤ 9223372036854775807) (x0 : w.cell? ⟨b, o, none⟩ = some (.int .u8 y0)) :
    Calls Tryd.prog 46 #[.slice (some ⟨b, o, none⟩) n c] w (ReadPost (y0 :: r) w) := by
  have HR : Hid (readV (y0 :: r) = (0, 0, 2)) := readV_short (by rw [sizeOfB_eight (by omega)]; simp; omega)
  have hq : y0 / 64 = 3 := by omega
  go_enter Tryd.func46, Tryd.ntmps46
  go_wp2_with fail
  go_returns
  exact ⟨by rw [HR.out]; rfl, rfl⟩
set_option maxHeartbeats 1600000 in
theorem rread_short_eight (b o n c : Nat) (y0 : Int) (r : List Int) (w : World) (l0 : 0 ≤ y0) (u0 : y0 ≤ 255) (g0 : 192 ≤ y0) (g1 : y0 < 256) (hn : n = r.length + 1) (hs : n < 8) (hc : n ≤ c) (hm : c ≤ 9223372036854775807) (x0 : w.cell? ⟨b, o, none⟩ = some (.int .u8 y0)) :
    Calls Tryd.prog 36 #[.slice (some ⟨b, o, none⟩) n c] w (ReadPost (y0 :: r) w) := by
  have HR : Hid (readV (y0 :: r) = (0, 0, 2)) := readV_short (by rw [sizeOfB_eight (by omega)]; simp; omega)
  have hq : Int.tdiv y0 64 = 3 := by rw [Int.tdiv_eq_ediv_of_nonneg l0]; omega
  have hq' : y0 / 64 = 3 := by omega
  go_enter Tryd.func36, Tryd.ntmps36
  go_wp2_with fail
  refine wp_loop_rounds 4 ?_
  rw [rounds_succ]
  go_wp2_with fail
  rw [rounds_succ]
  go_wp2_with fail
  rw [rounds_succ]
  go_wp2_with fail
  rw [rounds_succ]
  go_wp2_with fail
  go_returns
  exact ⟨by rw [HR.out]; rfl, rfl⟩
theorem vread_any {B : Nat} (A : Option Addr) (n c : Nat) (xs : List Int) (w : World) (h : Rds B w .u8 A n c xs) (hb : Byt xs) : Calls Tryd.prog 46 #[.slice A n c] w (ReadPost xs w) := by
  obtain ⟨hl, hc, hm, hcell, -⟩ := h
  match xs, hl with
  | [], hl =>
    obtain rfl : n = 0 := by simpa using hl.symm
    exact vread_nil A c w
  | y0 :: r, hl =>
    obtain ⟨b, o, rfl, hx⟩ := hcell.at_ (by simp)
    have l0 := (hb y0 (by simp)).1
    have u0 := (hb y0 (by simp)).2
    have x0 := hx 0 (by simp)
    have hn : n = r.length + 1 := by simpa using hl.symm
    by_cases g1 : y0 < 64
    · exact vread_one b o n c y0 r w l0 u0 (by omega) g1 hn hc hm x0
    by_cases g2 : y0 < 128
    · by_cases hs : n < 2
      · exact vread_short_two b o n c y0 r w l0 u0 (by omega) g2 hn hs hc hm x0
      match r, hn with
      | y1 :: r, hn =>
        have b1 := hb y1 (by simp)
        have x1 := hx 1 (by simp)
        exact vread_two b o n c y0 y1 r w l0 u0 b1.1 b1.2 (by omega) g2 (by simp at hn; omega) hc hm x0 x1
      | [], hn => exact absurd hn (by simp; omega)
    by_cases g4 : y0 < 192
    · by_cases hs : n < 4
      · exact vread_short_four b o n c y0 r w l0 u0 (by omega) g4 hn hs hc hm x0
      match r, hn with
      | y1 :: y2 :: y3 :: r, hn =>
        have b1 := hb y1 (by simp)
        have x1 := hx 1 (by simp)
        have b2 := hb y2 (by simp)
        have x2 := hx 2 (by simp)
        have b3 := hb y3 (by simp)
        have x3 := hx 3 (by simp)
        exact vread_four b o n c y0 y1 y2 y3 r w l0 u0 b1.1 b1.2 b2.1 b2.2 b3.1 b3.2 (by omega) g4 (by simp at hn; omega) hc hm x0 x1 x2 x3
      | [], hn => exact absurd hn (by simp; omega)
      | [y1], hn => exact absurd hn (by simp; omega)
      | [y1, y2], hn => exact absurd hn (by simp; omega)
    by_cases hs : n < 8
    · exact vread_short_eight b o n c y0 r w l0 u0 (by omega) (by omega) hn hs hc hm x0
    match r, hn with
    | y1 :: y2 :: y3 :: y4 :: y5 :: y6 :: y7 :: r, hn =>
      have b1 := hb y1 (by simp)
      have x1 := hx 1 (by simp)
      have b2 := hb y2 (by simp)
      have x2 := hx 2 (by simp)
      have b3 := hb y3 (by simp)
      have x3 := hx 3 (by simp)
      have b4 := hb y4 (by simp)
      have x4 := hx 4 (by simp)
      have b5 := hb y5 (by simp)
      have x5 := hx 5 (by simp)
      have b6 := hb y6 (by simp)
      have x6 := hx 6 (by simp)
      have b7 := hb y7 (by simp)
      have x7 := hx 7 (by simp)
      exact vread_eight b o n c y0 y1 y2 y3 y4 y5 y6 y7 r w l0 u0 b1.1 b1.2 b2.1 b2.2 b3.1 b3.2 b4.1 b4.2 b5.1 b5.2 b6.1 b6.2 b7.1 b7.2 (by omega) (by omega) (by simp at hn; omega) hc hm x0 x1 x2 x3 x4 x5 x6 x7
    | [], hn => exact absurd hn (by simp; omega)
    | [y1], hn => exact absurd hn (by simp; omega)
    | [y1, y2], hn => exact absurd hn (by simp; omega)
    | [y1, y2, y3], hn => exact absurd hn (by simp; omega)
    | [y1, y2, y3, y4], hn => exact absurd hn (by simp; omega)
    | [y1, y2, y3, y4, y5], hn => exact absurd hn (by simp; omega)
    | [y1, y2, y3, y4, y5, y6], hn => exact absurd hn (by simp; omega)
theorem rread_any {B : Nat} (A : Option Addr) (n c : Nat) (xs : List Int) (w : World) (h : Rds B w .u8 A n c xs) (hb : Byt xs) : Calls Tryd.prog 36 #[.slice A n c] w (ReadPost xs w) := by
  obtain ⟨hl, hc, hm, hcell, -⟩ := h
  match xs, hl with
  | [], hl =>
    obtain rfl : n = 0 := by simpa using hl.symm
    exact rread_nil A c w
  | y0 :: r, hl =>
    obtain ⟨b, o, rfl, hx⟩ := hcell.at_ (by simp)
    have l0 := (hb y0 (by simp)).1
    have u0 := (hb y0 (by simp)).2
    have x0 := hx 0 (by simp)
    have hn : n = r.length + 1 := by simpa using hl.symm
    by_cases g1 : y0 < 64
    · exact rread_one b o n c y0 r w l0 u0 (by omega) g1 hn hc hm x0
    by_cases g2 : y0 < 128
    · by_cases hs : n < 2
      · exact rread_short_two b o n c y0 r w l0 u0 (by omega) g2 hn hs hc hm x0
      match r, hn with
      | y1 :: r, hn =>
        have b1 := hb y1 (by simp)
        have x1 := hx 1 (by simp)
        exact rread_two b o n c y0 y1 r w l0 u0 b1.1 b1.2 (by omega) g2 (by simp at hn; omega) hc hm x0 x1
      | [], hn => exact absurd hn (by simp; omega)
    by_cases g4 : y0 < 192
    · by_cases hs : n < 4
      · exact rread_short_four b o n c y0 r w l0 u0 (by omega) g4 hn hs hc hm x0
      match r, hn with
      | y1 :: y2 :: y3 :: r, hn =>
        have b1 := hb y1 (by simp)
        have x1 := hx 1 (by simp)
        have b2 := hb y2 (by simp)
        have x2 := hx 2 (by simp)
        have b3 := hb y3 (by simp)
        have x3 := hx 3 (by simp)
        exact rread_four b o n c y0 y1 y2 y3 r w l0 u0 b1.1 b1.2 b2.1 b2.2 b3.1 b3.2 (by omega) g4 (by simp at hn; omega) hc hm x0 x1 x2 x3
      | [], hn => exact absurd hn (by simp; omega)
      | [y1], hn => exact absurd hn (by simp; omega)
      | [y1, y2], hn => exact absurd hn (by simp; omega)
    by_cases hs : n < 8
    · exact rread_short_eight b o n c y0 r w l0 u0 (by omega) (by omega) hn hs hc hm x0
    match r, hn with
    | y1 :: y2 :: y3 :: y4 :: y5 :: y6 :: y7 :: r, hn =>
      have b1 := hb y1 (by simp)
      have x1 := hx 1 (by simp)
      have b2 := hb y2 (by simp)
      have x2 := hx 2 (by simp)
      have b3 := hb y3 (by simp)
      have x3 := hx 3 (by simp)
      have b4 := hb y4 (by simp)
      have x4 := hx 4 (by simp)
      have b5 := hb y5 (by simp)
      have x5 := hx 5 (by simp)
      have b6 := hb y6 (by simp)
      have x6 := hx 6 (by simp)
      have b7 := hb y7 (by simp)
      have x7 := hx 7 (by simp)
      exact rread_eight b o n c y0 y1 y2 y3 y4 y5 y6 y7 r w l0 u0 b1.1 b1.2 b2.1 b2.2 b3.1 b3.2 b4.1 b4.2 b5.1 b5.2 b6.1 b6.2 b7.1 b7.2 (by omega) (by omega) (by simp at hn; omega) hc hm x0 x1 x2 x3 x4 x5 x6 x7
    | [], hn => exact absurd hn (by simp; omega)
    | [y1], hn => exact absurd hn (by simp; omega)
    | [y1, y2], hn => exact absurd hn (by simp; omega)
    | [y1, y2, y3], hn => exact absurd hn (by simp; omega)
    | [y1, y2, y3, y4], hn => exact absurd hn (by simp; omega)
    | [y1, y2, y3, y4, y5], hn => exact absurd hn (by simp; omega)
    | [y1, y2, y3, y4, y5, y6], hn => exact absurd hn (by simp; omega)
end Go.Proofs.YtmaedahleenlgaaDoor

/- Numbers of one to eight bytes: Append. No condition but the table of bit places. -/
set_option linter.unusedVariables false
set_option linter.unusedSimpArgs false
namespace Go.Proofs.YtmaedahleenlgaaDoor
open Go Go.RowKit

theorem OwnI.of_eq {w : World} {B : Nat} {k : IntKind} {v : Value} {xs ys : List Int} (h : xs = ys) (o : OwnI w B k v xs) : OwnI w B k v ys := h ▸ o
set_option maxHeartbeats 800000 in
set_option maxRecDepth 100000 in
theorem cloneB_any {B : Nat} (A : Option Addr) (n c : Nat) (xs : List Int) (w : World) (hr : Rds B w .u8 A n c xs) (hn : n ≤ 1000000) : Calls Tryd.prog 52 #[.slice A n c] w (BytesPost xs w) := by
  have hl := Lib.hid hr.len
  cases A with
  | none =>
    have h0 : n = 0 := by
      rcases Nat.eq_zero_or_pos n with h | h
      · exact h
      · obtain ⟨ad, e, _⟩ := hr.cell 0 (by have := hr.len; omega)
        cases e
    subst h0
    have hx : xs = [] := List.eq_nil_of_length_eq_zero hl.out
    subst hx
    have he := Lib.run_eql_slice_nil (P := Tryd.prog) w 22 5 none 0 c 0 0 Tryd.underlying22
    clear hr
    go_enter Tryd.func52, Tryd.ntmps52
    go_wp2_with fail
    go_ret
    exact ⟨_, rfl, OwnI.nil _ _ _, Below.refl _ _⟩
  | some a =>
    have he := Lib.run_eql_slice_nil (P := Tryd.prog) w 22 5 (some a) n c 0 0 Tryd.underlying22
    have HR := Lib.hid hr
    clear hr
    go_enter Tryd.func52, Tryd.ntmps52
    go_wp2_with (at_builtin; refine wp_app_u8 (xs := []) (ys := xs) rfl _ _ rfl rfl rfl (OwnI.empty (B := w.heap.size) (Nat.le_refl _) sp_u8) ?_ hl.out ?_ ?_ ?_)
    · exact (HR.out.below (below_new _)).cell
    · simp
    · simp; omega
    intro v' w3 hv3 hg3 hb3
    try simp only [List.nil_append] at hv3
    have HV := Lib.hid hv3
    clear hv3 hg3
    go_wp2_with fail
    go_ret
    exact ⟨_, rfl, HV.out, ((Below.refl _ _).alloc (Nat.le_refl _) _).trans hb3⟩

set_option maxHeartbeats 3200000 in
set_option maxRecDepth 100000 in
theorem vappend1_any {B : Nat} (A : Option Addr) (n c : Nat) (xs : List Int) (N : Int) (w : World) (hr : Rds B w .u8 A n c xs) (hn : n ≤ 100000) (ht : Tz w) (k : sizeV N = 1) (h0 : 0 ≤ N) (h1 : N < 64) : Calls Tryd.prog 39 #[.slice A n c, .int .i64 N] w (BytesPost (xs ++ varB N) w) := by
  have key := cloneB_any A n c xs w hr (by omega)
  have HT := Lib.hid ht
  have HL := Lib.hid hr.len
  have HE : Hid (xs ++ varB N = _) := congrArg (xs ++ ·) (varB_one k)
  clear ht hr
  have hV : bits .or .u64 N (IntKind.u64.wrap (IntKind.u64.wrap (ctz 1) * 64)) = 0 + N := u64_or 0 N 6 (by omega) (by decide) (by omega) (by omega) (by omega) (by omega)
  have HVs := Lib.hid hV
  go_enter Tryd.func39, Tryd.ntmps39
  go_wp2_with fail
  refine key.mono ?_
  clear key
  rintro e w1 ⟨v1, rfl, hv1, hb1⟩
  have HT1 := Lib.hid (HT.out.later hb1)
  have HV0 := Lib.hid hv1
  have HB0 := Lib.hid hb1
  have key := vsize_any N w1
  rw [k] at key
  clear hv1 hb1 HT
  go_wp2_with fail
  refine key.mono ?_
  clear key
  rintro e w2 ⟨rfl, rfl⟩
  have key := tz_any 1 (by simp) w1 HT1.out
  go_wp2_with fail
  refine key.mono ?_
  clear key
  rintro e w2 ⟨rfl, rfl⟩
  go_wp2_with fail
  clear hV
  try rw [HVs.out]
  obtain ⟨w0', hw0⟩ : ∃ q, q = w1 := ⟨_, rfl⟩
  rw [← hw0] at HV0 HB0 ⊢
  clear hw0 HT1
  refine wp_loop_rounds 2 ?_
  rw [rounds_succ]
  go_wp2_with (at_builtin; refine wp_app_u8 (ys := [_]) rfl _ _ rfl rfl rfl (HV0.out.below (below_new _)) (RdI.one_at _ .u8 _ _ rfl) rfl ?_ ?_ ?_)
  · have := HB0.out.size; simp; omega
  · have := HL.out; simp; omega
  intro v2 u2 hv hg hb
  have HV1 := Lib.hid hv
  have HB1 := Lib.hid ((HB0.out.alloc HB0.out.size _).trans hb)
  clear hv hg hb HV0 HB0
  go_wp2_with fail
  rw [rounds_succ]
  go_wp2_with fail
  go_ret
  refine ⟨_, rfl, ?_, HB1.out⟩
  rw [HE.out]
  refine OwnI.of_eq ?_ HV1.out
  congr 1 <;> (simp only [List.cons.injEq, and_true]; omega)
set_option maxHeartbeats 3200000 in
set_option maxRecDepth 100000 in
theorem vappend2_any {B : Nat} (A : Option Addr) (n c : Nat) (xs : List Int) (N : Int) (w : World) (hr : Rds B w .u8 A n c xs) (hn : n ≤ 100000) (ht : Tz w) (k : sizeV N = 2) (h0 : 64 ≤ N) (h1 : N < 16384) : Calls Tryd.prog 39 #[.slice A n c, .int .i64 N] w (BytesPost (xs ++ varB N) w) := by
  have key := cloneB_any A n c xs w hr (by omega)
  have HT := Lib.hid ht
  have HL := Lib.hid hr.len
  have HE : Hid (xs ++ varB N = _) := congrArg (xs ++ ·) (varB_two k)
  clear ht hr
  have hV : bits .or .u64 N (IntKind.u64.wrap (IntKind.u64.wrap (ctz 2) * 16384)) = 16384 + N := u64_or 16384 N 14 (by omega) (by decide) (by omega) (by omega) (by omega) (by omega)
  have HVs := Lib.hid hV
  go_enter Tryd.func39, Tryd.ntmps39
  go_wp2_with fail
  refine key.mono ?_
  clear key
  rintro e w1 ⟨v1, rfl, hv1, hb1⟩
  have HT1 := Lib.hid (HT.out.later hb1)
  have HV0 := Lib.hid hv1
  have HB0 := Lib.hid hb1
  have key := vsize_any N w1
  rw [k] at key
  clear hv1 hb1 HT
  go_wp2_with fail
  refine key.mono ?_
  clear key
  rintro e w2 ⟨rfl, rfl⟩
  have key := tz_any 2 (by simp) w1 HT1.out
  go_wp2_with fail
  refine key.mono ?_
  clear key
  rintro e w2 ⟨rfl, rfl⟩
  go_wp2_with fail
  clear hV
  try rw [HVs.out]
  obtain ⟨w0', hw0⟩ : ∃ q, q = w1 := ⟨_, rfl⟩
  rw [← hw0] at HV0 HB0 ⊢
  clear hw0 HT1
  refine wp_loop_rounds 3 ?_
  rw [rounds_succ]
  go_wp2_with (at_builtin; refine wp_app_u8 (ys := [_]) rfl _ _ rfl rfl rfl (HV0.out.below (below_new _)) (RdI.one_at _ .u8 _ _ rfl) rfl ?_ ?_ ?_)
  · have := HB0.out.size; simp; omega
  · have := HL.out; simp; omega
  intro v2 u2 hv hg hb
  have HV1 := Lib.hid hv
  have HB1 := Lib.hid ((HB0.out.alloc HB0.out.size _).trans hb)
  clear hv hg hb HV0 HB0
  go_wp2_with fail
  rw [rounds_succ]
  go_wp2_with (at_builtin; refine wp_app_u8 (ys := [_]) rfl _ _ rfl rfl rfl (HV1.out.below (below_new _)) (RdI.one_at _ .u8 _ _ rfl) rfl ?_ ?_ ?_)
  · have := HB1.out.size; simp; omega
  · have := HL.out; simp; omega
  intro v3 u3 hv hg hb
  have HV2 := Lib.hid hv
  have HB2 := Lib.hid ((HB1.out.alloc HB1.out.size _).trans hb)
  clear hv hg hb HV1 HB1
  go_wp2_with fail
  rw [rounds_succ]
  go_wp2_with fail
  go_ret
  refine ⟨_, rfl, ?_, HB2.out⟩
  rw [HE.out]
  refine OwnI.of_eq ?_ HV2.out
  congr 1 <;> (simp only [List.cons.injEq, and_true]; omega)
set_option maxHeartbeats 3200000 in
set_option maxRecDepth 100000 in
theorem vappend4_any {B : Nat} (A : Option Addr) (n c : Nat) (xs : List Int) (N : Int) (w : World) (hr : Rds B w .u8 A n c xs) (hn : n ≤ 100000) (ht : Tz w) (k : sizeV N = 4) (h0 : 16384 ≤ N) (h1 : N < 1073741824) : Calls Tryd.prog 39 #[.slice A n c, .int .i64 N] w (BytesPost (xs ++ varB N) w) := by
  have key := cloneB_any A n c xs w hr (by omega)
  have HT := Lib.hid ht
  have HL := Lib.hid hr.len
  have HE : Hid (xs ++ varB N = _) := congrArg (xs ++ ·) (varB_four k)
  clear ht hr
  have hV : bits .or .u64 N (IntKind.u64.wrap (IntKind.u64.wrap (ctz 4) * 1073741824)) = 2147483648 + N := u64_or 2147483648 N 30 (by omega) (by decide) (by omega) (by omega) (by omega) (by omega)
  have HVs := Lib.hid hV
  go_enter Tryd.func39, Tryd.ntmps39
  go_wp2_with fail
  refine key.mono ?_
  clear key
  rintro e w1 ⟨v1, rfl, hv1, hb1⟩
  have HT1 := Lib.hid (HT.out.later hb1)
  have HV0 := Lib.hid hv1
  have HB0 := Lib.hid hb1
  have key := vsize_any N w1
  rw [k] at key
  clear hv1 hb1 HT
  go_wp2_with fail
  refine key.mono ?_
  clear key
  rintro e w2 ⟨rfl, rfl⟩
  have key := tz_any 4 (by simp) w1 HT1.out
  go_wp2_with fail
  refine key.mono ?_
  clear key
  rintro e w2 ⟨rfl, rfl⟩
  go_wp2_with fail
  clear hV
  try rw [HVs.out]
  obtain ⟨w0', hw0⟩ : ∃ q, q = w1 := ⟨_, rfl⟩
  rw [← hw0] at HV0 HB0 ⊢
  clear hw0 HT1
  refine wp_loop_rounds 5 ?_
  rw [rounds_succ]
  go_wp2_with (at_builtin; refine wp_app_u8 (ys := [_]) rfl _ _ rfl rfl rfl (HV0.out.below (below_new _)) (RdI.one_at _ .u8 _ _ rfl) rfl ?_ ?_ ?_)
  · have := HB0.out.size; simp; omega
  · have := HL.out; simp; omega
  intro v2 u2 hv hg hb
  have HV1 := Lib.hid hv
  have HB1 := Lib.hid ((HB0.out.alloc HB0.out.size _).trans hb)
  clear hv hg hb HV0 HB0
  go_wp2_with fail
  rw [rounds_succ]
  go_wp2_with (at_builtin; refine wp_app_u8 (ys := [_]) rfl _ _ rfl rfl rfl (HV1.out.below (below_new _)) (RdI.one_at _ .u8 _ _ rfl) rfl ?_ ?_ ?_)
  · have := HB1.out.size; simp; omega
  · have := HL.out; simp; omega
  intro v3 u3 hv hg hb
  have HV2 := Lib.hid hv
  have HB2 := Lib.hid ((HB1.out.alloc HB1.out.size _).trans hb)
  clear hv hg hb HV1 HB1
  go_wp2_with fail
  rw [rounds_succ]
  go_wp2_with (at_builtin; refine wp_app_u8 (ys := [_]) rfl _ _ rfl rfl rfl (HV2.out.below (below_new _)) (RdI.one_at _ .u8 _ _ rfl) rfl ?_ ?_ ?_)
  · have := HB2.out.size; simp; omega
  · have := HL.out; simp; omega
  intro v4 u4 hv hg hb
  have HV3 := Lib.hid hv
  have HB3 := Lib.hid ((HB2.out.alloc HB2.out.size _).trans hb)
  clear hv hg hb HV2 HB2
  go_wp2_with fail
  rw [rounds_succ]
  go_wp2_with (at_builtin; refine wp_app_u8 (ys := [_]) rfl _ _ rfl rfl rfl (HV3.out.below (below_new _)) (RdI.one_at _ .u8 _ _ rfl) rfl ?_ ?_ ?_)
  · have := HB3.out.size; simp; omega
  · have := HL.out; simp; omega
  intro v5 u5 hv hg hb
  have HV4 := Lib.hid hv
  have HB4 := Lib.hid ((HB3.out.alloc HB3.out.size _).trans hb)
  clear hv hg hb HV3 HB3
  go_wp2_with fail
  rw [rounds_succ]
  go_wp2_with fail
  go_ret
  refine ⟨_, rfl, ?_, HB4.out⟩
  rw [HE.out]
  refine OwnI.of_eq ?_ HV4.out
  congr 1 <;> (simp only [List.cons.injEq, and_true]; omega)
set_option maxHeartbeats 3200000 in
set_option maxRecDepth 100000 in
theorem vappend8_any {B : Nat} (A : Option Addr) (n c : Nat) (xs : List Int) (N : Int) (w : World) (hr : Rds B w .u8 A n c xs) (hn : n ≤ 100000) (ht : Tz w) (k : sizeV N = 8) (h0 : 1073741824 ≤ N) (h1 : N ≤ 4611686018427387903) : Calls Tryd.prog 39 #[.slice A n c, .int .i64 N] w (BytesPost (xs ++ varB N) w) := by
  have key := cloneB_any A n c xs w hr (by omega)
  have HT := Lib.hid ht
  have HL := Lib.hid hr.len
  have HE : Hid (xs ++ varB N = _) := congrArg (xs ++ ·) (varB_eight k)
  clear ht hr
  have hV : bits .or .u64 N (IntKind.u64.wrap (IntKind.u64.wrap (ctz 8) * 4611686018427387904)) = 13835058055282163712 + N := u64_or 13835058055282163712 N 62 (by omega) (by decide) (by omega) (by omega) (by omega) (by omega)
  have HVs := Lib.hid hV
  go_enter Tryd.func39, Tryd.ntmps39
  go_wp2_with fail
  refine key.mono ?_
  clear key
  rintro e w1 ⟨v1, rfl, hv1, hb1⟩
  have HT1 := Lib.hid (HT.out.later hb1)
  have HV0 := Lib.hid hv1
  have HB0 := Lib.hid hb1
  have key := vsize_any N w1
  rw [k] at key
  clear hv1 hb1 HT
  go_wp2_with fail
  refine key.mono ?_
  clear key
  rintro e w2 ⟨rfl, rfl⟩
  have key := tz_any 8 (by simp) w1 HT1.out
  go_wp2_with fail
  refine key.mono ?_
  clear key
  rintro e w2 ⟨rfl, rfl⟩
  go_wp2_with fail
  clear hV
  try rw [HVs.out]
  obtain ⟨w0', hw0⟩ : ∃ q, q = w1 := ⟨_, rfl⟩
  rw [← hw0] at HV0 HB0 ⊢
  clear hw0 HT1
  refine wp_loop_rounds 9 ?_
  rw [rounds_succ]
  go_wp2_with (at_builtin; refine wp_app_u8 (ys := [_]) rfl _ _ rfl rfl rfl (HV0.out.below (below_new _)) (RdI.one_at _ .u8 _ _ rfl) rfl ?_ ?_ ?_)
  · have := HB0.out.size; simp; omega
  · have := HL.out; simp; omega
  intro v2 u2 hv hg hb
  have HV1 := Lib.hid hv
  have HB1 := Lib.hid ((HB0.out.alloc HB0.out.size _).trans hb)
  clear hv hg hb HV0 HB0
  go_wp2_with fail
  rw [rounds_succ]
  go_wp2_with (at_builtin; refine wp_app_u8 (ys := [_]) rfl _ _ rfl rfl rfl (HV1.out.below (below_new _)) (RdI.one_at _ .u8 _ _ rfl) rfl ?_ ?_ ?_)
  · have := HB1.out.size; simp; omega
  · have := HL.out; simp; omega
  intro v3 u3 hv hg hb
  have HV2 := Lib.hid hv
  have HB2 := Lib.hid ((HB1.out.alloc HB1.out.size _).trans hb)
  clear hv hg hb HV1 HB1
  go_wp2_with fail
  rw [rounds_succ]
  go_wp2_with (at_builtin; refine wp_app_u8 (ys := [_]) rfl _ _ rfl rfl rfl (HV2.out.below (below_new _)) (RdI.one_at _ .u8 _ _ rfl) rfl ?_ ?_ ?_)
  · have := HB2.out.size; simp; omega
  · have := HL.out; simp; omega
  intro v4 u4 hv hg hb
  have HV3 := Lib.hid hv
  have HB3 := Lib.hid ((HB2.out.alloc HB2.out.size _).trans hb)
  clear hv hg hb HV2 HB2
  go_wp2_with fail
  rw [rounds_succ]
  go_wp2_with (at_builtin; refine wp_app_u8 (ys := [_]) rfl _ _ rfl rfl rfl (HV3.out.below (below_new _)) (RdI.one_at _ .u8 _ _ rfl) rfl ?_ ?_ ?_)
  · have := HB3.out.size; simp; omega
  · have := HL.out; simp; omega
  intro v5 u5 hv hg hb
  have HV4 := Lib.hid hv
  have HB4 := Lib.hid ((HB3.out.alloc HB3.out.size _).trans hb)
  clear hv hg hb HV3 HB3
  go_wp2_with fail
  rw [rounds_succ]
  go_wp2_with (at_builtin; refine wp_app_u8 (ys := [_]) rfl _ _ rfl rfl rfl (HV4.out.below (below_new _)) (RdI.one_at _ .u8 _ _ rfl) rfl ?_ ?_ ?_)
  · have := HB4.out.size; simp; omega
  · have := HL.out; simp; omega
  intro v6 u6 hv hg hb
  have HV5 := Lib.hid hv
  have HB5 := Lib.hid ((HB4.out.alloc HB4.out.size _).trans hb)
  clear hv hg hb HV4 HB4
  go_wp2_with fail
  rw [rounds_succ]
  go_wp2_with (at_builtin; refine wp_app_u8 (ys := [_]) rfl _ _ rfl rfl rfl (HV5.out.below (below_new _)) (RdI.one_at _ .u8 _ _ rfl) rfl ?_ ?_ ?_)
  · have := HB5.out.size; simp; omega
  · have := HL.out; simp; omega
  intro v7 u7 hv hg hb
  have HV6 := Lib.hid hv
  have HB6 := Lib.hid ((HB5.out.alloc HB5.out.size _).trans hb)
  clear hv hg hb HV5 HB5
  go_wp2_with fail
  rw [rounds_succ]
  go_wp2_with (at_builtin; refine wp_app_u8 (ys := [_]) rfl _ _ rfl rfl rfl (HV6.out.below (below_new _)) (RdI.one_at _ .u8 _ _ rfl) rfl ?_ ?_ ?_)
  · have := HB6.out.size; simp; omega
  · have := HL.out; simp; omega
  intro v8 u8 hv hg hb
  have HV7 := Lib.hid hv
  have HB7 := Lib.hid ((HB6.out.alloc HB6.out.size _).trans hb)
  clear hv hg hb HV6 HB6
  go_wp2_with fail
  rw [rounds_succ]
  go_wp2_with (at_builtin; refine wp_app_u8 (ys := [_]) rfl _ _ rfl rfl rfl (HV7.out.below (below_new _)) (RdI.one_at _ .u8 _ _ rfl) rfl ?_ ?_ ?_)
  · have := HB7.out.size; simp; omega
  · have := HL.out; simp; omega
  intro v9 u9 hv hg hb
  have HV8 := Lib.hid hv
  have HB8 := Lib.hid ((HB7.out.alloc HB7.out.size _).trans hb)
  clear hv hg hb HV7 HB7
  go_wp2_with fail
  rw [rounds_succ]
  go_wp2_with fail
  go_ret
  refine ⟨_, rfl, ?_, HB8.out⟩
  rw [HE.out]
  refine OwnI.of_eq ?_ HV8.out
  congr 1 <;> (simp only [List.cons.injEq, and_true]; omega)
set_option maxHeartbeats 800000 in
theorem vappend0_any {B : Nat} (A : Option Addr) (n c : Nat) (xs : List Int) (N : Int) (w : World) (hr : Rds B w .u8 A n c xs) (hn : n ≤ 100000) (k : sizeV N = 0) : Calls Tryd.prog 39 #[.slice A n c, .int .i64 N] w (BytesPost (xs ++ varB N) w) := by
  have key := cloneB_any A n c xs w hr (by omega)
  have HE : Hid (xs ++ varB N = xs) := by show _ = _; rw [varB_none k, List.append_nil]
  clear hr
  go_enter Tryd.func39, Tryd.ntmps39
  go_wp2_with fail
  refine key.mono ?_
  clear key
  rintro e w1 ⟨v1, rfl, hv1, hb1⟩
  have HV0 := Lib.hid hv1
  have HB0 := Lib.hid hb1
  have key := vsize_any N w1
  rw [k] at key
  clear hv1 hb1
  go_wp2_with fail
  refine key.mono ?_
  clear key
  rintro e w2 ⟨rfl, rfl⟩
  go_wp2_with fail
  go_ret
  rw [HE.out]
  exact ⟨_, rfl, HV0.out, HB0.out⟩
theorem vappend_any {B : Nat} (A : Option Addr) (n c : Nat) (xs : List Int) (N : Int) (w : World) (hr : Rds B w .u8 A n c xs) (hn : n ≤ 100000) (ht : Tz w) : Calls Tryd.prog 39 #[.slice A n c, .int .i64 N] w (BytesPost (xs ++ varB N) w) := by
  rcases sizeV_cases N with ⟨k, h1⟩ | ⟨k, h1, h2⟩ | ⟨k, h1, h2⟩ | ⟨k, h1, h2⟩ | ⟨k, h1, h2⟩
  · exact vappend0_any A n c xs N w hr hn k
  · exact vappend1_any A n c xs N w hr hn ht k h1 h2
  · exact vappend2_any A n c xs N w hr hn ht k h1 h2
  · exact vappend4_any A n c xs N w hr hn ht k h1 h2
  · exact vappend8_any A n c xs N w hr hn ht k h1 h2
end Go.Proofs.YtmaedahleenlgaaDoor

/- The reference's bytes of numbers. No condition. -/
set_option linter.unusedVariables false
set_option linter.unusedSimpArgs false
namespace Go.Proofs.YtmaedahleenlgaaDoor
open Go Go.RowKit

/-- A number is stored into a row of the call's own. -/
theorem OwnI.put {w : World} {B : Nat} {k : IntKind} {g n c : Nat} {xs : List Int} (h : OwnI w B k (.slice (some ⟨g, 0, none⟩) n c) xs) (i : Nat) (hi : i < n) (x : Int) : OwnI (w.setCell ⟨g, i, none⟩ (.int k x)) B k (.slice (some ⟨g, 0, none⟩) n c) (xs.set i x) := by
  rcases h with ⟨rfl, e⟩ | ⟨g', cap, cur, t, e, hb, hg, ht, h1, h2, h3, hc⟩
  · cases e
  · simp only [Value.slice.injEq, Option.some.injEq, Addr.mk.injEq, and_true] at e
    obtain ⟨rfl, rfl, rfl⟩ := e
    refine .inr ⟨g, c, cur.setIfInBounds i (.int k x), t, by simp, hb, heap_setCell_same w g i cur t _ hg, ht, by simpa using h1, by simpa using h2, h3, ?_⟩
    rw [List.length_set, Array.toList_setIfInBounds, List.take_set, hc, List.map_set]
theorem OwnI.at_ {w : World} {B : Nat} {k : IntKind} {g n c : Nat} {xs : List Int} (h : OwnI w B k (.slice (some ⟨g, 0, none⟩) n c) xs) (i : Nat) (hi : i < n) : w.cell? ⟨g, i, none⟩ = some (.int k (nth xs i)) ∧ w.frozen? ⟨g, i, none⟩ = false := by
  rcases h with ⟨rfl, e⟩ | ⟨g', cap, cur, t, e, hb, hg, ht, h1, h2, h3, hc⟩
  · cases e
  · simp only [Value.slice.injEq, Option.some.injEq, Addr.mk.injEq, and_true] at e
    obtain ⟨rfl, rfl, rfl⟩ := e
    refine ⟨?_, frozen_of_row w g i cur t hg⟩
    rw [cell_of_row w g i cur t (0, 0) hg]
    have e := congrArg (fun l => l[i]?) hc
    simp only [List.getElem?_take, if_pos hi, List.getElem?_map, nth_lt hi, Option.map_some] at e
    simpa using e
set_option maxHeartbeats 3200000 in
set_option maxRecDepth 100000 in
theorem rbytes1_any (N : Int) (w : World) (k : sizeV N = 1) (h0 : 0 ≤ N) (h1 : N < 64) : Calls Tryd.prog 31 #[.int .i64 N] w (BytesPost (varB N) w) := by
  have HE : Hid (varB N = _) := varB_one k
  have key := rsize_any N w
  rw [k] at key
  have m0 : Int.tmod (N) 256 = N % 256 := Int.tmod_eq_emod_of_nonneg (by omega)
  have d0 : Int.tdiv (N) 256 = N / 256 := by rw [Int.tdiv_eq_ediv_of_nonneg (by omega)]
  go_enter Tryd.func31, Tryd.ntmps31
  go_wp2_with fail
  refine key.mono ?_
  clear key
  rintro e w1 ⟨rfl, rfl⟩
  go_wp2_with fail
  refine wp_loop_rounds 2 ?_
  have HV0 : Hid (OwnI w w.heap.size .u8 (.slice none 0 0) []) := OwnI.nil _ _ _
  have HB0 : Hid (Below w.heap.size w w) := Below.refl _ _
  rw [rounds_succ]
  go_wp2_with (at_builtin; refine wp_app_u8 (xs := []) (ys := [_]) rfl _ _ rfl rfl rfl (HV0.out.below (below_new _)) (RdI.one_at _ .u8 _ _ rfl) rfl ?_ ?_ ?_)
  · have := HB0.out.size; simp; try omega
  · simp
  intro v1 u1 hv hg hb
  try simp only [List.nil_append, List.cons_append] at hv
  have HV1 := Lib.hid hv
  have HB1 := Lib.hid ((HB0.out.alloc HB0.out.size _).trans hb)
  clear hv hg hb HV0 HB0
  go_wp2_with fail
  rw [rounds_succ]
  go_wp2_with fail
  obtain ⟨g, cap, rfl, hgB, hgl, -⟩ := HV1.out.form (by simp)
  obtain ⟨c0, f0⟩ := HV1.out.at_ 0 (by simp)
  simp only [nth, List.getD_cons_zero, List.getD_cons_succ, List.length_cons, List.length_nil] at *
  refine wp_loop_rounds 2 ?_
  rw [rounds_succ]
  go_wp2_with fail
  rw [rounds_succ]
  go_wp2_with fail
  go_ret
  refine ⟨_, rfl, ?_, (Below.setCell HB1.out hgB _)⟩
  rw [HE.out]
  refine OwnI.of_eq ?_ (OwnI.put HV1.out 0 (by simp) _)
  simp only [List.set_cons_succ, List.set_cons_zero, List.cons.injEq, and_true]
  try omega

set_option maxHeartbeats 3200000 in
set_option maxRecDepth 100000 in
theorem rbytes2_any (N : Int) (w : World) (k : sizeV N = 2) (h0 : 64 ≤ N) (h1 : N < 16384) : Calls Tryd.prog 31 #[.int .i64 N] w (BytesPost (varB N) w) := by
  have HE : Hid (varB N = _) := varB_two k
  have key := rsize_any N w
  rw [k] at key
  have m0 : Int.tmod (N) 256 = N % 256 := Int.tmod_eq_emod_of_nonneg (by omega)
  have d0 : Int.tdiv (N) 256 = N / 256 := by rw [Int.tdiv_eq_ediv_of_nonneg (by omega)]
  have m1 : Int.tmod (N / 256) 256 = (N / 256) % 256 := Int.tmod_eq_emod_of_nonneg (by omega)
  have d1 : Int.tdiv (N / 256) 256 = N / 65536 := by rw [Int.tdiv_eq_ediv_of_nonneg (by omega)]; omega
  go_enter Tryd.func31, Tryd.ntmps31
  go_wp2_with fail
  refine key.mono ?_
  clear key
  rintro e w1 ⟨rfl, rfl⟩
  go_wp2_with fail
  refine wp_loop_rounds 3 ?_
  have HV0 : Hid (OwnI w w.heap.size .u8 (.slice none 0 0) []) := OwnI.nil _ _ _
  have HB0 : Hid (Below w.heap.size w w) := Below.refl _ _
  rw [rounds_succ]
  go_wp2_with (at_builtin; refine wp_app_u8 (xs := []) (ys := [_]) rfl _ _ rfl rfl rfl (HV0.out.below (below_new _)) (RdI.one_at _ .u8 _ _ rfl) rfl ?_ ?_ ?_)
  · have := HB0.out.size; simp; try omega
  · simp
  intro v1 u1 hv hg hb
  try simp only [List.nil_append, List.cons_append] at hv
  have HV1 := Lib.hid hv
  have HB1 := Lib.hid ((HB0.out.alloc HB0.out.size _).trans hb)
  clear hv hg hb HV0 HB0
  go_wp2_with fail
  rw [rounds_succ]
  go_wp2_with (at_builtin; refine wp_app_u8 (xs := [0]) (ys := [_]) rfl _ _ rfl rfl rfl (HV1.out.below (below_new _)) (RdI.one_at _ .u8 _ _ rfl) rfl ?_ ?_ ?_)
  · have := HB1.out.size; simp; try omega
  · simp
  intro v2 u2 hv hg hb
  try simp only [List.nil_append, List.cons_append] at hv
  have HV2 := Lib.hid hv
  have HB2 := Lib.hid ((HB1.out.alloc HB1.out.size _).trans hb)
  clear hv hg hb HV1 HB1
  go_wp2_with fail
  rw [rounds_succ]
  go_wp2_with fail
  obtain ⟨g, cap, rfl, hgB, hgl, -⟩ := HV2.out.form (by simp)
  obtain ⟨c0, f0⟩ := HV2.out.at_ 0 (by simp)
  obtain ⟨c1, f1⟩ := HV2.out.at_ 1 (by simp)
  simp only [nth, List.getD_cons_zero, List.getD_cons_succ, List.length_cons, List.length_nil] at *
  refine wp_loop_rounds 3 ?_
  rw [rounds_succ]
  go_wp2_with fail
  rw [rounds_succ]
  go_wp2_with fail
  rw [rounds_succ]
  go_wp2_with fail
  go_ret
  refine ⟨_, rfl, ?_, (Below.setCell (Below.setCell (Below.setCell HB2.out hgB _) hgB _) hgB _)⟩
  rw [HE.out]
  refine OwnI.of_eq ?_ (OwnI.put (OwnI.put (OwnI.put HV2.out 1 (by simp) _) 0 (by simp) _) 0 (by simp) _)
  simp only [List.set_cons_succ, List.set_cons_zero, List.cons.injEq, and_true]
  try omega

set_option maxHeartbeats 3200000 in
set_option maxRecDepth 100000 in
theorem rbytes4_any (N : Int) (w : World) (k : sizeV N = 4) (h0 : 16384 ≤ N) (h1 : N < 1073741824) : Calls Tryd.prog 31 #[.int .i64 N] w (BytesPost (varB N) w) := by
  have HE : Hid (varB N = _) := varB_four k
  have key := rsize_any N w
  rw [k] at key
  have m0 : Int.tmod (N) 256 = N % 256 := Int.tmod_eq_emod_of_nonneg (by omega)
  have d0 : Int.tdiv (N) 256 = N / 256 := by rw [Int.tdiv_eq_ediv_of_nonneg (by omega)]
  have m1 : Int.tmod (N / 256) 256 = (N / 256) % 256 := Int.tmod_eq_emod_of_nonneg (by omega)
  have d1 : Int.tdiv (N / 256) 256 = N / 65536 := by rw [Int.tdiv_eq_ediv_of_nonneg (by omega)]; omega
  have m2 : Int.tmod (N / 65536) 256 = (N / 65536) % 256 := Int.tmod_eq_emod_of_nonneg (by omega)
  have d2 : Int.tdiv (N / 65536) 256 = N / 16777216 := by rw [Int.tdiv_eq_ediv_of_nonneg (by omega)]; omega
  have m3 : Int.tmod (N / 16777216) 256 = (N / 16777216) % 256 := Int.tmod_eq_emod_of_nonneg (by omega)
  have d3 : Int.tdiv (N / 16777216) 256 = N / 4294967296 := by rw [Int.tdiv_eq_ediv_of_nonneg (by omega)]; omega
  go_enter Tryd.func31, Tryd.ntmps31
  go_wp2_with fail
  refine key.mono ?_
  clear key
  rintro e w1 ⟨rfl, rfl⟩
  go_wp2_with fail
  refine wp_loop_rounds 5 ?_
  have HV0 : Hid (OwnI w w.heap.size .u8 (.slice none 0 0) []) := OwnI.nil _ _ _
  have HB0 : Hid (Below w.heap.size w w) := Below.refl _ _
  rw [rounds_succ]
  go_wp2_with (at_builtin; refine wp_app_u8 (xs := []) (ys := [_]) rfl _ _ rfl rfl rfl (HV0.out.below (below_new _)) (RdI.one_at _ .u8 _ _ rfl) rfl ?_ ?_ ?_)
  · have := HB0.out.size; simp; try omega
  · simp
  intro v1 u1 hv hg hb
  try simp only [List.nil_append, List.cons_append] at hv
  have HV1 := Lib.hid hv
  have HB1 := Lib.hid ((HB0.out.alloc HB0.out.size _).trans hb)
  clear hv hg hb HV0 HB0
  go_wp2_with fail
  rw [rounds_succ]
  go_wp2_with (at_builtin; refine wp_app_u8 (xs := [0]) (ys := [_]) rfl _ _ rfl rfl rfl (HV1.out.below (below_new _)) (RdI.one_at _ .u8 _ _ rfl) rfl ?_ ?_ ?_)
  · have := HB1.out.size; simp; try omega
  · simp
  intro v2 u2 hv hg hb
  try simp only [List.nil_append, List.cons_append] at hv
  have HV2 := Lib.hid hv
  have HB2 := Lib.hid ((HB1.out.alloc HB1.out.size _).trans hb)
  clear hv hg hb HV1 HB1
  go_wp2_with fail
  rw [rounds_succ]
  go_wp2_with (at_builtin; refine wp_app_u8 (xs := [0, 0]) (ys := [_]) rfl _ _ rfl rfl rfl (HV2.out.below (below_new _)) (RdI.one_at _ .u8 _ _ rfl) rfl ?_ ?_ ?_)
  · have := HB2.out.size; simp; try omega
  · simp
  intro v3 u3 hv hg hb
  try simp only [List.nil_append, List.cons_append] at hv
  have HV3 := Lib.hid hv
  have HB3 := Lib.hid ((HB2.out.alloc HB2.out.size _).trans hb)
  clear hv hg hb HV2 HB2
  go_wp2_with fail
  rw [rounds_succ]
  go_wp2_with (at_builtin; refine wp_app_u8 (xs := [0, 0, 0]) (ys := [_]) rfl _ _ rfl rfl rfl (HV3.out.below (below_new _)) (RdI.one_at _ .u8 _ _ rfl) rfl ?_ ?_ ?_)
  · have := HB3.out.size; simp; try omega
  · simp
  intro v4 u4 hv hg hb
  try simp only [List.nil_append, List.cons_append] at hv
  have HV4 := Lib.hid hv
  have HB4 := Lib.hid ((HB3.out.alloc HB3.out.size _).trans hb)
  clear hv hg hb HV3 HB3
  go_wp2_with fail
  rw [rounds_succ]
  go_wp2_with fail
  obtain ⟨g, cap, rfl, hgB, hgl, -⟩ := HV4.out.form (by simp)
  obtain ⟨c0, f0⟩ := HV4.out.at_ 0 (by simp)
  obtain ⟨c1, f1⟩ := HV4.out.at_ 1 (by simp)
  obtain ⟨c2, f2⟩ := HV4.out.at_ 2 (by simp)
  obtain ⟨c3, f3⟩ := HV4.out.at_ 3 (by simp)
  simp only [nth, List.getD_cons_zero, List.getD_cons_succ, List.length_cons, List.length_nil] at *
  refine wp_loop_rounds 5 ?_
  rw [rounds_succ]
  go_wp2_with fail
  rw [rounds_succ]
  go_wp2_with fail
  rw [rounds_succ]
  go_wp2_with fail
  rw [rounds_succ]
  go_wp2_with fail
  rw [rounds_succ]
  go_wp2_with fail
  go_ret
  refine ⟨_, rfl, ?_, (Below.setCell (Below.setCell (Below.setCell (Below.setCell (Below.setCell HB4.out hgB _) hgB _) hgB _) hgB _) hgB _)⟩
  rw [HE.out]
  refine OwnI.of_eq ?_ (OwnI.put (OwnI.put (OwnI.put (OwnI.put (OwnI.put HV4.out 3 (by simp) _) 2 (by simp) _) 1 (by simp) _) 0 (by simp) _) 0 (by simp) _)
  simp only [List.set_cons_succ, List.set_cons_zero, List.cons.injEq, and_true]
  try omega

set_option maxHeartbeats 3200000 in
set_option maxRecDepth 100000 in
theorem rbytes8_any (N : Int) (w : World) (k : sizeV N = 8) (h0 : 1073741824 ≤ N) (h1 : N ≤ 4611686018427387903) : Calls Tryd.prog 31 #[.int .i64 N] w (BytesPost (varB N) w) := by
  have HE : Hid (varB N = _) := varB_eight k
  have key := rsize_any N w
  rw [k] at key
  have m0 : Int.tmod (N) 256 = N % 256 := Int.tmod_eq_emod_of_nonneg (by omega)
  have d0 : Int.tdiv (N) 256 = N / 256 := by rw [Int.tdiv_eq_ediv_of_nonneg (by omega)]
  have m1 : Int.tmod (N / 256) 256 = (N / 256) % 256 := Int.tmod_eq_emod_of_nonneg (by omega)
  have d1 : Int.tdiv (N / 256) 256 = N / 65536 := by rw [Int.tdiv_eq_ediv_of_nonneg (by omega)]; omega
  have m2 : Int.tmod (N / 65536) 256 = (N / 65536) % 256 := Int.tmod_eq_emod_of_nonneg (by omega)
  have d2 : Int.tdiv (N / 65536) 256 = N / 16777216 := by rw [Int.tdiv_eq_ediv_of_nonneg (by omega)]; omega
  have m3 : Int.tmod (N / 16777216) 256 = (N / 16777216) % 256 := Int.tmod_eq_emod_of_nonneg (by omega)
  have d3 : Int.tdiv (N / 16777216) 256 = N / 4294967296 := by rw [Int.tdiv_eq_ediv_of_nonneg (by omega)]; omega
  have m4 : Int.tmod (N / 4294967296) 256 = (N / 4294967296) % 256 := Int.tmod_eq_emod_of_nonneg (by omega)
  have d4 : Int.tdiv (N / 4294967296) 256 = N / 1099511627776 := by rw [Int.tdiv_eq_ediv_of_nonneg (by omega)]; omega
  have m5 : Int.tmod (N / 1099511627776) 256 = (N / 1099511627776) % 256 := Int.tmod_eq_emod_of_nonneg (by omega)
  have d5 : Int.tdiv (N / 1099511627776) 256 = N / 281474976710656 := by rw [Int.tdiv_eq_ediv_of_nonneg (by omega)]; omega
  have m6 : Int.tmod (N / 281474976710656) 256 = (N / 281474976710656) % 256 := Int.tmod_eq_emod_of_nonneg (by omega)
  have d6 : Int.tdiv (N / 281474976710656) 256 = N / 72057594037927936 := by rw [Int.tdiv_eq_ediv_of_nonneg (by omega)]; omega
  have m7 : Int.tmod (N / 72057594037927936) 256 = (N / 72057594037927936) % 256 := Int.tmod_eq_emod_of_nonneg (by omega)
  have d7 : Int.tdiv (N / 72057594037927936) 256 = N / 18446744073709551616 := by rw [Int.tdiv_eq_ediv_of_nonneg (by omega)]; omega
  go_enter Tryd.func31, Tryd.ntmps31
  go_wp2_with fail
  refine key.mono ?_
  clear key
  rintro e w1 ⟨rfl, rfl⟩
  go_wp2_with fail
  refine wp_loop_rounds 9 ?_
  have HV0 : Hid (OwnI w w.heap.size .u8 (.slice none 0 0) []) := OwnI.nil _ _ _
  have HB0 : Hid (Below w.heap.size w w) := Below.refl _ _
  rw [rounds_succ]
  go_wp2_with (at_builtin; refine wp_app_u8 (xs := []) (ys := [_]) rfl _ _ rfl rfl rfl (HV0.out.below (below_new _)) (RdI.one_at _ .u8 _ _ rfl) rfl ?_ ?_ ?_)
  · have := HB0.out.size; simp; try omega
  · simp
  intro v1 u1 hv hg hb
  try simp only [List.nil_append, List.cons_append] at hv
  have HV1 := Lib.hid hv
  have HB1 := Lib.hid ((HB0.out.alloc HB0.out.size _).trans hb)
  clear hv hg hb HV0 HB0
  go_wp2_with fail
  rw [rounds_succ]
  go_wp2_with (at_builtin; refine wp_app_u8 (xs := [0]) (ys := [_]) rfl _ _ rfl rfl rfl (HV1.out.below (below_new _)) (RdI.one_at _ .u8 _ _ rfl) rfl ?_ ?_ ?_)
  · have := HB1.out.size; simp; try omega
  · simp
  intro v2 u2 hv hg hb
  try simp only [List.nil_append, List.cons_append] at hv
  have HV2 := Lib.hid hv
  have HB2 := Lib.hid ((HB1.out.alloc HB1.out.size _).trans hb)
  clear hv hg hb HV1 HB1
  go_wp2_with fail
  rw [rounds_succ]
  go_wp2_with (at_builtin; refine wp_app_u8 (xs := [0, 0]) (ys := [_]) rfl _ _ rfl rfl rfl (HV2.out.below (below_new _)) (RdI.one_at _ .u8 _ _ rfl) rfl ?_ ?_ ?_)
  · have := HB2.out.size; simp; try omega
  · simp
  intro v3 u3 hv hg hb
  try simp only [List.nil_append, List.cons_append] at hv
  have HV3 := Lib.hid hv
  have HB3 := Lib.hid ((HB2.out.alloc HB2.out.size _).trans hb)
  clear hv hg hb HV2 HB2
  go_wp2_with fail
  rw [rounds_succ]
  go_wp2_with (at_builtin; refine wp_app_u8 (xs := [0, 0, 0]) (ys := [_]) rfl _ _ rfl rfl rfl (HV3.out.below (below_new _)) (RdI.one_at _ .u8 _ _ rfl) rfl ?_ ?_ ?_)
  · have := HB3.out.size; simp; try omega
  · simp
  intro v4 u4 hv hg hb
  try simp only [List.nil_append, List.cons_append] at hv
  have HV4 := Lib.hid hv
  have HB4 := Lib.hid ((HB3.out.alloc HB3.out.size _).trans hb)
  clear hv hg hb HV3 HB3
  go_wp2_with fail
  rw [rounds_succ]
  go_wp2_with (at_builtin; refine wp_app_u8 (xs := [0, 0, 0, 0]) (ys := [_]) rfl _ _ rfl rfl rfl (HV4.out.below (below_new _)) (RdI.one_at _ .u8 _ _ rfl) rfl ?_ ?_ ?_)
  · have := HB4.out.size; simp; try omega
  · simp
  intro v5 u5 hv hg hb
  try simp only [List.nil_append, List.cons_append] at hv
  have HV5 := Lib.hid hv
  have HB5 := Lib.hid ((HB4.out.alloc HB4.out.size _).trans hb)
  clear hv hg hb HV4 HB4
  go_wp2_with fail
  rw [rounds_succ]
  go_wp2_with (at_builtin; refine wp_app_u8 (xs := [0, 0, 0, 0, 0]) (ys := [_]) rfl _ _ rfl rfl rfl (HV5.out.below (below_new _)) (RdI.one_at _ .u8 _ _ rfl) rfl ?_ ?_ ?_)
  · have := HB5.out.size; simp; try omega
  · simp
  intro v6 u6 hv hg hb
  try simp only [List.nil_append, List.cons_append] at hv
  have HV6 := Lib.hid hv
  have HB6 := Lib.hid ((HB5.out.alloc HB5.out.size _).trans hb)
  clear hv hg hb HV5 HB5
  go_wp2_with fail
  rw [rounds_succ]
  go_wp2_with (at_builtin; refine wp_app_u8 (xs := [0, 0, 0, 0, 0, 0]) (ys := [_]) rfl _ _ rfl rfl rfl (HV6.out.below (below_new _)) (RdI.one_at _ .u8 _ _ rfl) rfl ?_ ?_ ?_)
  · have := HB6.out.size; simp; try omega
  · simp
  intro v7 u7 hv hg hb
  try simp only [List.nil_append, List.cons_append] at hv
  have HV7 := Lib.hid hv
  have HB7 := Lib.hid ((HB6.out.alloc HB6.out.size _).trans hb)
  clear hv hg hb HV6 HB6
  go_wp2_with fail
  rw [rounds_succ]
  go_wp2_with (at_builtin; refine wp_app_u8 (xs := [0, 0, 0, 0, 0, 0, 0]) (ys := [_]) rfl _ _ rfl rfl rfl (HV7.out.below (below_new _)) (RdI.one_at _ .u8 _ _ rfl) rfl ?_ ?_ ?_)
  · have := HB7.out.size; simp; try omega
  · simp
  intro v8 u8 hv hg hb
  try simp only [List.nil_append, List.cons_append] at hv
  have HV8 := Lib.hid hv
  have HB8 := Lib.hid ((HB7.out.alloc HB7.out.size _).trans hb)
  clear hv hg hb HV7 HB7
  go_wp2_with fail
  rw [rounds_succ]
  go_wp2_with fail
  obtain ⟨g, cap, rfl, hgB, hgl, -⟩ := HV8.out.form (by simp)
  obtain ⟨c0, f0⟩ := HV8.out.at_ 0 (by simp)
  obtain ⟨c1, f1⟩ := HV8.out.at_ 1 (by simp)
  obtain ⟨c2, f2⟩ := HV8.out.at_ 2 (by simp)
  obtain ⟨c3, f3⟩ := HV8.out.at_ 3 (by simp)
  obtain ⟨c4, f4⟩ := HV8.out.at_ 4 (by simp)
  obtain ⟨c5, f5⟩ := HV8.out.at_ 5 (by simp)
  obtain ⟨c6, f6⟩ := HV8.out.at_ 6 (by simp)
  obtain ⟨c7, f7⟩ := HV8.out.at_ 7 (by simp)
  simp only [nth, List.getD_cons_zero, List.getD_cons_succ, List.length_cons, List.length_nil] at *
  refine wp_loop_rounds 9 ?_
  rw [rounds_succ]
  go_wp2_with fail
  rw [rounds_succ]
  go_wp2_with fail
  rw [rounds_succ]
  go_wp2_with fail
  rw [rounds_succ]
  go_wp2_with fail
  rw [rounds_succ]
  go_wp2_with fail
  rw [rounds_succ]
  go_wp2_with fail
  rw [rounds_succ]
  go_wp2_with fail
  rw [rounds_succ]
  go_wp2_with fail
  rw [rounds_succ]
  go_wp2_with fail
  go_ret
  refine ⟨_, rfl, ?_, (Below.setCell (Below.setCell (Below.setCell (Below.setCell (Below.setCell (Below.setCell (Below.setCell (Below.setCell (Below.setCell HB8.out hgB _) hgB _) hgB _) hgB _) hgB _) hgB _) hgB _) hgB _) hgB _)⟩
  rw [HE.out]
  refine OwnI.of_eq ?_ (OwnI.put (OwnI.put (OwnI.put (OwnI.put (OwnI.put (OwnI.put (OwnI.put (OwnI.put (OwnI.put HV8.out 7 (by simp) _) 6 (by simp) _) 5 (by simp) _) 4 (by simp) _) 3 (by simp) _) 2 (by simp) _) 1 (by simp) _) 0 (by simp) _) 0 (by simp) _)
  simp only [List.set_cons_succ, List.set_cons_zero, List.cons.injEq, and_true]
  try omega
set_option maxHeartbeats 800000 in
theorem rbytes0_any (N : Int) (w : World) (k : sizeV N = 0) : Calls Tryd.prog 31 #[.int .i64 N] w (BytesPost (varB N) w) := by
  have HE : Hid (varB N = []) := varB_none k
  have key := rsize_any N w
  rw [k] at key
  go_enter Tryd.func31, Tryd.ntmps31
  go_wp2_with fail
  refine key.mono ?_
  clear key
  rintro e w1 ⟨rfl, rfl⟩
  go_wp2_with fail
  refine wp_loop_rounds 1 ?_
  rw [rounds_succ]
  go_wp2_with fail
  refine wp_loop_rounds 1 ?_
  rw [rounds_succ]
  go_wp2_with fail
  go_ret
  rw [HE.out]
  exact BytesPost.nil (Below.refl _ _)
theorem rbytes_any (N : Int) (w : World) : Calls Tryd.prog 31 #[.int .i64 N] w (BytesPost (varB N) w) := by
  rcases sizeV_cases N with ⟨k, h1⟩ | ⟨k, h1, h2⟩ | ⟨k, h1, h2⟩ | ⟨k, h1, h2⟩ | ⟨k, h1, h2⟩
  · exact rbytes0_any N w k
  · exact rbytes1_any N w k h1 h2
  · exact rbytes2_any N w k h1 h2
  · exact rbytes4_any N w k h1 h2
  · exact rbytes8_any N w k h1 h2
end Go.Proofs.YtmaedahleenlgaaDoor

/- Give (layer 1), a field (layer 7), Clone at numbers. No condition but the table of bit places. -/
set_option linter.unusedVariables false
set_option linter.unusedSimpArgs false
namespace Go.Proofs.YtmaedahleenlgaaDoor
open Go Go.RowKit

theorem sizeV_le8 (n : Int) : sizeV n ≤ 8 := by rcases sizeV_cases n with h | h | h | h | h <;> omega
set_option maxHeartbeats 1600000 in
set_option maxRecDepth 100000 in
theorem give_any {B B' : Nat} (A : Option Addr) (n c : Nat) (xs : List Int) (A2 : Option Addr) (n2 c2 : Nat) (ys : List Int) (w : World) (hr : Rds B w .u8 A n c xs) (hr2 : Rds B' w .u8 A2 n2 c2 ys) (hn : n ≤ 100000) (hn2 : n2 ≤ 100000) (ht : Tz w) :
    Calls Tryd.prog 44 #[.slice A n c, .slice A2 n2 c2] w (BytesPost (xs ++ giveB ys) w) := by
  have key := vappend_any A n c xs (n2 : Int) w hr hn ht
  have HR := Lib.hid hr2
  have HL := Lib.hid hr.len
  have HL2 := Lib.hid hr2.len
  clear hr hr2 ht
  go_enter Tryd.func44, Tryd.ntmps44
  go_wp2_with fail
  refine key.mono ?_
  clear key
  rintro e w1 ⟨v1, rfl, hv1, hb1⟩
  have HV := Lib.hid hv1
  have HB := Lib.hid hb1
  clear hv1 hb1
  have hl1 : Hid (∀ N, (varB N).length ≤ 8) := fun N => by rw [varB_len]; exact sizeV_le8 N
  go_wp2_with (at_builtin; refine wp_app_u8 (ys := ys) rfl _ _ rfl rfl rfl HV.out ?_ HL2.out ?_ ?_ ?_)
  · exact (HR.out.below HB.out).cell
  · exact HB.out.size
  · have := HL.out; have := hl1.out n2; rw [List.length_append]; omega
  intro v' w3 hv3 hg3 hb3
  have HV3 : Hid (OwnI w3 w.heap.size .u8 v' (xs ++ giveB ys)) := OwnI.of_eq (by rw [← HL2.out]; first | rfl | (rw [List.append_assoc]; rfl)) hv3
  have HB3 := Lib.hid (HB.out.trans hb3)
  clear hv3 hg3 hb3
  go_wp2_with fail
  go_ret
  exact ⟨_, rfl, HV3.out, HB3.out⟩

end Go.Proofs.YtmaedahleenlgaaDoor

/- b[l:], b[l:h], b[:h] of bytes: the walk's steps. No condition. -/
set_option linter.unusedVariables false
set_option linter.unusedSimpArgs false
namespace Go.Proofs.YtmaedahleenlgaaDoor
open Go Go.RowKit

/-- The address of a part of a slice. -/
def cutA (A : Option Addr) (l c : Nat) : Option Addr := if c = l then A else A.map (·.add (l * 1))
theorem Rds.cut {B : Nat} {w : World} {k : IntKind} {A : Option Addr} {n c : Nat} {xs : List Int} (h : Rds B w k A n c xs) {l : Nat} (hl : l ≤ n) : Rds B w k (cutA A l c) (n - l) (c - l) (xs.drop l) := by
  by_cases h0 : n = 0
  · subst h0
    obtain rfl : l = 0 := by omega
    have hx : xs = [] := List.eq_nil_of_length_eq_zero h.len
    subst hx
    exact ⟨rfl, Nat.zero_le _, by have := h.max; omega, RdI.nil _ _ _, fun p => by omega⟩
  · obtain ⟨b, o, rfl, hc⟩ := h.cell.at_ (by have := h.len; omega)
    refine h.drop hl _ (fun hne => ?_) (fun he => ?_)
    · unfold cutA
      rw [if_neg hne, Nat.mul_one, Option.map_some, addr_add]
    · unfold cutA
      rw [if_pos he]
theorem Rds.cut2 {B : Nat} {w : World} {k : IntKind} {A : Option Addr} {n c : Nat} {xs : List Int} (h : Rds B w k A n c xs) {l m : Nat} (hl : l ≤ m) (hm : m ≤ n) : Rds B w k (cutA A l c) (m - l) (c - l) ((xs.take m).drop l) := (h.take hm).cut hl
theorem u8_elem : Tryd.prog.elem 22 = 5 := by kernel_rfl
theorem u8_slice : Tryd.prog.underlying 22 = some (.slice (Tryd.prog.elem 22)) := by rw [u8_elem]; exact Tryd.underlying22
theorem u8_sizeOf (w : World) : (Go.sizeOf (Tryd.prog.elem 22)).run Tryd.prog w = .ok 1 w := by
  obtain ⟨i, hi, hz0, hz1, hz2⟩ := info_parts info_u8
  rw [u8_elem]
  simp [sizeOf, typeInfo, hi, hz1]
theorem wp_cut {B : Nat} {w : World} {ops : Array Oper} {rest : List Oper} {o : Oper} {a : Act} {Q : Exit → Act → World → Prop} (hgd : o.guard = none) (x lo : Operand) (ho : o.op = .slice 22 x (some lo) none none) {A : Option Addr} {n c : Nat} {xs : List Int} (hx : a.eval x = .slice A n c) {kl : IntKind} {S : Int} (hlo : a.eval lo = .int kl S) (s : Nat) (hS : S = s) (hs : s ≤ n) (hr : Rds B w .u8 A n c xs)
    (h : Rds B w .u8 (cutA A s c) (n - s) (c - s) (xs.drop s) → wpList Tryd.prog ops Q rest (a.put o.dst (.slice (cutA A s c) (n - s) (c - s))) w) : wpList Tryd.prog ops Q (o :: rest) a w := by
  subst hS
  refine wp_op hgd (v := .slice (cutA A s c) (n - s) (c - s)) ?_ (h (hr.cut hs))
  unfold execOp
  simp [ho, hx, hlo, run_sliceAt_slice (h := u8_slice), run_slice_l (len := n) (cap := c) (a := A) (ht := u8_slice) (kl := kl) (l := (s : Int)) (h0 := by omega) (h1 := by omega), u8_sizeOf, Result.andThen, sliced, cutA]
theorem wp_cut2 {B : Nat} {w : World} {ops : Array Oper} {rest : List Oper} {o : Oper} {a : Act} {Q : Exit → Act → World → Prop} (hgd : o.guard = none) (x lo hi : Operand) (ho : o.op = .slice 22 x (some lo) (some hi) none) {A : Option Addr} {n c : Nat} {xs : List Int} (hx : a.eval x = .slice A n c) {kl kh : IntKind} {S H : Int} (hlo : a.eval lo = .int kl S) (hhi : a.eval hi = .int kh H) (s m : Nat) (hS : S = s) (hH : H = m) (hs : s ≤ m) (hm : m ≤ n) (hr : Rds B w .u8 A n c xs)
    (h : Rds B w .u8 (cutA A s c) (m - s) (c - s) ((xs.take m).drop s) → wpList Tryd.prog ops Q rest (a.put o.dst (.slice (cutA A s c) (m - s) (c - s))) w) : wpList Tryd.prog ops Q (o :: rest) a w := by
  subst hS hH
  refine wp_op hgd (v := .slice (cutA A s c) (m - s) (c - s)) ?_ (h (hr.cut2 hs hm))
  unfold execOp
  have hc := hr.cap
  simp [ho, hx, hlo, hhi, run_sliceAt_slice (h := u8_slice), run_slice_lh (len := n) (cap := c) (a := A) (ht := u8_slice) (kl := kl) (kh := kh) (l := (s : Int)) (h := (m : Int)) (h0 := by omega) (h1 := by omega) (h2 := by omega), u8_sizeOf, Result.andThen, sliced, cutA]
theorem wpStill_cut {B : Nat} {w : World} {ops : Array Oper} {rest : List Oper} {o : Oper} {a : Act} {Q : Act → Prop} (hgd : o.guard = none) (x lo : Operand) (ho : o.op = .slice 22 x (some lo) none none) {A : Option Addr} {n c : Nat} {xs : List Int} (hx : a.eval x = .slice A n c) {kl : IntKind} {S : Int} (hlo : a.eval lo = .int kl S) (s : Nat) (hS : S = s) (hs : s ≤ n) (hr : Rds B w .u8 A n c xs)
    (h : Rds B w .u8 (cutA A s c) (n - s) (c - s) (xs.drop s) → wpStill Tryd.prog ops w Q rest (a.put o.dst (.slice (cutA A s c) (n - s) (c - s)))) : wpStill Tryd.prog ops w Q (o :: rest) a := by
  subst hS
  refine wpStill_op hgd (v := .slice (cutA A s c) (n - s) (c - s)) ?_ (h (hr.cut hs))
  unfold execOp
  simp [ho, hx, hlo, run_sliceAt_slice (h := u8_slice), run_slice_l (len := n) (cap := c) (a := A) (ht := u8_slice) (kl := kl) (l := (s : Int)) (h0 := by omega) (h1 := by omega), u8_sizeOf, Result.andThen, sliced, cutA]
end Go.Proofs.YtmaedahleenlgaaDoor

/- A cell that is there stays. No condition. -/
namespace Go.Proofs.YtmaedahleenlgaaDoor
open Go Go.RowKit

theorem later_cell {w w1 : World} {B : Nat} (hb : Below B w w1) {a : Addr} {v : Value} (h : w.cell? a = some v) (hB : a.block < B) : w1.cell? a = some v := (hb.cell hB).trans h
end Go.Proofs.YtmaedahleenlgaaDoor

/- Bytes behind their length: Take, and the reference's Take and Give. No condition. -/
set_option linter.unusedVariables false
set_option linter.unusedSimpArgs false
namespace Go.Proofs.YtmaedahleenlgaaDoor
open Go Go.RowKit

def TakePost (xs : List Int) (w : World) (e : Ending) (w' : World) : Prop :=
  ∃ v1 v2, e = .returned (.tuple #[v1, v2, .int .i64 (takeV xs).2.2]) ∧ OwnI w' w.heap.size .u8 v1 (takeV xs).1 ∧ OwnI w' w.heap.size .u8 v2 (takeV xs).2.1 ∧ Below w.heap.size w w'
theorem TakePost.no {xs : List Int} {w w' : World} {n : Int} (h : takeV xs = ([], [], n)) (hb : Below w.heap.size w w') : TakePost xs w (.returned (.tuple #[.slice none 0 0, .slice none 0 0, .int .i64 n])) w' := by
  refine ⟨.slice none 0 0, .slice none 0 0, ?_, ?_, ?_, hb⟩
  · rw [h]
  · rw [h]; exact OwnI.nil _ _ _
  · rw [h]; exact OwnI.nil _ _ _
theorem TakePost.yes {xs ys zs : List Int} {w w' : World} {v1 v2 : Value} (h : takeV xs = (ys, zs, 0)) (h1 : OwnI w' w.heap.size .u8 v1 ys) (h2 : OwnI w' w.heap.size .u8 v2 zs) (hb : Below w.heap.size w w') : TakePost xs w (.returned (.tuple #[v1, v2, .int .i64 0])) w' := by
  refine ⟨v1, v2, ?_, ?_, ?_, hb⟩
  · rw [h]
  · rw [h]; exact h1
  · rw [h]; exact h2
set_option maxHeartbeats 3200000 in
set_option maxRecDepth 100000 in
theorem vtake_any {B : Nat} (A : Option Addr) (n c : Nat) (xs : List Int) (w : World) (h : Rds B w .u8 A n c xs) (hb : Byt xs) (hn : n ≤ 1000000) :
    Calls Tryd.prog 47 #[.slice A n c] w (TakePost xs w) := by
  have HR := Lib.hid h
  have HL := Lib.hid h.len
  have hcap := h.cap
  have key := vread_any A n c xs w h hb
  clear h
  obtain ⟨a, s, e, hr⟩ : ∃ a s e, readV xs = (a, s, e) := ⟨_, _, _, rfl⟩
  have R1 := Lib.hid hr
  have hs1 := readV_size (xs := xs)
  rw [hr] at hs1
  simp only at hs1
  have hsn : s ≤ n := by have := HL.out; omega
  have key' : Calls Tryd.prog 46 #[.slice A n c] w fun e' w' => e' = .returned (.tuple #[.int .i64 a, .int .i64 s, .int .i64 e]) ∧ w = w' := by
    have h2 := key
    unfold ReadPost at h2
    rwa [hr] at h2
  clear key hs1
  by_cases he : e = 0
  rotate_left
  · have HN : Hid (takeV xs = ([], [], e)) := by show _ = _; rw [takeV_err (by rw [hr]; exact he), hr]
    have hb1 : (e != 0) = true := by simp [he]
    clear hr he
    go_enter Tryd.func47, Tryd.ntmps47
    go_wp2_with fail
    refine key'.mono ?_
    clear key'
    rintro e w1 ⟨rfl, rfl⟩
    go_wp2_with fail
    go_returns
    exact TakePost.no HN.out (Below.refl _ _)
  subst he
  have ha : 0 ≤ a := by
    obtain ⟨-, q2, q3⟩ := rd_ok (xs := xs) (by rw [hr])
    have := sizeV_pos.1 (show sizeV (readV xs).1 ≠ 0 by omega)
    rw [hr] at this
    exact this.1
  by_cases hlt : (n : Int) - s < a
  · have HN : Hid (takeV xs = ([], [], 2)) := by show _ = _; exact takeV_short (by rw [hr]) (by rw [hr, HL.out]; exact hlt)
    clear hr
    go_enter Tryd.func47, Tryd.ntmps47
    go_wp2_with fail
    refine key'.mono ?_
    clear key'
    rintro e w1 ⟨rfl, rfl⟩
    go_wp2_with fail
    go_returns
    exact TakePost.no HN.out (Below.refl _ _)
  · obtain ⟨m, rfl⟩ : ∃ m : Nat, a = m := ⟨a.toNat, by omega⟩
    have hm : s + m ≤ n := by omega
    have HN : Hid (takeV xs = ((xs.take (s + m)).drop s, xs.drop (s + m), 0)) := by
      show _ = _
      rw [takeV_ok (by rw [hr]) (by rw [hr, HL.out]; exact hlt), hr]
      simp only [Int.toNat_natCast]
      rw [List.drop_take, show s + m - s = m from by omega]
    obtain ⟨q, hq⟩ : ∃ q : Nat, q = s + m := ⟨_, rfl⟩
    rw [← hq] at hm HN
    have hsq : s ≤ q := by omega
    obtain ⟨A1, hA1⟩ : ∃ A1, A1 = cutA A s c := ⟨_, rfl⟩
    obtain ⟨A2, hA2⟩ : ∃ A2, A2 = cutA A q c := ⟨_, rfl⟩
    have HR1 : Hid (Rds B w .u8 A1 (q - s) (c - s) ((xs.take q).drop s)) := by rw [hA1]; exact HR.out.cut2 hsq hm
    have HR2 : Hid (Rds B w .u8 A2 (n - q) (c - q) (xs.drop q)) := by rw [hA2]; exact HR.out.cut hm
    have hif1 : (if c = s then A else Option.map (fun x => x.add s) A) = A1 := by rw [hA1]; unfold cutA; simp
    have hif2 : (if c = q then A else Option.map (fun x => x.add q) A) = A2 := by rw [hA2]; unfold cutA; simp
    have HW : Hid (IntKind.i64.wrap ((s : Int) + m) = (q : Int)) := by show _ = _; rw [IntKind.wrap_i64]; omega
    have HQ := Lib.hid hq
    clear hr hA1 hA2 hq
    go_enter Tryd.func47, Tryd.ntmps47
    go_wp2_with fail
    refine key'.mono ?_
    clear key'
    rintro e w1 ⟨rfl, rfl⟩
    go_wp2_with fail
    have hsum := HW.out
    have hm' : (q : Int) ≤ n := by omega
    have hmc : (q : Int) ≤ c := by omega
    have hs0 : (0 : Int) ≤ s := by omega
    have hq0 : (0 : Int) ≤ q := by omega
    have hs2 : (s : Int) ≤ q := by omega
    have HD : Hid (Below w.heap.size w w.drew) := (Below.refl _ _).drew
    go_region_held3 (fun w' => True) (trivial) ((first
    | (go_at_call 52
       have h0 := HD
       have key := cloneB_any A1 _ _ _ w.drew (HR1.out.below HD.out) (by omega)
       refine key.mono ?_
       clear key
       rintro e w1 ⟨v1, rfl, ho, hb⟩
       have HB1 := Lib.hid (HD.out.trans hb)
       have HO1 := Lib.hid (show OwnI w1 w.heap.size .u8 v1 _ from ho)
       clear HD ho hb h0)
    | (go_at_call 52
       have h0 := HD
       have key := cloneB_any A2 _ _ _ w.drew (HR2.out.below HD.out) (by omega)
       refine key.mono ?_
       clear key
       rintro e w1 ⟨v2, rfl, ho, hb⟩
       have HB2 := Lib.hid (HD.out.trans hb)
       have HO2 := Lib.hid (show OwnI w1 w.heap.size .u8 v2 _ from ho)
       clear HD ho hb h0)
    | (go_at_call 52
       have h0 := HB1
       have key := cloneB_any A2 _ _ _ w1 (HR2.out.below HB1.out) (by omega)
       refine key.mono ?_
       clear key
       rintro e w2 ⟨v2, rfl, ho, hb⟩
       have HBf := Lib.hid (below_next HB1.out HB1.out.size hb)
       have HF1 := Lib.hid (HO1.out.below hb)
       have HF2 := Lib.hid (ho.mono HB1.out.size)
       clear HB1 HO1 ho hb h0)
    | (go_at_call 52
       have h0 := HB2
       have key := cloneB_any A1 _ _ _ w1 (HR1.out.below HB2.out) (by omega)
       refine key.mono ?_
       clear key
       rintro e w2 ⟨v1, rfl, ho, hb⟩
       have HBf := Lib.hid (below_next HB2.out HB2.out.size hb)
       have HF2 := Lib.hid (HO2.out.below hb)
       have HF1 := Lib.hid (ho.mono HB2.out.size)
       clear HB2 HO2 ho hb h0)))
    all_goals
      clear hif1 hif2 hsum
      go_wp2_with fail
      go_returns
      exact TakePost.yes HN.out HF1.out HF2.out HBf.out

def RTakePost (B : Nat) (xs : List Int) (w : World) (e : Ending) (w' : World) : Prop :=
  ∃ A1 c1 A2 c2, e = .returned (.tuple #[.slice A1 (takeV xs).1.length c1, .slice A2 (takeV xs).2.1.length c2, .int .i64 (takeV xs).2.2]) ∧ Rds B w' .u8 A1 (takeV xs).1.length c1 (takeV xs).1 ∧ Rds B w' .u8 A2 (takeV xs).2.1.length c2 (takeV xs).2.1 ∧ Below w.heap.size w w'
theorem RTakePost.no {B : Nat} {xs : List Int} {w w' : World} {n : Int} (h : takeV xs = ([], [], n)) (hb : Below w.heap.size w w') : RTakePost B xs w (.returned (.tuple #[.slice none 0 0, .slice none 0 0, .int .i64 n])) w' := by
  refine ⟨none, 0, none, 0, ?_, ?_, ?_, hb⟩
  · rw [h]; rfl
  · rw [h]; exact Rds.nil _ _ _
  · rw [h]; exact Rds.nil _ _ _
theorem RTakePost.yes {B : Nat} {xs ys zs : List Int} {w w' : World} {A1 A2 : Option Addr} {n1 c1 n2 c2 : Nat} (h : takeV xs = (ys, zs, 0)) (h1 : Rds B w' .u8 A1 n1 c1 ys) (h2 : Rds B w' .u8 A2 n2 c2 zs) (hb : Below w.heap.size w w') : RTakePost B xs w (.returned (.tuple #[.slice A1 n1 c1, .slice A2 n2 c2, .int .i64 0])) w' := by
  have l1 := h1.len
  have l2 := h2.len
  subst l1 l2
  refine ⟨A1, c1, A2, c2, ?_, ?_, ?_, hb⟩
  · rw [h]
  · rw [h]; exact h1
  · rw [h]; exact h2
set_option maxHeartbeats 3200000 in
set_option maxRecDepth 100000 in
theorem rtake_any {B : Nat} (A : Option Addr) (n c : Nat) (xs : List Int) (w : World) (h : Rds B w .u8 A n c xs) (hb : Byt xs) (hn : n ≤ 1000000) :
    Calls Tryd.prog 37 #[.slice A n c] w (RTakePost B xs w) := by
  have HR := Lib.hid h
  have HL := Lib.hid h.len
  have hcap := h.cap
  have key := rread_any A n c xs w h hb
  clear h
  obtain ⟨a, s, e, hr⟩ : ∃ a s e, readV xs = (a, s, e) := ⟨_, _, _, rfl⟩
  have hs1 := readV_size (xs := xs)
  rw [hr] at hs1
  simp only at hs1
  have hsn : s ≤ n := by have := HL.out; omega
  have key' : Calls Tryd.prog 36 #[.slice A n c] w fun e' w' => e' = .returned (.tuple #[.int .i64 a, .int .i64 s, .int .i64 e]) ∧ w = w' := by
    have h2 := key
    unfold ReadPost at h2
    rwa [hr] at h2
  clear key hs1
  by_cases he : e = 0
  rotate_left
  · have HN : Hid (takeV xs = ([], [], e)) := by show _ = _; rw [takeV_err (by rw [hr]; exact he), hr]
    have hb1 : (e != 0) = true := by simp [he]
    clear hr he
    go_enter Tryd.func37, Tryd.ntmps37
    go_wp2_with fail
    refine key'.mono ?_
    clear key'
    rintro e w1 ⟨rfl, rfl⟩
    go_wp2_with fail
    go_returns
    exact RTakePost.no HN.out (Below.refl _ _)
  subst he
  have ha : 0 ≤ a := by
    obtain ⟨-, q2, q3⟩ := rd_ok (xs := xs) (by rw [hr])
    have := sizeV_pos.1 (show sizeV (readV xs).1 ≠ 0 by omega)
    rw [hr] at this
    exact this.1
  by_cases hlt : (n : Int) - s < a
  · have HN : Hid (takeV xs = ([], [], 2)) := by show _ = _; exact takeV_short (by rw [hr]) (by rw [hr, HL.out]; exact hlt)
    clear hr
    go_enter Tryd.func37, Tryd.ntmps37
    go_wp2_with fail
    refine key'.mono ?_
    clear key'
    rintro e w1 ⟨rfl, rfl⟩
    go_wp2_with fail
    go_returns
    exact RTakePost.no HN.out (Below.refl _ _)
  · obtain ⟨m, rfl⟩ : ∃ m : Nat, a = m := ⟨a.toNat, by omega⟩
    have hm : s + m ≤ n := by omega
    have HN : Hid (takeV xs = ((xs.take (s + m)).drop s, xs.drop (s + m), 0)) := by
      show _ = _
      rw [takeV_ok (by rw [hr]) (by rw [hr, HL.out]; exact hlt), hr]
      simp only [Int.toNat_natCast]
      rw [List.drop_take, show s + m - s = m from by omega]
    obtain ⟨q, hq⟩ : ∃ q : Nat, q = s + m := ⟨_, rfl⟩
    rw [← hq] at hm HN
    have hsq : s ≤ q := by omega
    obtain ⟨A1, hA1⟩ : ∃ A1, A1 = cutA A s c := ⟨_, rfl⟩
    obtain ⟨A2, hA2⟩ : ∃ A2, A2 = cutA A q c := ⟨_, rfl⟩
    have HR1 : Hid (Rds B w .u8 A1 (q - s) (c - s) ((xs.take q).drop s)) := by rw [hA1]; exact HR.out.cut2 hsq hm
    have HR2 : Hid (Rds B w .u8 A2 (n - q) (c - q) (xs.drop q)) := by rw [hA2]; exact HR.out.cut hm
    have hif1 : (if c = s then A else Option.map (fun x => x.add s) A) = A1 := by rw [hA1]; unfold cutA; simp
    have hif2 : (if c = q then A else Option.map (fun x => x.add q) A) = A2 := by rw [hA2]; unfold cutA; simp
    have HW : Hid (IntKind.i64.wrap ((s : Int) + m) = (q : Int)) := by show _ = _; rw [IntKind.wrap_i64]; omega
    have HQ := Lib.hid hq
    clear hr hA1 hA2 hq
    go_enter Tryd.func37, Tryd.ntmps37
    go_wp2_with fail
    refine key'.mono ?_
    clear key'
    rintro e w1 ⟨rfl, rfl⟩
    go_wp2_with fail
    have hsum := HW.out
    have hm' : (q : Int) ≤ n := by omega
    have hmc : (q : Int) ≤ c := by omega
    have hs0 : (0 : Int) ≤ s := by omega
    have hq0 : (0 : Int) ≤ q := by omega
    have hs2 : (s : Int) ≤ q := by omega
    go_quiet (fail)
    clear hif1 hif2 hsum
    go_wp2_with fail
    go_returns
    exact RTakePost.yes HN.out (HR1.out.drewN _) (HR2.out.drewN _) (below_drewN (Below.refl _ _) _)
set_option maxHeartbeats 1600000 in
set_option maxRecDepth 100000 in
theorem rgive_any {B : Nat} (A : Option Addr) (n c : Nat) (xs : List Int) (w : World) (h : Rds B w .u8 A n c xs) (hn : n ≤ 1000000) :
    Calls Tryd.prog 32 #[.slice A n c] w (BytesPost (giveB xs) w) := by
  have HR := Lib.hid h
  have HL := Lib.hid h.len
  have key := rbytes_any (n : Int) w
  have HE : Hid (giveB xs = varB (n : Int) ++ xs) := by show _ = _; unfold giveB; rw [h.len]
  clear h
  go_enter Tryd.func32, Tryd.ntmps32
  go_wp2_with fail
  refine key.mono ?_
  clear key
  rintro e w1 ⟨v1, rfl, ho, hb⟩
  have HO := Lib.hid ho
  have HRb := Lib.hid (HR.out.below hb).cell
  have HB := Lib.hid hb
  have l1 := Lib.hid (varB_len n)
  have s1 := Lib.hid (sizeV_le n)
  clear ho hb
  go_wp2_with (at_builtin; refine wp_app_u8 rfl _ _ rfl rfl rfl HO.out HRb.out HL.out HB.out.size (by have := l1.out; have := s1.out; omega) ?_)
  intro v5 w5 ho hg hb
  have HO5 := Lib.hid ho
  have HB5 := Lib.hid (HB.out.trans hb)
  clear ho hg hb
  go_wp2_with fail
  go_ret
  rw [HE.out]
  exact ⟨_, rfl, HO5.out, HB5.out⟩
end Go.Proofs.YtmaedahleenlgaaDoor

/- Three numbers of layer 17: the reference's Read and Text, the program's numbers. No condition. -/
set_option linter.unusedVariables false
set_option linter.unusedSimpArgs false
namespace Go.Proofs.YtmaedahleenlgaaDoor
open Go Go.RowKit

def Tk17Post (xs : List Int) (w : World) (e : Ending) (w' : World) : Prop :=
  e = .returned (.tuple #[.agg #[.int .i64 (tkV xs).1, .int .i64 (tkV xs).2.1, .int .i64 (tkV xs).2.2], .bool (readT xs).isSome]) ∧ Below w.heap.size w w'
theorem Tk17Post.no {xs : List Int} {w w' : World} (h : readT xs = none) (hb : Below w.heap.size w w') : Tk17Post xs w (.returned (.tuple #[.agg #[.int .i64 0, .int .i64 0, .int .i64 0], .bool false])) w' := by
  refine ⟨?_, hb⟩
  unfold tkV
  rw [h]; rfl
theorem Tk17Post.yes {xs : List Int} {w w' : World} {a b c : Int} (h : readT xs = some (a, b, c)) (hb : Below w.heap.size w w') : Tk17Post xs w (.returned (.tuple #[.agg #[.int .i64 a, .int .i64 b, .int .i64 c], .bool true])) w' := by
  refine ⟨?_, hb⟩
  unfold tkV
  rw [h]; rfl

set_option maxRecDepth 100000 in
/-- append(s, x...) of bytes inside a region that draws its order. -/
theorem step_app_u8 {ops : Array Oper} {o : Oper} {a : Act} {w : World} {K : Act → World → Prop} {Q : Exit → Act → World → Prop} {E : Prop} (hgd : o.guard = none) (s x : Operand)
    (ho : o.op = .call { callee := .builtin .append, args := #[s, x], argTypes := #[22, 22] })
    {B : Nat} {v : Value} {xs ys : List Int} {A : Option Addr} {m c : Nat} (hv : a.eval s = v) (hx : a.eval x = .slice A m c) (hown : OwnI w B .u8 v xs) (hr : RdI w .u8 A ys) (hm : ys.length = m) (hB : B ≤ w.heap.size) (hbytes : xs.length + m ≤ 140737488355328)
    (hK : ∀ v' w', OwnI w' B .u8 v' (xs ++ ys) → w.grownBy w' v.ownBlock → Below B w w' → K (a.put o.dst v') w') : if Region.wanted o (yielded ops a.tmps) = true then Oper.wp Tryd.prog o a w K Q else E := by
  have hw : Region.wanted o (yielded ops a.tmps) = true := by simp [Region.wanted, hgd]
  rw [if_pos hw]
  obtain ⟨i, hi, hz0, hz1, hz2⟩ := info_parts info_u8
  obtain ⟨v', w', hrun, h1, h2, h3⟩ := run_app (P := Tryd.prog) (w := w) 22 o.type 5 i (.int .u8 0) .u8 1 Tryd.underlying22 hi hz0 hz1 hz2 rfl sp_u8 hown hr hm hB (by omega) (by omega)
  exact Lib.wp_append_run w s x _ _ ho v _ hv hx v' w' hrun (hK v' w' h1 h2 h3)

end Go.Proofs.YtmaedahleenlgaaDoor

/- A token's text (layer 16). No condition but the table of bit places. -/
set_option linter.unusedVariables false
set_option linter.unusedSimpArgs false
namespace Go.Proofs.YtmaedahleenlgaaDoor
open Go Go.RowKit

theorem OwnI.eq {w : World} {B : Nat} {k : IntKind} {v : Value} {xs ys : List Int} (h : OwnI w B k v xs) (e : xs = ys) : OwnI w B k v ys := e ▸ h
set_option maxHeartbeats 3200000 in
set_option maxRecDepth 100000 in
theorem ttext_any {B : Nat} (l : Bool) (a t : Int) (nm : List Int) (A : Option Addr) (n c : Nat) (w : World) (h : Rds B w .u8 A n c nm) (hn : n ≤ 1000) (hz : Tz w) :
    Calls Tryd.prog 29 #[.agg #[.bool l, .int .i64 a, .int .i64 t, .slice A n c]] w (BytesPost (tokB ⟨l, a, t, nm⟩) w) := by
  obtain ⟨W, hW⟩ : ∃ W, W = w.alloc (.cells #[.bool l, .int .i64 a, .int .i64 t, .slice A n c] 32) := ⟨_, rfl⟩
  have HBW : Hid (Below w.heap.size w W) := by rw [hW]; exact below_new _
  have HSW : Hid (W.heap.size = w.heap.size + 1) := by rw [hW]; show _ = _; simp
  have x0 : W.cell? ⟨w.heap.size, 0, none⟩ = some (.bool l) := by rw [hW]; simp [go_sem]
  have x1 : W.cell? ⟨w.heap.size, 1, none⟩ = some (.int .i64 a) := by rw [hW]; simp [go_sem]
  have x2 : W.cell? ⟨w.heap.size, 2, none⟩ = some (.int .i64 t) := by rw [hW]; simp [go_sem]
  have x3 : W.cell? ⟨w.heap.size, 3, none⟩ = some (.slice A n c) := by rw [hW]; simp [go_sem]
  have hlt : w.heap.size < W.heap.size := by have := HSW.out; omega
  have HR := Lib.hid (h.below HBW.out)
  have HL := Lib.hid h.len
  have HZ := Lib.hid (hz.later HBW.out)
  clear h hz
  have key := vsize_any a W
  go_enter Tryd.func29, Tryd.ntmps29
  go_wp2_with fail
  rw [← hW]
  clear hW
  refine key.mono ?_
  clear key
  rintro e w1 ⟨rfl, rfl⟩
  by_cases ha : sizeV a = 0
  · have HN := Lib.hid (tokB_no (x := ⟨l, a, t, nm⟩) (.inl ha))
    have hvb : (((sizeV a : Nat) : Int) == 0) = true := by rw [ha]; rfl
    clear ha
    go_wp2_with fail
    go_ret
    rw [HN.out]
    exact BytesPost.nil HBW.out
  have hvb : (((sizeV a : Nat) : Int) == 0) = false := by rw [beq_eq_false_iff_ne]; omega
  have HA := Lib.hid ha
  clear ha
  have key := vsize_any t W
  go_wp2_with fail
  refine key.mono ?_
  clear key
  rintro e w1 ⟨rfl, rfl⟩
  by_cases ht : sizeV t = 0
  · have HN := Lib.hid (tokB_no (x := ⟨l, a, t, nm⟩) (.inr (.inl ht)))
    have htb : (((sizeV t : Nat) : Int) == 0) = true := by rw [ht]; rfl
    clear ht
    go_wp2_with fail
    go_ret
    rw [HN.out]
    exact BytesPost.nil HBW.out
  have htb : (((sizeV t : Nat) : Int) == 0) = false := by rw [beq_eq_false_iff_ne]; omega
  have HT := Lib.hid ht
  clear ht
  by_cases hl : 20 < n
  · have HN := Lib.hid (tokB_no (x := ⟨l, a, t, nm⟩) (.inr (.inr (by have := HL.out; show 20 < nm.length; omega))))
    go_wp2_with fail
    go_ret
    rw [HN.out]
    exact BytesPost.nil HBW.out
  have HN : Hid (tokB ⟨l, a, t, nm⟩ = markB l :: (varB a ++ varB t ++ giveB nm)) := tokB_yes (by rintro (h | h | h); exact HA.out h; exact HT.out h; have := HL.out; exact hl (by show 20 < n; have h' : 20 < nm.length := h; omega))
  obtain ⟨V, hV⟩ : ∃ V, V = W.alloc (.cells #[.int .u8 (markB l)] 5) := ⟨_, rfl⟩
  have HBV : Hid (Below W.heap.size W V) := by rw [hV]; exact below_new _
  have HO : Hid (OwnI V W.heap.size .u8 (.slice (some ⟨W.heap.size, 0, none⟩) 1 1) [markB l]) := by
    rw [hV]; exact OwnI.fresh (xs := [markB l]) (t := 5) (Nat.le_refl _) sp_u8 (by simp)
  have HRV := Lib.hid (HR.out.below HBV.out)
  have HZV := Lib.hid (HZ.out.later HBV.out)
  have y1 := later_cell HBV.out x1 hlt
  have y2 := later_cell HBV.out x2 hlt
  have y3 := later_cell HBV.out x3 hlt
  have lV : w.heap.size < V.heap.size := by have := HBV.out.size; omega
  have lw : Hid (w.heap.size ≤ W.heap.size) := Nat.le_of_lt hlt
  have m1 := Lib.hid (varB_len a)
  have m2 := Lib.hid (varB_len t)
  have s1 := Lib.hid (sizeV_le a)
  have s2 := Lib.hid (sizeV_le t)
  have HD : Hid (Below V.heap.size V V.drew) := (Below.refl _ _).drew
  have key1 := vappend_any (some ⟨W.heap.size, 0, none⟩) 1 1 [markB l] a V.drew ((HO.out.rds (B' := 0)).below HD.out) (by omega) (HZV.out.later HD.out)
  obtain ⟨ys, hys⟩ : ∃ ys, ys = [markB l] ++ varB a := ⟨_, rfl⟩
  rw [← hys] at key1
  have HYS := Lib.hid hys
  have LYS : Hid (ys.length = 1 + sizeV a) := by show _ = _; rw [hys, List.length_append, m1.out]; rfl
  obtain ⟨zs, hzs⟩ : ∃ zs, zs = ys ++ varB t := ⟨_, rfl⟩
  have HZS := Lib.hid hzs
  have LZS : Hid (zs.length = 1 + sizeV a + sizeV t) := by show _ = _; rw [hzs, List.length_append, m2.out, LYS.out]
  clear hys hzs
  have fin : ∀ (w3 : World) (v3 : Value), OwnI w3 W.heap.size .u8 v3 (zs ++ giveB nm) → Below V.heap.size V w3 → BytesPost (tokB ⟨l, a, t, nm⟩) w (.returned v3) w3 := fun w3 v3 ho hb => by
    refine ⟨_, rfl, (ho.mono lw.out).eq ?_, (HBW.out.trans ((HBV.out.trans (hb.mono HBV.out.size)).mono lw.out))⟩
    rw [HN.out, HZS.out, HYS.out]
    simp
  have FIN := Lib.hid fin
  clear fin
  cases l with
  | true =>
    go_wp2_with fail
    rw [show W.alloc (.cells #[.int .u8 1] 5) = V from hV.symm]
    clear hV x0 x1 x2 x3
    have HS0 : Hid (V.drew.cell? ⟨w.heap.size, 1, none⟩ = some (.int .i64 a) ∧ V.drew.cell? ⟨w.heap.size, 2, none⟩ = some (.int .i64 t) ∧ V.drew.cell? ⟨w.heap.size, 3, none⟩ = some (.slice A n c)) := ⟨later_cell HD.out y1 lV, later_cell HD.out y2 lV, later_cell HD.out y3 lV⟩
    go_region_held3 (fun w' => w'.cell? ⟨w.heap.size, 1, none⟩ = some (.int .i64 a) ∧ w'.cell? ⟨w.heap.size, 2, none⟩ = some (.int .i64 t) ∧ w'.cell? ⟨w.heap.size, 3, none⟩ = some (.slice A n c)) (first | exact HS0.out | exact HS1.out | exact HS2.out | exact HS3.out | go_keep) ((first
    | (go_at_call 39
       have h0 := HD
       refine key1.mono ?_
       clear key1
       rintro e w1 ⟨v1, rfl, ho, hb⟩
       obtain ⟨A1, c1, rfl⟩ := ho.slice
       have HO1 := Lib.hid (ho.rds (B' := 0))
       have HB1 := Lib.hid (HD.out.trans hb)
       have HS1 : Hid (w1.cell? ⟨w.heap.size, 1, none⟩ = some (.int .i64 a) ∧ w1.cell? ⟨w.heap.size, 2, none⟩ = some (.int .i64 t) ∧ w1.cell? ⟨w.heap.size, 3, none⟩ = some (.slice A n c)) := ⟨later_cell HB1.out y1 lV, later_cell HB1.out y2 lV, later_cell HB1.out y3 lV⟩
       clear HD ho hb h0)
    | (go_at_call 39
       have h0 := HB1
       have key2 := vappend_any A1 _ c1 ys t w1 HO1.out (by have := LYS.out; have := s1.out; omega) (HZV.out.later HB1.out)
       rw [← HZS.out] at key2
       refine key2.mono ?_
       clear key2
       rintro e w2 ⟨v2, rfl, ho, hb⟩
       obtain ⟨A2, c2, rfl⟩ := ho.slice
       have HO2 := Lib.hid (ho.rds (B' := 0))
       have HB2 := Lib.hid (below_next HB1.out HB1.out.size hb)
       have HS2 : Hid (w2.cell? ⟨w.heap.size, 1, none⟩ = some (.int .i64 a) ∧ w2.cell? ⟨w.heap.size, 2, none⟩ = some (.int .i64 t) ∧ w2.cell? ⟨w.heap.size, 3, none⟩ = some (.slice A n c)) := ⟨later_cell HB2.out y1 lV, later_cell HB2.out y2 lV, later_cell HB2.out y3 lV⟩
       clear HB1 HO1 ho hb h0)
    | (go_at_call 44
       have h0 := HB2
       have key3 := give_any A2 _ c2 zs A n c nm w2 HO2.out (HRV.out.below HB2.out) (by have := LZS.out; have := s1.out; have := s2.out; omega) (by omega) (HZV.out.later HB2.out)
       refine key3.mono ?_
       clear key3
       rintro e w3 ⟨v3, rfl, ho, hb⟩
       have HB3 := Lib.hid (below_next HB2.out HB2.out.size hb)
       have HO3 := Lib.hid (ho.mono (Nat.le_trans HBV.out.size HB2.out.size))
       have HS3 : Hid (w3.cell? ⟨w.heap.size, 1, none⟩ = some (.int .i64 a) ∧ w3.cell? ⟨w.heap.size, 2, none⟩ = some (.int .i64 t) ∧ w3.cell? ⟨w.heap.size, 3, none⟩ = some (.slice A n c)) := ⟨later_cell HB3.out y1 lV, later_cell HB3.out y2 lV, later_cell HB3.out y3 lV⟩
       clear HB2 HO2 ho hb h0)))
    all_goals
      rename_i hHeld
      clear hHeld
      go_wp2_with fail
      go_ret
      exact FIN.out _ _ HO3.out HB3.out
  | false =>
    go_wp2_with fail
    rw [show W.alloc (.cells #[.int .u8 0] 5) = V from hV.symm]
    clear hV x0 x1 x2 x3
    have HS0 : Hid (V.drew.cell? ⟨w.heap.size, 1, none⟩ = some (.int .i64 a) ∧ V.drew.cell? ⟨w.heap.size, 2, none⟩ = some (.int .i64 t) ∧ V.drew.cell? ⟨w.heap.size, 3, none⟩ = some (.slice A n c)) := ⟨later_cell HD.out y1 lV, later_cell HD.out y2 lV, later_cell HD.out y3 lV⟩
    go_region_held3 (fun w' => w'.cell? ⟨w.heap.size, 1, none⟩ = some (.int .i64 a) ∧ w'.cell? ⟨w.heap.size, 2, none⟩ = some (.int .i64 t) ∧ w'.cell? ⟨w.heap.size, 3, none⟩ = some (.slice A n c)) (first | exact HS0.out | exact HS1.out | exact HS2.out | exact HS3.out | go_keep) ((first
    | (go_at_call 39
       have h0 := HD
       refine key1.mono ?_
       clear key1
       rintro e w1 ⟨v1, rfl, ho, hb⟩
       obtain ⟨A1, c1, rfl⟩ := ho.slice
       have HO1 := Lib.hid (ho.rds (B' := 0))
       have HB1 := Lib.hid (HD.out.trans hb)
       have HS1 : Hid (w1.cell? ⟨w.heap.size, 1, none⟩ = some (.int .i64 a) ∧ w1.cell? ⟨w.heap.size, 2, none⟩ = some (.int .i64 t) ∧ w1.cell? ⟨w.heap.size, 3, none⟩ = some (.slice A n c)) := ⟨later_cell HB1.out y1 lV, later_cell HB1.out y2 lV, later_cell HB1.out y3 lV⟩
       clear HD ho hb h0)
    | (go_at_call 39
       have h0 := HB1
       have key2 := vappend_any A1 _ c1 ys t w1 HO1.out (by have := LYS.out; have := s1.out; omega) (HZV.out.later HB1.out)
       rw [← HZS.out] at key2
       refine key2.mono ?_
       clear key2
       rintro e w2 ⟨v2, rfl, ho, hb⟩
       obtain ⟨A2, c2, rfl⟩ := ho.slice
       have HO2 := Lib.hid (ho.rds (B' := 0))
       have HB2 := Lib.hid (below_next HB1.out HB1.out.size hb)
       have HS2 : Hid (w2.cell? ⟨w.heap.size, 1, none⟩ = some (.int .i64 a) ∧ w2.cell? ⟨w.heap.size, 2, none⟩ = some (.int .i64 t) ∧ w2.cell? ⟨w.heap.size, 3, none⟩ = some (.slice A n c)) := ⟨later_cell HB2.out y1 lV, later_cell HB2.out y2 lV, later_cell HB2.out y3 lV⟩
       clear HB1 HO1 ho hb h0)
    | (go_at_call 44
       have h0 := HB2
       have key3 := give_any A2 _ c2 zs A n c nm w2 HO2.out (HRV.out.below HB2.out) (by have := LZS.out; have := s1.out; have := s2.out; omega) (by omega) (HZV.out.later HB2.out)
       refine key3.mono ?_
       clear key3
       rintro e w3 ⟨v3, rfl, ho, hb⟩
       have HB3 := Lib.hid (below_next HB2.out HB2.out.size hb)
       have HO3 := Lib.hid (ho.mono (Nat.le_trans HBV.out.size HB2.out.size))
       have HS3 : Hid (w3.cell? ⟨w.heap.size, 1, none⟩ = some (.int .i64 a) ∧ w3.cell? ⟨w.heap.size, 2, none⟩ = some (.int .i64 t) ∧ w3.cell? ⟨w.heap.size, 3, none⟩ = some (.slice A n c)) := ⟨later_cell HB3.out y1 lV, later_cell HB3.out y2 lV, later_cell HB3.out y3 lV⟩
       clear HB2 HO2 ho hb h0)))
    all_goals
      rename_i hHeld
      clear hHeld
      go_wp2_with fail
      go_ret
      exact FIN.out _ _ HO3.out HB3.out
end Go.Proofs.YtmaedahleenlgaaDoor

/- A whole value stored over a block. No condition. -/
set_option linter.unusedVariables false
namespace Go.Proofs.YtmaedahleenlgaaDoor
open Go Go.RowKit

/-- A whole value is stored over a block: the walk's step. -/
theorem wp_store_row {P : Program} {w : World} {ops : Array Oper} {rest : List Oper} {o : Oper} {a : Act} {Q : Exit → Act → World → Prop} (hgd : o.guard = none) (hdst : o.dst = none) (ty : Nat) (x y : Operand) (ho : o.op = .store ty x y) (g : Nat) (cur cs : Array Value) (t : Nat) (hx : a.eval x = .pointer (some ⟨g, 0, none⟩)) (hy : a.eval y = .agg cs)
    (hs : (P.info? ty).map (·.size) = some cs.size) (hg : w.heap[g]? = some (.cells cur t (0, 0))) (hc : cur.size = cs.size) (h1 : ∀ v ∈ cs.toList, v.oneCell' = true)
    (h : wpList P ops Q rest a (w.setRow g cs)) : wpList P ops Q (o :: rest) a w := by
  have hrun := run_storeAt_row (P := P) ty g cur cs t hs hg hc h1
  refine wp_op_skip hgd ?_ (by rw [hdst]; exact h)
  unfold execOp
  simp only [ho, hx, hy, Sem.run_bind, hrun, Result.andThen_ok, Sem.run_pure]

end Go.Proofs.YtmaedahleenlgaaDoor

/- What bytes say as a token (layer 16): the program's. No condition. -/
set_option linter.unusedVariables false
set_option linter.unusedSimpArgs false
namespace Go.Proofs.YtmaedahleenlgaaDoor
open Go Go.RowKit

theorem blk_set1 {w : World} {g i : Nat} {cs : Array Value} {t : TypeId} {fr : Nat × Nat} (h : w.heap[g]? = some (.cells cs t fr)) (v : Value) : (w.setCell ⟨g, i, none⟩ v).heap[g]? = some (.cells (cs.setIfInBounds i v) t fr) := by
  rw [setCell_eq_setRow w g i cs t fr v h]
  exact setRow_heap w g _ _ t _ h
theorem blk_other1 (w : World) {g i k : Nat} (v : Value) (h : k ≠ g) : (w.setCell ⟨g, i, none⟩ v).heap[k]? = w.heap[k]? := Below.heap_setCell w ⟨g, i, none⟩ v k h
theorem setCell_size (w : World) (p : Addr) (v : Value) : (w.setCell p v).heap.size = w.heap.size := by simp [World.setCell]
theorem free_row {w : World} {g : Nat} {cs : Array Value} {t : TypeId} (h : w.heap[g]? = some (.cells cs t (0, 0))) (i : Nat) : w.frozen? ⟨g, i, none⟩ = false := by simp [World.frozen?, h]

/-- The local variables of read: the bytes left, the result, the token so far, whether all went well. -/
structure RdSt (w V : World) (A : Option Addr) (n c : Nat) (l : Bool) (a t : Int) (v : Value) (ok : Bool) : Prop where
  b : V.heap[w.heap.size]? = some (.cells #[.slice A n c] 22 (0, 0))
  r : V.heap[w.heap.size + 1]? = some (.cells #[.bool false, .int .i64 0, .int .i64 0, .slice none 0 0] 32 (0, 0))
  x : V.heap[w.heap.size + 1 + 1]? = some (.cells #[.bool l, .int .i64 a, .int .i64 t, v] 32 (0, 0))
  o : V.heap[w.heap.size + 1 + 1 + 1]? = some (.cells #[.bool ok] 4 (0, 0))
  bl : Below w.heap.size w V
theorem RdSt.below {w V V' : World} {A : Option Addr} {n c : Nat} {l : Bool} {a t : Int} {v : Value} {ok : Bool} (h : RdSt w V A n c l a t v ok) (hb : Below V.heap.size V V') : RdSt w V' A n c l a t v ok :=
  ⟨(hb.block _ (lt_of_get h.b)).trans h.b, (hb.block _ (lt_of_get h.r)).trans h.r, (hb.block _ (lt_of_get h.x)).trans h.x, (hb.block _ (lt_of_get h.o)).trans h.o, below_next h.bl h.bl.size hb⟩
theorem RdSt.cells {w V : World} {A : Option Addr} {n c : Nat} {l : Bool} {a t : Int} {v : Value} {ok : Bool} (h : RdSt w V A n c l a t v ok) :
    V.cell? ⟨w.heap.size, 0, none⟩ = some (.slice A n c) ∧ V.cell? ⟨w.heap.size + 1, 0, none⟩ = some (.bool false) ∧ V.cell? ⟨w.heap.size + 1, 1, none⟩ = some (.int .i64 0) ∧ V.cell? ⟨w.heap.size + 1, 2, none⟩ = some (.int .i64 0) ∧ V.cell? ⟨w.heap.size + 1, 3, none⟩ = some (.slice none 0 0) ∧
    V.cell? ⟨w.heap.size + 1 + 1, 0, none⟩ = some (.bool l) ∧ V.cell? ⟨w.heap.size + 1 + 1, 1, none⟩ = some (.int .i64 a) ∧ V.cell? ⟨w.heap.size + 1 + 1, 2, none⟩ = some (.int .i64 t) ∧ V.cell? ⟨w.heap.size + 1 + 1, 3, none⟩ = some v ∧ V.cell? ⟨w.heap.size + 1 + 1 + 1, 0, none⟩ = some (.bool ok) := by
  refine ⟨?_, ?_, ?_, ?_, ?_, ?_, ?_, ?_, ?_, ?_⟩
  · rw [cell_of_row V _ 0 _ _ _ h.b]; rfl
  · rw [cell_of_row V _ 0 _ _ _ h.r]; rfl
  · rw [cell_of_row V _ 1 _ _ _ h.r]; rfl
  · rw [cell_of_row V _ 2 _ _ _ h.r]; rfl
  · rw [cell_of_row V _ 3 _ _ _ h.r]; rfl
  · rw [cell_of_row V _ 0 _ _ _ h.x]; rfl
  · rw [cell_of_row V _ 1 _ _ _ h.x]; rfl
  · rw [cell_of_row V _ 2 _ _ _ h.x]; rfl
  · rw [cell_of_row V _ 3 _ _ _ h.x]; rfl
  · rw [cell_of_row V _ 0 _ _ _ h.o]; rfl
theorem RdSt.free {w V : World} {A : Option Addr} {n c : Nat} {l : Bool} {a t : Int} {v : Value} {ok : Bool} (h : RdSt w V A n c l a t v ok) :
    V.frozen? ⟨w.heap.size, 0, none⟩ = false ∧ V.frozen? ⟨w.heap.size + 1, 0, none⟩ = false ∧ V.frozen? ⟨w.heap.size + 1, 1, none⟩ = false ∧ V.frozen? ⟨w.heap.size + 1, 2, none⟩ = false ∧ V.frozen? ⟨w.heap.size + 1, 3, none⟩ = false ∧
    V.frozen? ⟨w.heap.size + 1 + 1, 1, none⟩ = false ∧ V.frozen? ⟨w.heap.size + 1 + 1, 2, none⟩ = false ∧ V.frozen? ⟨w.heap.size + 1 + 1, 3, none⟩ = false ∧ V.frozen? ⟨w.heap.size + 1 + 1 + 1, 0, none⟩ = false :=
  ⟨free_row h.b _, free_row h.r _, free_row h.r _, free_row h.r _, free_row h.r _, free_row h.x _, free_row h.x _, free_row h.x _, free_row h.o _⟩
theorem RdSt.setB {w V : World} {A : Option Addr} {n c : Nat} {l : Bool} {a t : Int} {v : Value} {ok : Bool} (h : RdSt w V A n c l a t v ok) (A' : Option Addr) (n' c' : Nat) : RdSt w (V.setCell ⟨w.heap.size, 0, none⟩ (.slice A' n' c')) A' n' c' l a t v ok :=
  ⟨blk_set1 h.b _, (blk_other1 _ _ (by omega)).trans h.r, (blk_other1 _ _ (by omega)).trans h.x, (blk_other1 _ _ (by omega)).trans h.o, h.bl.setCell (Nat.le_refl _) _⟩
theorem RdSt.setO {w V : World} {A : Option Addr} {n c : Nat} {l : Bool} {a t : Int} {v : Value} {ok : Bool} (h : RdSt w V A n c l a t v ok) (ok' : Bool) : RdSt w (V.setCell ⟨w.heap.size + 1 + 1 + 1, 0, none⟩ (.bool ok')) A n c l a t v ok' :=
  ⟨(blk_other1 _ _ (by omega)).trans h.b, (blk_other1 _ _ (by omega)).trans h.r, (blk_other1 _ _ (by omega)).trans h.x, blk_set1 h.o _, h.bl.setCell (by show w.heap.size ≤ w.heap.size + 1 + 1 + 1; omega) _⟩
theorem RdSt.setA {w V : World} {A : Option Addr} {n c : Nat} {l : Bool} {a t : Int} {v : Value} {ok : Bool} (h : RdSt w V A n c l a t v ok) (a' : Int) : RdSt w (V.setCell ⟨w.heap.size + 1 + 1, 1, none⟩ (.int .i64 a')) A n c l a' t v ok :=
  ⟨(blk_other1 _ _ (by omega)).trans h.b, (blk_other1 _ _ (by omega)).trans h.r, blk_set1 h.x _, (blk_other1 _ _ (by omega)).trans h.o, h.bl.setCell (by show w.heap.size ≤ w.heap.size + 1 + 1; omega) _⟩
theorem RdSt.setT {w V : World} {A : Option Addr} {n c : Nat} {l : Bool} {a t : Int} {v : Value} {ok : Bool} (h : RdSt w V A n c l a t v ok) (t' : Int) : RdSt w (V.setCell ⟨w.heap.size + 1 + 1, 2, none⟩ (.int .i64 t')) A n c l a t' v ok :=
  ⟨(blk_other1 _ _ (by omega)).trans h.b, (blk_other1 _ _ (by omega)).trans h.r, blk_set1 h.x _, (blk_other1 _ _ (by omega)).trans h.o, h.bl.setCell (by show w.heap.size ≤ w.heap.size + 1 + 1; omega) _⟩
theorem RdSt.setN {w V : World} {A : Option Addr} {n c : Nat} {l : Bool} {a t : Int} {v : Value} {ok : Bool} (h : RdSt w V A n c l a t v ok) (v' : Value) : RdSt w (V.setCell ⟨w.heap.size + 1 + 1, 3, none⟩ v') A n c l a t v' ok :=
  ⟨(blk_other1 _ _ (by omega)).trans h.b, (blk_other1 _ _ (by omega)).trans h.r, blk_set1 h.x _, (blk_other1 _ _ (by omega)).trans h.o, h.bl.setCell (by show w.heap.size ≤ w.heap.size + 1 + 1; omega) _⟩

/-- A cell is turned; the bytes that are read stay. -/
theorem Rds.setCell {B : Nat} {w : World} {k : IntKind} {A : Option Addr} {n c : Nat} {xs : List Int} (h : Rds B w k A n c xs) {g i : Nat} {v : Value} (hne : ∀ a, 0 < n → A = some a → a.block ≠ g) : Rds B (w.setCell ⟨g, i, none⟩ v) k A n c xs := by
  refine ⟨h.len, h.cap, h.max, fun j hj => ?_, fun p a e => ?_⟩
  · obtain ⟨ad, e, hc⟩ := h.cell j hj
    refine ⟨ad, e, ?_⟩
    rw [← hc]
    exact World.cell?_of_block (by rw [add_block]; exact blk_other1 _ _ (hne ad (by have := h.len; omega) e))
  · have hk := h.safe p a e
    have hn := hne a p e
    refine ⟨by rw [setCell_size]; exact hk.1, hk.2.imp id ?_⟩
    rintro ⟨cs, t, fr, q1, q2⟩
    exact ⟨cs, t, fr, (blk_other1 _ _ hn).trans q1, q2⟩
/-- The bytes lie below a bound. -/
def Low (B n : Nat) (A : Option Addr) : Prop := ∀ a, 0 < n → A = some a → a.block < B
theorem Rds.low {B : Nat} {w : World} {k : IntKind} {A : Option Addr} {n c : Nat} {xs : List Int} (h : Rds B w k A n c xs) : Low w.heap.size n A := fun a p e => (h.safe p a e).1
theorem Low.cut {B n : Nat} {A : Option Addr} (h : Low B n A) (s c : Nat) (hs : s ≤ n) : Low B (n - s) (cutA A s c) := fun a p e => by
  unfold cutA at e
  split at e
  · exact h a (by omega) e
  · cases hA : A with
    | none => rw [hA] at e; simp at e
    | some b =>
      rw [hA] at e
      simp only [Option.map_some, Option.some.injEq] at e
      subst e
      rw [add_block]
      exact h b (by omega) hA

/-- A local token. -/
def TbAt (w : World) (g : Nat) (l : Bool) (a t : Int) (v : Value) : Prop := w.heap[g]? = some (.cells #[.bool l, .int .i64 a, .int .i64 t, v] 32 (0, 0))
theorem TbAt.later {w w' : World} {B g : Nat} {l : Bool} {a t : Int} {v : Value} (h : TbAt w g l a t v) (hb : Below B w w') (hB : g < B) : TbAt w' g l a t v := (hb.block _ hB).trans h
theorem TbAt.frm {w w' : World} {B g : Nat} {l : Bool} {a t : Int} {v : Value} (h : TbAt w g l a t v) (hf : Frm tabO B w w') : TbAt w' g l a t v := hf.block _ _ h (.inr rfl)
theorem TbAt.lt {w : World} {g : Nat} {l : Bool} {a t : Int} {v : Value} (h : TbAt w g l a t v) : g < w.heap.size := lt_of_get h
theorem TbAt.x0 {w : World} {g : Nat} {l : Bool} {a t : Int} {v : Value} (h : TbAt w g l a t v) : w.cell? ⟨g, 0, none⟩ = some (.bool l) := by rw [cell_of_row w g 0 _ _ _ h]; rfl
theorem TbAt.x1 {w : World} {g : Nat} {l : Bool} {a t : Int} {v : Value} (h : TbAt w g l a t v) : w.cell? ⟨g, 1, none⟩ = some (.int .i64 a) := by rw [cell_of_row w g 1 _ _ _ h]; rfl
theorem TbAt.x2 {w : World} {g : Nat} {l : Bool} {a t : Int} {v : Value} (h : TbAt w g l a t v) : w.cell? ⟨g, 2, none⟩ = some (.int .i64 t) := by rw [cell_of_row w g 2 _ _ _ h]; rfl
theorem TbAt.x3 {w : World} {g : Nat} {l : Bool} {a t : Int} {v : Value} (h : TbAt w g l a t v) : w.cell? ⟨g, 3, none⟩ = some v := by rw [cell_of_row w g 3 _ _ _ h]; rfl
theorem tb_size : (Tryd.prog.info? 32).map (·.size) = some 4 := by kernel_rfl
theorem OwnI.setRow {w : World} {B : Nat} {k : IntKind} {v : Value} {xs : List Int} (h : OwnI w B k v xs) {g : Nat} (hg : g < B) (cs : Array Value) : OwnI (w.setRow g cs) B k v xs := by
  rcases h with h | ⟨g', cap, cur, t, rfl, hb, hgg, r⟩
  · exact .inl h
  · exact .inr ⟨g', cap, cur, t, rfl, hb, (setRow_other w g g' _ (by omega)).trans hgg, r⟩

set_option maxHeartbeats 3200000 in
set_option maxRecDepth 100000 in
theorem tnum_any {w V : World} {B : Nat} (A : Option Addr) (n c : Nat) (xs : List Int) (l : Bool) (a t : Int) (v : Value) (ok : Bool) (hs : RdSt w V A n c l a t v ok) (h : Rds B V .u8 A n c xs) (hlo : Low w.heap.size n A) (hb : Byt xs) :
    Calls Tryd.prog 45 #[.pointer (some ⟨w.heap.size, 0, none⟩), .pointer (some ⟨w.heap.size + 1 + 1 + 1, 0, none⟩)] V fun e V' => e = .returned (.int .i64 (readV xs).1) ∧
      RdSt w V' (cutA A (readV xs).2.1 c) (n - (readV xs).2.1) (c - (readV xs).2.1) l a t v (ok && decide ((readV xs).2.2 = 0)) ∧ Rds B V' .u8 (cutA A (readV xs).2.1 c) (n - (readV xs).2.1) (c - (readV xs).2.1) (xs.drop (readV xs).2.1) := by
  have key := vread_any A n c xs V h hb
  have HS := Lib.hid hs
  have HR := Lib.hid h
  have HLo := Lib.hid hlo
  have HL := Lib.hid h.len
  obtain ⟨y, s, e, hr⟩ : ∃ a s e, readV xs = (a, s, e) := ⟨_, _, _, rfl⟩
  have hs1 := readV_size (xs := xs)
  unfold ReadPost at key
  rw [hr] at key hs1 ⊢
  simp only at key hs1 ⊢
  have hsn : s ≤ n := by have := HL.out; omega
  obtain ⟨b0, r0, r1, r2, r3, x0, x1, x2, x3, o0⟩ := HS.out.cells
  obtain ⟨fb, f0, f1, f2, f3, g1, g2, g3, fo⟩ := HS.out.free
  clear h hlo hs hr hs1 r0 r1 r2 r3 x0 x1 x2 x3 f0 f1 f2 f3 g1 g2 g3
  have fin : ∀ ok', ok' = (ok && decide (e = 0)) → (RdSt w ((V.setCell ⟨w.heap.size + 1 + 1 + 1, 0, none⟩ (.bool ok')).setCell ⟨w.heap.size, 0, none⟩ (.slice (cutA A s c) (n - s) (c - s))) (cutA A s c) (n - s) (c - s) l a t v (ok && decide (e = 0)) ∧
      Rds B ((V.setCell ⟨w.heap.size + 1 + 1 + 1, 0, none⟩ (.bool ok')).setCell ⟨w.heap.size, 0, none⟩ (.slice (cutA A s c) (n - s) (c - s))) .u8 (cutA A s c) (n - s) (c - s) (xs.drop s)) := by
    rintro ok' rfl
    refine ⟨(HS.out.setO _).setB _ _ _, ?_⟩
    have hc := HR.out.cut hsn
    have hl := HLo.out.cut s c hsn
    exact (hc.setCell fun b p q => by have := hl b p q; omega).setCell fun b p q => by have := hl b p q; omega
  have FIN := Lib.hid fin
  clear fin
  go_enter Tryd.func45, Tryd.ntmps45
  go_wp2_with fail
  refine key.mono ?_
  clear key
  rintro e' w1 ⟨rfl, rfl⟩
  have hcutR : ∀ (k : Bool), Rds B (V.setCell ⟨w.heap.size + 1 + 1 + 1, 0, none⟩ (.bool k)) .u8 A n c xs := fun k => HR.out.setCell fun b p q => by have := HLo.out b p q; omega
  have HCR := Lib.hid hcutR
  clear hcutR
  cases ok with
  | false =>
    go_wp2_with ((with_reducible show wpList _ _ _ (Oper.mk _ (Op.slice _ _ _ _ _) _ _ _ _ :: _) _ _); refine wp_cut rfl _ _ rfl rfl rfl s rfl hsn (HCR.out _) ?_; intro hr2; clear hr2)
    go_ret
    exact ⟨rfl, FIN.out _ (by simp)⟩
  | true =>
    by_cases he : e = 0
    · have hb1 : (e == 0) = true := by simp [he]
      have HE := Lib.hid he
      clear he
      go_wp2_with ((with_reducible show wpList _ _ _ (Oper.mk _ (Op.slice _ _ _ _ _) _ _ _ _ :: _) _ _); refine wp_cut rfl _ _ rfl rfl rfl s rfl hsn (HCR.out _) ?_; intro hr2; clear hr2)
      go_ret
      exact ⟨rfl, FIN.out _ (by simp [HE.out])⟩
    · have hb1 : (e == 0) = false := by simp [he]
      have HE := Lib.hid he
      clear he
      go_wp2_with ((with_reducible show wpList _ _ _ (Oper.mk _ (Op.slice _ _ _ _ _) _ _ _ _ :: _) _ _); refine wp_cut rfl _ _ rfl rfl rfl s rfl hsn (HCR.out _) ?_; intro hr2; clear hr2)
      go_ret
      exact ⟨rfl, FIN.out _ (by simp [HE.out])⟩
end Go.Proofs.YtmaedahleenlgaaDoor

/- What bytes say as a token (layer 16): read. No condition. -/
set_option linter.unusedVariables false
set_option linter.unusedSimpArgs false
namespace Go.Proofs.YtmaedahleenlgaaDoor
open Go Go.RowKit

/-- A token as a value: its name is the call's own. -/
def TokV (x : Tok) (A : Option Addr) (c : Nat) : Value := .agg #[.bool x.later, .int .i64 x.addr, .int .i64 x.time, .slice A x.name.length c]
def KPost (r : Option Tok) (w : World) (e : Ending) (w' : World) : Prop :=
  ∃ A c, e = .returned (.tuple #[TokV (r.getD tok0) A c, .bool r.isSome]) ∧ OwnI w' w.heap.size .u8 (.slice A (r.getD tok0).name.length c) (r.getD tok0).name ∧ Below w.heap.size w w'
theorem KPost.no {r : Option Tok} {w w' : World} (h : r = none) (hb : Below w.heap.size w w') : KPost r w (.returned (.tuple #[.agg #[.bool false, .int .i64 0, .int .i64 0, .slice none 0 0], .bool false])) w' := by
  subst h
  exact ⟨none, 0, rfl, OwnI.nil _ _ _, hb⟩
theorem KPost.yes {r : Option Tok} {w w' : World} {l : Bool} {a t : Int} {nm : List Int} {A : Option Addr} {c : Nat} (h : r = some ⟨l, a, t, nm⟩) (ho : OwnI w' w.heap.size .u8 (.slice A nm.length c) nm) (hb : Below w.heap.size w w') : KPost r w (.returned (.tuple #[.agg #[.bool l, .int .i64 a, .int .i64 t, .slice A nm.length c], .bool true])) w' := by
  subst h
  exact ⟨A, c, rfl, ho, hb⟩

set_option maxHeartbeats 6400000 in
set_option maxRecDepth 100000 in
theorem tread_any {B : Nat} (A : Option Addr) (n c : Nat) (xs : List Int) (w : World) (h : Rds B w .u8 A n c xs) (hb : Byt xs) (hn : n ≤ 1000000) :
    Calls Tryd.prog 34 #[.slice A n c] w (KPost (readK xs) w) := by
  have HR := Lib.hid h
  have HL := Lib.hid h.len
  have HY := Lib.hid hb
  clear h hb
  by_cases h0 : n = 0
  · subst h0
    have HN : Hid (readK xs = none) := readK_no fun k => by have := k.1.1; have := HL.out; omega
    go_enter Tryd.func34, Tryd.ntmps34
    go_wp2_with fail
    go_returns
    exact KPost.no HN.out ((below_new _).alloc (by simp) _)
  obtain ⟨bA, oA, rfl, hcx⟩ := RdI.at_ HR.out.cell (by have := HL.out; omega)
  obtain ⟨y, hy⟩ : ∃ y, y = nth xs 0 := ⟨_, rfl⟩
  have g0 := hcx 0 (by have := HL.out; omega)
  rw [← hy, Nat.add_zero] at g0
  have hy0 : 0 ≤ y ∧ y ≤ 255 := by rw [hy]; exact HY.out _ (nth_mem (by have := HL.out; omega))
  have lA : bA < w.heap.size := (HR.out.safe (by omega) _ rfl).1
  have HYn := Lib.hid hy
  have hnb : ((n : Int) == 0) = false := by rw [beq_eq_false_iff_ne]; omega
  have hni : (0 : Int) < n := by omega
  clear hcx hy
  by_cases hy1 : 1 < y
  · have HN : Hid (readK xs = none) := readK_no fun k => by have h1 := k.1.2; rw [← HYn.out] at h1; omega
    go_enter Tryd.func34, Tryd.ntmps34
    go_wp2_with fail
    go_returns
    exact KPost.no HN.out ((below_new _).alloc (by simp) _)
  obtain ⟨l, hl⟩ : ∃ l, l = (y == 1) := ⟨_, rfl⟩
  have HLb := Lib.hid hl
  have hlb : (y == 1) = l := hl.symm
  have hnb2 : (n : Int) ≤ c := by have := HR.out.cap; omega
  clear hl
  go_enter Tryd.func34, Tryd.ntmps34
  go_wp2_with ((with_reducible show wpList _ _ _ (Oper.mk _ (Op.slice _ _ _ _ _) _ _ _ _ :: _) _ _); refine wp_cut rfl _ _ rfl rfl rfl 1 rfl (by omega) (HR.out.below ((((below_new _).alloc (by simp) _).alloc (by simp; omega) _).alloc (by simp; omega) _)) ?_; intro hr2; clear hr2)
  obtain ⟨A1, hA1⟩ : ∃ A1, A1 = cutA (some ⟨bA, oA, none⟩) 1 c := ⟨_, rfl⟩
  rw [← hA1]
  obtain ⟨V, hV⟩ : ∃ V, V = ((((w.alloc (.cells #[.slice A1 (n - 1) (c - 1)] 22)).alloc (.cells #[.bool false, .int .i64 0, .int .i64 0, .slice none 0 0] 32)).alloc (.cells #[.bool l, .int .i64 0, .int .i64 0, .slice none 0 0] 32)).alloc (.cells #[.bool true] 4)) := ⟨_, rfl⟩
  have HS : Hid (RdSt w V A1 (n - 1) (c - 1) l 0 0 (.slice none 0 0) true) := by
    rw [hV]
    refine ⟨?_, ?_, ?_, ?_, (((below_new _).alloc (by simp) _).alloc (by simp; omega) _).alloc (by simp; omega) _⟩
    · exact (Below.heap_alloc _ _ _ (by simp; try omega)).trans ((Below.heap_alloc _ _ _ (by simp; try omega)).trans ((Below.heap_alloc _ _ _ (by simp)).trans (heap_alloc_new w _)))
    · have := heap_alloc_new (w.alloc (.cells #[.slice A1 (n - 1) (c - 1)] 22)) (.cells #[.bool false, .int .i64 0, .int .i64 0, .slice none 0 0] 32)
      rw [World.size_alloc] at this
      exact (Below.heap_alloc _ _ _ (by simp; try omega)).trans ((Below.heap_alloc _ _ _ (by simp; try omega)).trans this)
    · have := heap_alloc_new ((w.alloc (.cells #[.slice A1 (n - 1) (c - 1)] 22)).alloc (.cells #[.bool false, .int .i64 0, .int .i64 0, .slice none 0 0] 32)) (.cells #[.bool l, .int .i64 0, .int .i64 0, .slice none 0 0] 32)
      rw [World.size_alloc, World.size_alloc] at this
      exact (Below.heap_alloc _ _ _ (by simp)).trans this
    · have := heap_alloc_new (((w.alloc (.cells #[.slice A1 (n - 1) (c - 1)] 22)).alloc (.cells #[.bool false, .int .i64 0, .int .i64 0, .slice none 0 0] 32)).alloc (.cells #[.bool l, .int .i64 0, .int .i64 0, .slice none 0 0] 32)) (.cells #[.bool true] 4)
      rw [World.size_alloc, World.size_alloc, World.size_alloc] at this
      exact this
  have HR1 : Hid (Rds B V .u8 A1 (n - 1) (c - 1) (xs.drop 1)) := by rw [hA1]; exact (HR.out.below HS.out.bl).cut (by omega)
  have HLo : Hid (Low w.heap.size (n - 1) A1) := by rw [hA1]; exact HR.out.low.cut 1 c (by omega)
  have key := tnum_any _ _ _ _ _ _ _ _ _ HS.out HR1.out HLo.out (byt_drop HY.out 1)
  rw [← hV]
  clear hV hA1 g0
  refine key.mono ?_
  clear key
  rintro e V1 ⟨rfl, hs, hr⟩
  obtain ⟨a1, s1, e1, k1⟩ : ∃ a s e, kd1 xs = (a, s, e) := ⟨_, _, _, rfl⟩
  have hs1 := readV_size (xs := xs.drop 1)
  rw [show readV (xs.drop 1) = (a1, s1, e1) from k1] at hs hr hs1 ⊢
  simp only [List.length_drop] at hs hr hs1 ⊢
  have K1 := Lib.hid k1
  have hs1n : s1 ≤ n - 1 := by have := HL.out; omega
  obtain ⟨A2, hA2⟩ : ∃ A2, A2 = cutA A1 s1 (c - 1) := ⟨_, rfl⟩
  have HLo2 : Hid (Low w.heap.size (n - 1 - s1) A2) := by rw [hA2]; exact HLo.out.cut s1 (c - 1) hs1n
  rw [← hA2] at hs hr
  have HS1 := Lib.hid hs
  have HR2 := Lib.hid hr
  have q1 := hs.cells.2.2.2.2.2.2.1
  have f1 := hs.free.2.2.2.2.2.1
  clear hs hr hs1 k1 hA2 HS HR1 HLo
  go_wp2_with fail
  obtain ⟨V2, hV2⟩ : ∃ V2, V2 = V1.setCell ⟨w.heap.size + 1 + 1, 1, none⟩ (.int .i64 a1) := ⟨_, rfl⟩
  have HS2 : Hid (RdSt w V2 A2 (n - 1 - s1) (c - 1 - s1) l a1 0 (.slice none 0 0) (true && decide (e1 = 0))) := by rw [hV2]; exact HS1.out.setA a1
  have HR3 : Hid (Rds B V2 .u8 A2 (n - 1 - s1) (c - 1 - s1) (xs.drop (1 + s1))) := by
    rw [hV2]
    have := HR2.out
    rw [List.drop_drop] at this
    exact this.setCell fun b p q => by have := HLo2.out b p q; omega
  have key := tnum_any _ _ _ _ _ _ _ _ _ HS2.out HR3.out HLo2.out (byt_drop HY.out _)
  rw [← hV2]
  clear hV2 q1 f1 HS1 HR2
  refine key.mono ?_
  clear key
  rintro e V3 ⟨rfl, hs, hr⟩
  obtain ⟨a2, s2, e2, k2⟩ : ∃ a s e, kd2 xs = (a, s, e) := ⟨_, _, _, rfl⟩
  have hs2 := readV_size (xs := xs.drop (1 + s1))
  have k2' : readV (xs.drop (1 + s1)) = (a2, s2, e2) := by have h := k2; unfold kd2 at h; rw [K1.out] at h; exact h
  rw [k2'] at hs hr hs2 ⊢
  simp only [List.length_drop] at hs hr hs2 ⊢
  have K2 := Lib.hid k2
  have hs2n : s2 ≤ n - 1 - s1 := by have := HL.out; omega
  obtain ⟨A3, hA3⟩ : ∃ A3, A3 = cutA A2 s2 (c - 1 - s1) := ⟨_, rfl⟩
  have HLo3 : Hid (Low w.heap.size (n - 1 - s1 - s2) A3) := by rw [hA3]; exact HLo2.out.cut s2 _ hs2n
  obtain ⟨ok, hok⟩ : ∃ ok, ok = (true && decide (e1 = 0) && decide (e2 = 0)) := ⟨_, rfl⟩
  rw [← hA3, ← hok] at hs
  rw [← hA3] at hr
  have HOK := Lib.hid hok
  have HS3 := Lib.hid hs
  have HR4 := Lib.hid hr
  have q1 := hs.cells.2.2.2.2.2.2.2.1
  have f1 := hs.free.2.2.2.2.2.2.1
  have q0 := hs.cells.1
  clear hs hr hs2 k2 k2' hA3 HS2 HR3 HLo2 hok
  obtain ⟨V4, hV4⟩ : ∃ V4, V4 = V3.setCell ⟨w.heap.size + 1 + 1, 2, none⟩ (.int .i64 a2) := ⟨_, rfl⟩
  have HS4 : Hid (RdSt w V4 A3 (n - 1 - s1 - s2) (c - 1 - s1 - s2) l a1 a2 (.slice none 0 0) ok) := by rw [hV4]; exact HS3.out.setT a2
  have HR5 : Hid (Rds B V4 .u8 A3 (n - 1 - s1 - s2) (c - 1 - s1 - s2) (xs.drop (1 + s1 + s2))) := by
    rw [hV4]
    have := HR4.out
    rw [List.drop_drop] at this
    exact this.setCell fun b p q => by have := HLo3.out b p q; omega
  have key := vtake_any _ _ _ _ _ HR5.out (byt_drop HY.out _) (by omega)
  go_wp2_with fail
  rw [← hV4]
  clear hV4 q1 f1 q0 HS3 HR4
  refine key.mono ?_
  clear key
  rintro e V5 ⟨v7, v8, rfl, ho7, ho8, hb⟩
  obtain ⟨nm, rs, e3, k3⟩ : ∃ a b e, kd3 xs = (a, b, e) := ⟨_, _, _, rfl⟩
  have k3' : takeV (xs.drop (1 + s1 + s2)) = (nm, rs, e3) := by have h := k3; unfold kd3 at h; rw [K1.out, K2.out] at h; exact h
  rw [k3'] at ho7 ho8 ⊢
  simp only at ho7 ho8 ⊢
  have K3 := Lib.hid k3
  obtain ⟨A7, c7, rfl⟩ := ho7.slice
  obtain ⟨A8, c8, rfl⟩ := ho8.slice
  have HS5 := Lib.hid (HS4.out.below hb)
  have HB4 : Hid (w.heap.size + 1 + 1 < V4.heap.size) := lt_of_get HS4.out.x
  have HO7 := Lib.hid ho7
  obtain ⟨-, r0, r1, r2, r3, x0, x1, x2, x3, o0⟩ := HS5.out.cells
  obtain ⟨-, f0, f11, f2, f3, -, -, f1, -⟩ := HS5.out.free
  clear ho7 ho8 hb k3 k3' HS4 HR5
  obtain ⟨V6, hV6⟩ : ∃ V6, V6 = V5.setCell ⟨w.heap.size + 1 + 1, 3, none⟩ (.slice A7 nm.length c7) := ⟨_, rfl⟩
  have HS6 : Hid (RdSt w V6 A3 (n - 1 - s1 - s2) (c - 1 - s1 - s2) l a1 a2 (.slice A7 nm.length c7) ok) := by rw [hV6]; exact HS5.out.setN _
  have HO6 : Hid (OwnI V6 V4.heap.size .u8 (.slice A7 nm.length c7) nm) := by rw [hV6]; exact HO7.out.setBelow HB4.out _
  have HRb := Lib.hid HS6.out.r
  have HBb := Lib.hid HS6.out.bl
  have HOb := Lib.hid HO6.out
  rw [hV6] at HRb HBb HOb
  clear hV6 HS6 HO6 HS5 HO7 r0 r1 r2 r3 f0 f11 f2 f3
  have no : ¬ kdOk xs → Hid (readK xs = none) := fun h => readK_no h
  by_cases hk : ok = true
  rotate_left
  · have HN := no fun k => by
      rw [HOK.out] at hk
      have h1 := k.2.1
      have h2 := k.2.2.1
      rw [K1.out] at h1
      rw [K2.out] at h2
      simp only at h1 h2
      simp [h1, h2] at hk
    have hkf : ok = false := by simpa using hk
    subst hkf
    clear hk no
    go_wp2_with ((with_reducible show wpList _ _ _ (Oper.mk _ (Op.store 32 (.tmp 2) _) _ _ _ _ :: _) _ _); (refine wp_store_row rfl rfl _ _ _ rfl (w.heap.size + 1) _ _ 32 rfl rfl tb_size HRb.out rfl (by simp [Value.oneCell']) ?_))
    obtain ⟨u, hu⟩ : ∃ u, u = World.setRow (V5.setCell ⟨w.heap.size + 1 + 1, 3, none⟩ (.slice A7 nm.length c7)) (w.heap.size + 1) #[.bool false, .int .i64 0, .int .i64 0, .slice none 0 0] := ⟨_, rfl⟩
    rw [← hu]
    have hux : TbAt u (w.heap.size + 1) false 0 0 (.slice none 0 0) := by rw [hu]; exact setRow_heap _ (w.heap.size + 1) _ _ _ _ HRb.out
    have HBu : Hid (Below w.heap.size w u) := by rw [hu]; exact below_setRow HBb.out (Nat.le_succ _) _
    have HOu : Hid (OwnI u w.heap.size .u8 (.slice A7 nm.length c7) nm) := by rw [hu]; exact (HOb.out.setRow (by have := HB4.out; omega) _).mono (by have := HB4.out; omega)
    have z0 := hux.x0
    have z1 := hux.x1
    have z2 := hux.x2
    have z3 := hux.x3
    clear hu hux
    refine bodyPost_ret (v := .tuple #[.agg #[.bool false, .int .i64 0, .int .i64 0, .slice none 0 0], .bool false]) (by simp [results, Tryd.results34, go_sem, z0, z1, z2, z3]) rfl ?_
    exact KPost.no HN.out HBu.out
  subst hk
  by_cases he3 : e3 = 0
  rotate_left
  · have HN := no fun k => by have h := k.2.2.2.1; rw [K3.out] at h; exact he3 h
    have hb1 : (e3 != 0) = true := by simp [he3]
    clear he3 no
    go_wp2_with ((with_reducible show wpList _ _ _ (Oper.mk _ (Op.store 32 (.tmp 2) _) _ _ _ _ :: _) _ _); (refine wp_store_row rfl rfl _ _ _ rfl (w.heap.size + 1) _ _ 32 rfl rfl tb_size HRb.out rfl (by simp [Value.oneCell']) ?_))
    obtain ⟨u, hu⟩ : ∃ u, u = World.setRow (V5.setCell ⟨w.heap.size + 1 + 1, 3, none⟩ (.slice A7 nm.length c7)) (w.heap.size + 1) #[.bool false, .int .i64 0, .int .i64 0, .slice none 0 0] := ⟨_, rfl⟩
    rw [← hu]
    have hux : TbAt u (w.heap.size + 1) false 0 0 (.slice none 0 0) := by rw [hu]; exact setRow_heap _ (w.heap.size + 1) _ _ _ _ HRb.out
    have HBu : Hid (Below w.heap.size w u) := by rw [hu]; exact below_setRow HBb.out (Nat.le_succ _) _
    have HOu : Hid (OwnI u w.heap.size .u8 (.slice A7 nm.length c7) nm) := by rw [hu]; exact (HOb.out.setRow (by have := HB4.out; omega) _).mono (by have := HB4.out; omega)
    have z0 := hux.x0
    have z1 := hux.x1
    have z2 := hux.x2
    have z3 := hux.x3
    clear hu hux
    refine bodyPost_ret (v := .tuple #[.agg #[.bool false, .int .i64 0, .int .i64 0, .slice none 0 0], .bool false]) (by simp [results, Tryd.results34, go_sem, z0, z1, z2, z3]) rfl ?_
    exact KPost.no HN.out HBu.out
  subst he3
  by_cases hrs : rs.length = 0
  rotate_left
  · have HN := no fun k => by have h := k.2.2.2.2.1; rw [K3.out] at h; exact hrs h
    have hb1 : 0 < (rs.length : Int) := by omega
    have hb2 : 0 < rs.length := by omega
    clear hrs no
    go_wp2_with ((with_reducible show wpList _ _ _ (Oper.mk _ (Op.store 32 (.tmp 2) _) _ _ _ _ :: _) _ _); (refine wp_store_row rfl rfl _ _ _ rfl (w.heap.size + 1) _ _ 32 rfl rfl tb_size HRb.out rfl (by simp [Value.oneCell']) ?_))
    obtain ⟨u, hu⟩ : ∃ u, u = World.setRow (V5.setCell ⟨w.heap.size + 1 + 1, 3, none⟩ (.slice A7 nm.length c7)) (w.heap.size + 1) #[.bool false, .int .i64 0, .int .i64 0, .slice none 0 0] := ⟨_, rfl⟩
    rw [← hu]
    have hux : TbAt u (w.heap.size + 1) false 0 0 (.slice none 0 0) := by rw [hu]; exact setRow_heap _ (w.heap.size + 1) _ _ _ _ HRb.out
    have HBu : Hid (Below w.heap.size w u) := by rw [hu]; exact below_setRow HBb.out (Nat.le_succ _) _
    have HOu : Hid (OwnI u w.heap.size .u8 (.slice A7 nm.length c7) nm) := by rw [hu]; exact (HOb.out.setRow (by have := HB4.out; omega) _).mono (by have := HB4.out; omega)
    have z0 := hux.x0
    have z1 := hux.x1
    have z2 := hux.x2
    have z3 := hux.x3
    clear hu hux
    refine bodyPost_ret (v := .tuple #[.agg #[.bool false, .int .i64 0, .int .i64 0, .slice none 0 0], .bool false]) (by simp [results, Tryd.results34, go_sem, z0, z1, z2, z3]) rfl ?_
    exact KPost.no HN.out HBu.out
  have hrs' : ¬ 0 < rs.length := by omega
  by_cases hnm : nm.length ≤ 20
  rotate_left
  · have HN := no fun k => by have h := k.2.2.2.2.2; rw [K3.out] at h; exact hnm h
    have hb1 : 20 < (nm.length : Int) := by omega
    clear hnm no
    go_wp2_with ((with_reducible show wpList _ _ _ (Oper.mk _ (Op.store 32 (.tmp 2) _) _ _ _ _ :: _) _ _); (refine wp_store_row rfl rfl _ _ _ rfl (w.heap.size + 1) _ _ 32 rfl rfl tb_size HRb.out rfl (by simp [Value.oneCell']) ?_))
    obtain ⟨u, hu⟩ : ∃ u, u = World.setRow (V5.setCell ⟨w.heap.size + 1 + 1, 3, none⟩ (.slice A7 nm.length c7)) (w.heap.size + 1) #[.bool false, .int .i64 0, .int .i64 0, .slice none 0 0] := ⟨_, rfl⟩
    rw [← hu]
    have hux : TbAt u (w.heap.size + 1) false 0 0 (.slice none 0 0) := by rw [hu]; exact setRow_heap _ (w.heap.size + 1) _ _ _ _ HRb.out
    have HBu : Hid (Below w.heap.size w u) := by rw [hu]; exact below_setRow HBb.out (Nat.le_succ _) _
    have HOu : Hid (OwnI u w.heap.size .u8 (.slice A7 nm.length c7) nm) := by rw [hu]; exact (HOb.out.setRow (by have := HB4.out; omega) _).mono (by have := HB4.out; omega)
    have z0 := hux.x0
    have z1 := hux.x1
    have z2 := hux.x2
    have z3 := hux.x3
    clear hu hux
    refine bodyPost_ret (v := .tuple #[.agg #[.bool false, .int .i64 0, .int .i64 0, .slice none 0 0], .bool false]) (by simp [results, Tryd.results34, go_sem, z0, z1, z2, z3]) rfl ?_
    exact KPost.no HN.out HBu.out
  · have HN : Hid (readK xs = some ⟨l, a1, a2, nm⟩) := by
      show _ = _
      have hok : (true && decide (e1 = 0) && decide (e2 = 0)) = true := HOK.out.symm
      simp only [Bool.true_and, Bool.and_eq_true, decide_eq_true_eq] at hok
      rw [readK_yes ⟨⟨by have := HL.out; omega, by rw [← HYn.out]; exact hy1⟩, by rw [K1.out]; exact hok.1, by rw [K2.out]; exact hok.2, by rw [K3.out], by rw [K3.out]; exact hrs, by rw [K3.out]; exact hnm⟩, K1.out, K2.out, K3.out, ← HYn.out]
      have : decide (y = 1) = l := by rw [HLb.out]; rfl
      rw [this]
    have hb1 : ¬ 20 < (nm.length : Int) := by omega
    clear hnm no
    go_wp2_with ((with_reducible show wpList _ _ _ (Oper.mk _ (Op.store 32 (.tmp 2) _) _ _ _ _ :: _) _ _); (refine wp_store_row rfl rfl _ _ _ rfl (w.heap.size + 1) _ _ 32 rfl rfl tb_size HRb.out rfl (by simp [Value.oneCell']) ?_))
    obtain ⟨u, hu⟩ : ∃ u, u = World.setRow (V5.setCell ⟨w.heap.size + 1 + 1, 3, none⟩ (.slice A7 nm.length c7)) (w.heap.size + 1) #[.bool l, .int .i64 a1, .int .i64 a2, .slice A7 nm.length c7] := ⟨_, rfl⟩
    rw [← hu]
    have hux : TbAt u (w.heap.size + 1) l a1 a2 (.slice A7 nm.length c7) := by rw [hu]; exact setRow_heap _ (w.heap.size + 1) _ _ _ _ HRb.out
    have HBu : Hid (Below w.heap.size w u) := by rw [hu]; exact below_setRow HBb.out (Nat.le_succ _) _
    have HOu : Hid (OwnI u w.heap.size .u8 (.slice A7 nm.length c7) nm) := by rw [hu]; exact (HOb.out.setRow (by have := HB4.out; omega) _).mono (by have := HB4.out; omega)
    have z0 := hux.x0
    have z1 := hux.x1
    have z2 := hux.x2
    have z3 := hux.x3
    clear hu hux
    refine bodyPost_ret (v := .tuple #[.agg #[.bool l, .int .i64 a1, .int .i64 a2, .slice A7 nm.length c7], .bool true]) (by simp [results, Tryd.results34, go_sem, z0, z1, z2, z3]) rfl ?_
    exact KPost.yes HN.out HOu.out HBu.out
end Go.Proofs.YtmaedahleenlgaaDoor

/- Three numbers of layer 17: the program's. No condition. -/
set_option linter.unusedVariables false
set_option linter.unusedSimpArgs false
namespace Go.Proofs.YtmaedahleenlgaaDoor
open Go Go.RowKit

def NumsPost (xs : List Int) (w : World) (e : Ending) (w' : World) : Prop :=
  ∃ a b c ok, e = .returned (.tuple #[.agg #[.int .i64 a, .int .i64 b, .int .i64 c], .bool ok]) ∧ (ok = true → readT xs = some (a, b, c)) ∧ (ok = false → readT xs = none) ∧ Below w.heap.size w w'
theorem NumsPost.no {xs : List Int} {w w' : World} {a b c : Int} (h : readT xs = none) (hb : Below w.heap.size w w') : NumsPost xs w (.returned (.tuple #[.agg #[.int .i64 a, .int .i64 b, .int .i64 c], .bool false])) w' :=
  ⟨a, b, c, false, rfl, by simp, fun _ => h, hb⟩
theorem NumsPost.yes {xs : List Int} {w w' : World} {a b c : Int} (h : readT xs = some (a, b, c)) (hb : Below w.heap.size w w') : NumsPost xs w (.returned (.tuple #[.agg #[.int .i64 a, .int .i64 b, .int .i64 c], .bool true])) w' :=
  ⟨a, b, c, true, rfl, fun _ => h, by simp, hb⟩

set_option maxHeartbeats 3200000 in
set_option maxRecDepth 100000 in
theorem nums_any {B : Nat} (A : Option Addr) (n c : Nat) (xs : List Int) (w : World) (h : Rds B w .u8 A n c xs) (hb : Byt xs) (hn : n ≤ 1000000) :
    Calls Tryd.prog 40 #[.slice A n c] w (NumsPost xs w) := by
  have H0 := Lib.hid h
  have HR := Lib.hid (h.below (below_new (.cells #[.int .i64 0, .int .i64 0, .int .i64 0] 84)))
  have HL := Lib.hid h.len
  have HY := Lib.hid hb
  have key := vread_any A n c xs _ HR.out hb
  clear h hb
  go_enter Tryd.func40, Tryd.ntmps40
  go_wp2_with fail
  refine wp_loop_rounds 4 ?_
  rw [rounds_succ]
  go_wp2_with fail
  refine key.mono ?_
  clear key
  rintro e w1 ⟨rfl, rfl⟩
  obtain ⟨a, s1, e1, hr1⟩ : ∃ a s e, readV xs = (a, s, e) := ⟨_, _, _, rfl⟩
  have R1 : Hid (rd1 xs = (a, s1, e1)) := hr1
  have hs1 := readV_size (xs := xs)
  rw [hr1] at hs1 ⊢
  simp only at hs1 ⊢
  have hs1n : s1 ≤ n := by have := HL.out; omega
  clear hr1 hs1
  by_cases he1 : e1 = 0
  rotate_left
  · have HN : Hid (readT xs = none) := readT_no fun k => by rw [R1.out] at k; exact he1 k.1
    have hb1 : (e1 != 0) = true := by simp [he1]
    clear he1
    go_wp2_with fail
    go_returns
    exact NumsPost.no HN.out (below_new _)
  subst he1
  go_wp2_with fail
  obtain ⟨A', hA'⟩ : ∃ A', A' = cutA A s1 c := ⟨_, rfl⟩
  have HR2 : Hid (Rds B (w.alloc (.cells #[.int .i64 0, .int .i64 0, .int .i64 0] 84)) .u8 A' (n - s1) (c - s1) (xs.drop s1)) := by rw [hA']; exact HR.out.cut hs1n
  have hif : (if c = s1 then A else Option.map (fun x => x.add s1) A) = A' := by rw [hA']; unfold cutA; simp
  have hif2 : (if c = s1 then A else Option.map (fun x => x.add (s1 * 1)) A) = A' := by rw [hA']; unfold cutA; simp
  have HA' := Lib.hid hA'
  clear hA'
  go_region
  clear hif hif2
  have HB1 : Hid (Below w.heap.size w ((w.alloc (.cells #[.int .i64 a, .int .i64 0, .int .i64 0] 84)).drew)) := (below_new _).drew
  have HS1 : Hid (Rds B ((w.alloc (.cells #[.int .i64 a, .int .i64 0, .int .i64 0] 84)).drew) .u8 A' (n - s1) (c - s1) (xs.drop s1)) := by rw [HA'.out]; exact ((H0.out.below HB1.out).cut hs1n)
  have key := vread_any _ _ _ _ _ HS1.out (fun x hx => HY.out x (List.mem_of_mem_drop hx))
  clear HR HR2
  go_wp2_with fail
  rw [rounds_succ]
  go_wp2_with fail
  refine key.mono ?_
  clear key
  rintro e w2 ⟨rfl, rfl⟩
  obtain ⟨b, s2, e2, hr2⟩ : ∃ a s e, readV (xs.drop s1) = (a, s, e) := ⟨_, _, _, rfl⟩
  have R2 : Hid (rd2 xs = (b, s2, e2)) := by show rd2 xs = _; unfold rd2; rw [R1.out]; exact hr2
  have hs2 := readV_size (xs := xs.drop s1)
  rw [hr2] at hs2 ⊢
  simp only [List.length_drop] at hs2 ⊢
  have hs2n : s2 ≤ n - s1 := by have := HL.out; omega
  clear hr2 hs2
  by_cases he2 : e2 = 0
  rotate_left
  · have HN : Hid (readT xs = none) := readT_no fun k => by rw [R2.out] at k; exact he2 k.2.1
    have hb1 : (e2 != 0) = true := by simp [he2]
    clear he2
    go_wp2_with fail
    go_returns
    exact NumsPost.no HN.out ((below_new _).drew)
  subst he2
  go_wp2_with fail
  obtain ⟨A2, hA2⟩ : ∃ A2, A2 = cutA A' s2 (c - s1) := ⟨_, rfl⟩
  have hif : (if c - s1 = s2 then A' else Option.map (fun x => x.add s2) A') = A2 := by rw [hA2]; unfold cutA; simp
  have HA2 := Lib.hid hA2
  clear hA2
  have hc2 : n - s1 ≤ c - s1 := HS1.out.cap
  have hs2z : (0 : Int) ≤ s2 := by omega
  have hs2i : (s2 : Int) ≤ ((n - s1 : Nat) : Int) := by omega
  go_region
  clear hif hc2 hs2z hs2i HS1 HB1
  have HB2 : Hid (Below w.heap.size w ((w.alloc (.cells #[.int .i64 a, .int .i64 b, .int .i64 0] 84)).drew.drew)) := (below_new _).drew.drew
  have HS2 : Hid (Rds B ((w.alloc (.cells #[.int .i64 a, .int .i64 b, .int .i64 0] 84)).drew.drew) .u8 A2 (n - s1 - s2) (c - s1 - s2) ((xs.drop s1).drop s2)) := by rw [HA2.out, HA'.out]; exact (((H0.out.below HB2.out).cut hs1n).cut hs2n)
  have key := vread_any _ _ _ _ _ HS2.out (fun x hx => HY.out x (List.mem_of_mem_drop (List.mem_of_mem_drop hx)))
  go_wp2_with fail
  rw [rounds_succ]
  go_wp2_with fail
  refine key.mono ?_
  clear key
  rintro e w3 ⟨rfl, rfl⟩
  obtain ⟨d, s3, e3, hr3⟩ : ∃ a s e, readV ((xs.drop s1).drop s2) = (a, s, e) := ⟨_, _, _, rfl⟩
  have R3 : Hid (rd3 xs = (d, s3, e3)) := by show rd3 xs = _; unfold rd3; rw [R1.out, R2.out]; rw [List.drop_drop] at hr3; exact hr3
  have hs3 := readV_size (xs := (xs.drop s1).drop s2)
  rw [hr3] at hs3 ⊢
  simp only [List.length_drop] at hs3 ⊢
  have hs3n : s3 ≤ n - s1 - s2 := by have := HL.out; omega
  clear hr3 hs3
  by_cases he3 : e3 = 0
  rotate_left
  · have HN : Hid (readT xs = none) := readT_no fun k => by rw [R3.out] at k; exact he3 k.2.2.1
    have hb1 : (e3 != 0) = true := by simp [he3]
    clear he3
    go_wp2_with fail
    go_returns
    exact NumsPost.no HN.out ((below_new _).drew.drew)
  subst he3
  go_wp2_with fail
  obtain ⟨A3, hA3⟩ : ∃ A3, A3 = cutA A2 s3 (c - s1 - s2) := ⟨_, rfl⟩
  have hif : (if c - s1 - s2 = s3 then A2 else Option.map (fun x => x.add s3) A2) = A3 := by rw [hA3]; unfold cutA; simp
  clear hA3
  have hc3 : n - s1 - s2 ≤ c - s1 - s2 := HS2.out.cap
  have hs3z : (0 : Int) ≤ s3 := by omega
  have hs3i : (s3 : Int) ≤ ((n - s1 - s2 : Nat) : Int) := by omega
  go_region
  clear hif hc3 hs3z hs3i HS2
  by_cases hs : s1 + s2 + s3 = n
  rotate_left
  · have HN : Hid (readT xs = none) := readT_no fun k => by rw [R1.out, R2.out, R3.out] at k; have := HL.out; exact hs (k.2.2.2.trans this)
    have hb1 : (((n - s1 - s2 - s3 : Nat) : Int) == 0) = false := by rw [beq_eq_false_iff_ne]; omega
    clear hs
    go_wp2_with fail
    rw [rounds_succ]
    go_wp2_with fail
    go_returns
    exact NumsPost.no HN.out ((below_new _).drew.drew.drew)
  · have HN : Hid (readT xs = some (a, b, d)) := by
      show _ = _
      rw [readT_yes (by rw [R1.out, R2.out, R3.out]; exact ⟨rfl, rfl, rfl, hs.trans HL.out.symm⟩), R1.out, R2.out, R3.out]
    have hb1 : (((n - s1 - s2 - s3 : Nat) : Int) == 0) = true := by rw [beq_iff_eq]; omega
    clear hs
    go_wp2_with fail
    rw [rounds_succ]
    go_wp2_with fail
    go_returns
    exact NumsPost.yes HN.out ((below_new _).drew.drew.drew)
end Go.Proofs.YtmaedahleenlgaaDoor

/- What formed does. No condition. -/
set_option linter.unusedVariables false
set_option linter.unusedSimpArgs false
namespace Go.Proofs.YtmaedahleenlgaaDoor
open Go Go.RowKit Go.WideMaps

def FormPost (r : Bool) (w : World) (e : Ending) (w' : World) : Prop := e = .returned (.bool r) ∧ w = w'
theorem form_of {r r' : Bool} (h : r = r') (w : World) : FormPost r' w (.returned (.bool r)) w := ⟨by rw [h], rfl⟩

set_option maxHeartbeats 800000 in
set_option maxRecDepth 100000 in
theorem formed_3 {B : Nat} (A : Option Addr) (n c : Nat) (l : List Int) (w : World) (hr : Rds B w .i64 A n c l) : Calls Tryd.prog 50 #[.int .i64 3, .slice A n c] w (FormPost (formedT 3 l) w) := by
  have hl := Lib.hid hr.len
  clear hr
  by_cases h : n ≤ 16
  · have h' : decide ((n : Int) ≤ 16) = true := by simp; omega
    go_enter Tryd.func50, Tryd.ntmps50
    go_wp2_with fail
    go_ret
    exact form_of (by have := hl.out; simp [formedT]; omega) _
  · have h' : decide ((n : Int) ≤ 16) = false := by simp; omega
    go_enter Tryd.func50, Tryd.ntmps50
    go_wp2_with fail
    go_ret
    exact form_of (by have := hl.out; simp [formedT]; omega) _

set_option maxHeartbeats 800000 in
set_option maxRecDepth 100000 in
theorem formed_4 {B : Nat} (A : Option Addr) (n c : Nat) (l : List Int) (w : World) (hr : Rds B w .i64 A n c l) : Calls Tryd.prog 50 #[.int .i64 4, .slice A n c] w (FormPost (formedT 4 l) w) := by
  have hl := Lib.hid hr.len
  clear hr
  by_cases h : n = 1
  · have h' : ((n : Int) == 1) = true := by simp; omega
    have h2 := Lib.hid h; clear h
    go_enter Tryd.func50, Tryd.ntmps50
    go_wp2_with fail
    go_ret
    exact form_of (by have := hl.out; have := h2.out; simp [formedT]; omega) _
  · have h' : ((n : Int) == 1) = false := by simp; omega
    go_enter Tryd.func50, Tryd.ntmps50
    go_wp2_with fail
    go_ret
    exact form_of (by have := hl.out; simp [formedT]; omega) _

set_option maxHeartbeats 800000 in
set_option maxRecDepth 100000 in
theorem formed_5 {B : Nat} (A : Option Addr) (n c : Nat) (l : List Int) (w : World) (hr : Rds B w .i64 A n c l) : Calls Tryd.prog 50 #[.int .i64 5, .slice A n c] w (FormPost (formedT 5 l) w) := by
  have hl := Lib.hid hr.len
  clear hr
  by_cases h : n = 2
  · have h' : ((n : Int) == 2) = true := by simp; omega
    have h2 := Lib.hid h; clear h
    go_enter Tryd.func50, Tryd.ntmps50
    go_wp2_with fail
    go_ret
    exact form_of (by have := hl.out; have := h2.out; simp [formedT]; omega) _
  · have h' : ((n : Int) == 2) = false := by simp; omega
    go_enter Tryd.func50, Tryd.ntmps50
    go_wp2_with fail
    go_ret
    exact form_of (by have := hl.out; simp [formedT]; omega) _

set_option maxHeartbeats 800000 in
set_option maxRecDepth 100000 in
theorem formed_6 {B : Nat} (A : Option Addr) (n c : Nat) (l : List Int) (w : World) (hr : Rds B w .i64 A n c l) : Calls Tryd.prog 50 #[.int .i64 6, .slice A n c] w (FormPost (formedT 6 l) w) := by
  have hl := Lib.hid hr.len
  by_cases h : n = 3
  rotate_left
  · have h' : ((n : Int) == 3) = false := by simp; omega
    clear hr
    go_enter Tryd.func50, Tryd.ntmps50
    go_wp2_with fail
    go_ret
    exact form_of (by have := hl.out; simp [formedT]; omega) _
  subst h
  obtain ⟨b, o, rfl, hc⟩ := hr.cell.at_ (by have := hl.out; omega)
  have c1 := hc 1 (by have := hl.out; omega)
  clear hc hr
  by_cases x1 : nth l 1 = 1
  rotate_left
  · have y1 : (nth l 1 == 1) = false := by simp [x1]
    have x1 := Lib.hid x1
    go_enter Tryd.func50, Tryd.ntmps50
    go_wp2_with fail
    go_ret
    exact form_of (by have := hl.out; have := x1.out; simp [formedT]; omega) _
  have y1 : (nth l 1 == 1) = true := by simp [x1]
  have x1 := Lib.hid x1
  go_enter Tryd.func50, Tryd.ntmps50
  go_wp2_with fail
  go_ret
  exact form_of (by have := hl.out; simp [formedT, x1.out]; omega) _

set_option maxHeartbeats 800000 in
set_option maxRecDepth 100000 in
theorem formed_10 {B : Nat} (A : Option Addr) (n c : Nat) (l : List Int) (w : World) (hr : Rds B w .i64 A n c l) : Calls Tryd.prog 50 #[.int .i64 10, .slice A n c] w (FormPost (formedT 10 l) w) := by
  have hl := Lib.hid hr.len
  by_cases h : n = 3
  rotate_left
  · have h' : ((n : Int) == 3) = false := by simp; omega
    clear hr
    go_enter Tryd.func50, Tryd.ntmps50
    go_wp2_with fail
    go_ret
    exact form_of (by have := hl.out; simp [formedT]; omega) _
  subst h
  obtain ⟨b, o, rfl, hc⟩ := hr.cell.at_ (by have := hl.out; omega)
  have c1 := hc 1 (by have := hl.out; omega)
  clear hc hr
  by_cases x1 : nth l 1 = 1
  rotate_left
  · have y1 : (nth l 1 == 1) = false := by simp [x1]
    have x1 := Lib.hid x1
    go_enter Tryd.func50, Tryd.ntmps50
    go_wp2_with fail
    go_ret
    exact form_of (by have := hl.out; have := x1.out; simp [formedT]; omega) _
  have y1 : (nth l 1 == 1) = true := by simp [x1]
  have x1 := Lib.hid x1
  go_enter Tryd.func50, Tryd.ntmps50
  go_wp2_with fail
  go_ret
  exact form_of (by have := hl.out; simp [formedT, x1.out]; omega) _

set_option maxHeartbeats 800000 in
set_option maxRecDepth 100000 in
theorem formed_7 {B : Nat} (A : Option Addr) (n c : Nat) (l : List Int) (w : World) (hr : Rds B w .i64 A n c l) : Calls Tryd.prog 50 #[.int .i64 7, .slice A n c] w (FormPost (formedT 7 l) w) := by
  have hl := Lib.hid hr.len
  by_cases h : n = 1
  rotate_left
  · have h' : ((n : Int) == 1) = false := by simp; omega
    clear hr
    go_enter Tryd.func50, Tryd.ntmps50
    go_wp2_with fail
    go_ret
    exact form_of (by have := hl.out; simp [formedT]; omega) _
  subst h
  obtain ⟨b, o, rfl, hc⟩ := hr.cell.at_ (by have := hl.out; omega)
  have c0 := hc 0 (by have := hl.out; omega)
  clear hc hr
  simp only [Nat.add_zero] at *
  by_cases x0 : nth l 0 = 2
  rotate_left
  · have y0 : (nth l 0 == 2) = false := by simp [x0]
    have x0 := Lib.hid x0
    go_enter Tryd.func50, Tryd.ntmps50
    go_wp2_with fail
    go_ret
    exact form_of (by have := hl.out; have := x0.out; simp [formedT]; omega) _
  have y0 : (nth l 0 == 2) = true := by simp [x0]
  have x0 := Lib.hid x0
  go_enter Tryd.func50, Tryd.ntmps50
  go_wp2_with fail
  go_ret
  exact form_of (by have := hl.out; simp [formedT, x0.out]; omega) _

set_option maxHeartbeats 800000 in
set_option maxRecDepth 100000 in
theorem formed_8 {B : Nat} (A : Option Addr) (n c : Nat) (l : List Int) (w : World) (hr : Rds B w .i64 A n c l) : Calls Tryd.prog 50 #[.int .i64 8, .slice A n c] w (FormPost (formedT 8 l) w) := by
  have hl := Lib.hid hr.len
  by_cases h : n = 2
  rotate_left
  · have h' : ((n : Int) == 2) = false := by simp; omega
    clear hr
    go_enter Tryd.func50, Tryd.ntmps50
    go_wp2_with fail
    go_ret
    exact form_of (by have := hl.out; simp [formedT]; omega) _
  subst h
  obtain ⟨b, o, rfl, hc⟩ := hr.cell.at_ (by have := hl.out; omega)
  have c0 := hc 0 (by have := hl.out; omega)
  have c1 := hc 1 (by have := hl.out; omega)
  clear hc hr
  simp only [Nat.add_zero] at *
  by_cases x0 : nth l 0 = 2
  rotate_left
  · have y0 : (nth l 0 == 2) = false := by simp [x0]
    have x0 := Lib.hid x0
    go_enter Tryd.func50, Tryd.ntmps50
    go_wp2_with fail
    go_ret
    exact form_of (by have := hl.out; have := x0.out; simp [formedT]; omega) _
  have y0 : (nth l 0 == 2) = true := by simp [x0]
  have x0 := Lib.hid x0
  by_cases x1 : nth l 1 = 7
  rotate_left
  · have y1 : (nth l 1 == 7) = false := by simp [x1]
    have x1 := Lib.hid x1
    go_enter Tryd.func50, Tryd.ntmps50
    go_wp2_with fail
    go_ret
    exact form_of (by have := hl.out; have := x1.out; simp [formedT]; omega) _
  have y1 : (nth l 1 == 7) = true := by simp [x1]
  have x1 := Lib.hid x1
  go_enter Tryd.func50, Tryd.ntmps50
  go_wp2_with fail
  go_ret
  exact form_of (by have := hl.out; simp [formedT, x0.out, x1.out]; omega) _

set_option maxHeartbeats 800000 in
set_option maxRecDepth 100000 in
theorem formed_9 {B : Nat} (A : Option Addr) (n c : Nat) (l : List Int) (w : World) (hr : Rds B w .i64 A n c l) : Calls Tryd.prog 50 #[.int .i64 9, .slice A n c] w (FormPost (formedT 9 l) w) := by
  have hl := Lib.hid hr.len
  by_cases h : n = 2
  rotate_left
  · have h' : ((n : Int) == 2) = false := by simp; omega
    clear hr
    go_enter Tryd.func50, Tryd.ntmps50
    go_wp2_with fail
    go_ret
    exact form_of (by have := hl.out; simp [formedT]; omega) _
  subst h
  obtain ⟨b, o, rfl, hc⟩ := hr.cell.at_ (by have := hl.out; omega)
  have c0 := hc 0 (by have := hl.out; omega)
  clear hc hr
  simp only [Nat.add_zero] at *
  by_cases x0 : nth l 0 = 2
  rotate_left
  · have y0 : (nth l 0 == 2) = false := by simp [x0]
    have x0 := Lib.hid x0
    go_enter Tryd.func50, Tryd.ntmps50
    go_wp2_with fail
    go_ret
    exact form_of (by have := hl.out; have := x0.out; simp [formedT]; omega) _
  have y0 : (nth l 0 == 2) = true := by simp [x0]
  have x0 := Lib.hid x0
  go_enter Tryd.func50, Tryd.ntmps50
  go_wp2_with fail
  go_ret
  exact form_of (by have := hl.out; simp [formedT, x0.out]; omega) _

set_option maxHeartbeats 800000 in
set_option maxRecDepth 100000 in
theorem formed_no (k : Int) (A : Option Addr) (n c : Nat) (l : List Int) (w : World) (hk : ¬(3 ≤ k ∧ k ≤ 10)) : Calls Tryd.prog 50 #[.int .i64 k, .slice A n c] w (FormPost (formedT k l) w) := by
  have k3 : (k == 3) = false := by simp; omega
  have k4 : (k == 4) = false := by simp; omega
  have k5 : (k == 5) = false := by simp; omega
  have k6 : (k == 6) = false := by simp; omega
  have k7 : (k == 7) = false := by simp; omega
  have k8 : (k == 8) = false := by simp; omega
  have k9 : (k == 9) = false := by simp; omega
  have k10 : (k == 10) = false := by simp; omega
  have hf : Hid (formedT k l = false) := by
    show _ = _
    unfold formedT
    rw [if_neg (by omega), if_neg (by omega), if_neg (by omega), if_neg (by omega), if_neg (by omega), if_neg (by omega), if_neg (by omega)]
  clear hk
  go_enter Tryd.func50, Tryd.ntmps50
  go_wp2_with fail
  go_ret
  exact form_of hf.out.symm _

theorem formed_any {B : Nat} (k : Int) (A : Option Addr) (n c : Nat) (l : List Int) (w : World) (hr : Rds B w .i64 A n c l) : Calls Tryd.prog 50 #[.int .i64 k, .slice A n c] w (FormPost (formedT k l) w) := by
  by_cases hk : 3 ≤ k ∧ k ≤ 10
  rotate_left
  · exact formed_no k A n c l w hk
  have : k = 3 ∨ k = 4 ∨ k = 5 ∨ k = 6 ∨ k = 7 ∨ k = 8 ∨ k = 9 ∨ k = 10 := by omega
  rcases this with rfl | rfl | rfl | rfl | rfl | rfl | rfl | rfl
  · exact formed_3 A n c l w hr
  · exact formed_4 A n c l w hr
  · exact formed_5 A n c l w hr
  · exact formed_6 A n c l w hr
  · exact formed_7 A n c l w hr
  · exact formed_8 A n c l w hr
  · exact formed_9 A n c l w hr
  · exact formed_10 A n c l w hr
end Go.Proofs.YtmaedahleenlgaaDoor

/- What Sort does with two terms. No condition. -/
set_option linter.unusedVariables false
set_option linter.unusedSimpArgs false
namespace Go.Proofs.YtmaedahleenlgaaDoor
open Go Go.RowKit Go.WideMaps

set_option maxHeartbeats 400000 in
theorem nan_any (x : Int) (w : World) : Calls Tryd.prog 85 #[.int .i64 x] w fun e w' => e = .returned (.bool false) ∧ w = w' := by
  have h : (x != x) = false := by simp
  go_enter Tryd.func85, Tryd.ntmps85
  go_wp2_with fail
  go_ret
  exact ⟨rfl, rfl⟩
set_option maxHeartbeats 400000 in
theorem less_any (x y : Int) (w : World) : Calls Tryd.prog 74 #[.int .i64 x, .int .i64 y] w fun e w' => e = .returned (.bool (decide (x < y))) ∧ w' = w := by
  go_enter Tryd.func74, Tryd.ntmps74
  go_wp2_with (go_at_call 85; refine (nan_any _ _).mono ?_; rintro e w1 ⟨rfl, rfl⟩)
  all_goals (go_ret; exact ⟨rfl, rfl⟩)

def SortPost (B g cap : Nat) (a b : Int) (w : World) (e : Ending) (w' : World) : Prop := e = .returned (.tuple #[]) ∧ OwnI w' B .i64 (.slice (some ⟨g, 0, none⟩) 2 cap) (sort2 a b) ∧ Below B w w'
theorem sort_keep {B g cap : Nat} {a b : Int} {w w' : World} (h : ¬ b < a) (ho : OwnI w' B .i64 (.slice (some ⟨g, 0, none⟩) 2 cap) [a, b]) (hb : Below B w w') : SortPost B g cap a b w (.returned (.tuple #[])) w' := by
  refine ⟨rfl, ?_, hb⟩
  unfold sort2
  rw [if_neg h]
  exact ho
theorem sort_swap {B g cap : Nat} {a b : Int} {w w' : World} (h : b < a) (ho : OwnI w' B .i64 (.slice (some ⟨g, 0, none⟩) 2 cap) [b, a]) (hb : Below B w w') : SortPost B g cap a b w (.returned (.tuple #[])) w' := by
  refine ⟨rfl, ?_, hb⟩
  unfold sort2
  rw [if_pos h]
  exact ho

theorem own_swap {B g cap : Nat} {a b : Int} {w : World} (ho : OwnI w B .i64 (.slice (some ⟨g, 0, none⟩) 2 cap) [a, b]) : OwnI ((w.setCell ⟨g, 1, none⟩ (.int .i64 a)).setCell ⟨g, 0, none⟩ (.int .i64 b)) B .i64 (.slice (some ⟨g, 0, none⟩) 2 cap) [b, a] := by
  obtain ⟨g', cap', e, _, _, _, _, _, hset⟩ := ho.form (by simp)
  cases e
  have h1 := hset 1 a (by simp)
  obtain ⟨g', cap', e, _, _, _, _, _, hset⟩ := h1.form (by simp)
  cases e
  exact hset 0 b (by simp)
set_option maxHeartbeats 1600000 in
set_option maxRecDepth 100000 in
theorem insertion_two {B : Nat} (g cap : Nat) (a b : Int) (w : World) (ho : OwnI w B .i64 (.slice (some ⟨g, 0, none⟩) 2 cap) [a, b]) :
    Calls Tryd.prog 68 #[.slice (some ⟨g, 0, none⟩) 2 cap, .int .i64 0, .int .i64 2] w (SortPost B g cap a b w) := by
  obtain ⟨g', cap', e, hB, hg, hcap, hc, hf, hset⟩ := ho.form (by simp)
  cases e
  have c0 : w.cell? ⟨g, 0, none⟩ = some (.int .i64 a) := hc 0 (by simp)
  have c1 : w.cell? ⟨g, 1, none⟩ = some (.int .i64 b) := hc 1 (by simp)
  have f0 := hf 0
  have f1 := hf 1
  have HO := Lib.hid ho
  have HS := Lib.hid hset
  clear ho hc hf hset
  by_cases hlt : b < a
  · go_enter Tryd.func68, Tryd.ntmps68
    go_wp2_with fail
    refine wp_loop_rounds 2 ?_
    rw [rounds_succ]
    go_wp2_with fail
    refine wp_loop_rounds 2 ?_
    rw [rounds_succ]
    go_wp2_with fail
    go_quiet ((go_at_call 74; exact Calls.quiet_of_same (less_any _ _ _)))
    go_wp2_with fail
    go_region
    go_wp2_with fail
    rw [rounds_succ]
    go_wp2_with fail
    go_quiet (fail)
    go_wp2_with fail
    rw [rounds_succ]
    go_wp2_with fail
    go_end0
    exact sort_swap hlt ((own_swap (HO.out.below (below_drewN (Below.refl _ _) _))).below (below_drewN (Below.refl _ _) _)) (below_drewN (((below_drewN (Below.refl _ _) _).setCell hB _).setCell hB _) _)
  · go_enter Tryd.func68, Tryd.ntmps68
    go_wp2_with fail
    refine wp_loop_rounds 2 ?_
    rw [rounds_succ]
    go_wp2_with fail
    refine wp_loop_rounds 2 ?_
    rw [rounds_succ]
    go_wp2_with fail
    go_quiet ((go_at_call 74; exact Calls.quiet_of_same (less_any _ _ _)))
    go_wp2_with fail
    rw [rounds_succ]
    go_wp2_with fail
    go_end0
    exact sort_keep (by omega) (HO.out.below (below_drewN (Below.refl _ _) _)) (below_drewN (Below.refl _ _) _)

set_option maxHeartbeats 1600000 in
set_option maxRecDepth 100000 in
theorem pdq_two {B : Nat} (g cap : Nat) (a b lim : Int) (w : World) (ho : OwnI w B .i64 (.slice (some ⟨g, 0, none⟩) 2 cap) [a, b]) :
    Calls Tryd.prog 58 #[.slice (some ⟨g, 0, none⟩) 2 cap, .int .i64 0, .int .i64 2, .int .i64 lim] w (SortPost B g cap a b w) := by
  have HO := Lib.hid ho
  clear ho
  go_enter Tryd.func58, Tryd.ntmps58
  go_wp2_with fail
  refine wp_loop_rounds 1 ?_
  rw [rounds_succ]
  go_wp2_with fail
  refine (insertion_two g cap a b w HO.out).mono ?_
  rintro e w1 ⟨rfl, h1, h2⟩
  have H1 := Lib.hid h1
  have H2 := Lib.hid h2
  clear h1 h2
  go_wp2_with fail
  go_returns
  exact ⟨rfl, H1.out, H2.out⟩
set_option maxHeartbeats 1600000 in
set_option maxRecDepth 100000 in
theorem len_two (w : World) : Calls Tryd.prog 59 #[.int .u64 2] w fun e w' => (∃ r, e = .returned (.int .i64 r)) ∧ w = w' := by
  go_enter Tryd.func59, Tryd.ntmps59
  go_wp2
  go_ret
  exact ⟨⟨_, rfl⟩, rfl⟩
set_option maxHeartbeats 1600000 in
set_option maxRecDepth 100000 in
theorem sort_two {B : Nat} (g cap : Nat) (a b : Int) (w : World) (ho : OwnI w B .i64 (.slice (some ⟨g, 0, none⟩) 2 cap) [a, b]) :
    Calls Tryd.prog 51 #[.slice (some ⟨g, 0, none⟩) 2 cap] w (SortPost B g cap a b w) := by
  have HO := Lib.hid ho
  clear ho
  go_enter Tryd.func51, Tryd.ntmps51
  go_wp2_with fail
  refine (len_two w).mono ?_
  rintro e w1 ⟨⟨r, rfl⟩, rfl⟩
  go_wp2_with fail
  refine (pdq_two g cap a b _ w HO.out).mono ?_
  rintro e w1 ⟨rfl, h1, h2⟩
  have H1 := Lib.hid h1
  have H2 := Lib.hid h2
  clear h1 h2
  go_wp2_with fail
  go_end0
  exact ⟨rfl, H1.out, H2.out⟩
end Go.Proofs.YtmaedahleenlgaaDoor

/- What Make does. No condition. -/
set_option linter.unusedVariables false
set_option linter.unusedSimpArgs false
namespace Go.Proofs.YtmaedahleenlgaaDoor
open Go Go.RowKit Go.WideMaps

theorem nth_map {f : Int → Int} {xs : List Int} {j : Nat} (h : j < xs.length) : nth (xs.map f) j = f (nth xs j) := by
  have h1 := nth_lt (xs := xs.map f) (j := j) (by simpa using h)
  rw [List.getElem?_map, nth_lt h] at h1
  simpa using h1.symm
theorem make_no1 {T : List Nd} {kind : Int} {parts : List Int} (h : (0 : Int) ∈ parts.map (kindT T)) : makeT T kind parts = (T, 0) := if_pos (.inl h)
theorem make_no2 {T : List Nd} {kind : Int} {parts : List Int} (h : formedT kind (parts.map (kindT T)) = false) : makeT T kind parts = (T, 0) := if_pos (.inr h)
theorem make_yes {T : List Nd} {kind : Int} {parts : List Int} (h : (0 : Int) ∉ parts.map (kindT T)) (h' : formedT kind (parts.map (kindT T)) = true) : makeT T kind parts = addT T ⟨kind, ByteArray.empty, ownT T kind parts⟩ := if_neg (by simp [h']; simpa using h)
theorem formed_kind {k : Int} {l : List Int} (h : formedT k l = true) : 3 ≤ k ∧ k ≤ 10 := by
  refine Classical.byContradiction fun hk => ?_
  unfold formedT at h
  rw [if_neg (by omega), if_neg (by omega), if_neg (by omega), if_neg (by omega), if_neg (by omega), if_neg (by omega), if_neg (by omega)] at h
  cases h
theorem formed8_len {l : List Int} (h : formedT 8 l = true) : l.length = 2 ∧ nth l 0 = 2 ∧ nth l 1 = 7 := by
  simpa [formedT] using h
theorem parts_range {T : List Nd} {parts : List Int} (h : (0 : Int) ∉ parts.map (kindT T)) : ∀ p ∈ parts, 1 ≤ p ∧ p ≤ T.length := fun p hp =>
  kindT_range fun e => h (List.mem_map.2 ⟨p, hp, e⟩)
/-- What stands behind a public one. -/
theorem public_of {T : List Nd} (hw : WfT T) {y : Int} (h : kindT T y = 7) : ∃ p, getT T y = some p ∧ p.parts.length = 1 ∧ kindT T (nth p.parts 0) = 2 ∧ 1 ≤ nth p.parts 0 ∧ nth p.parts 0 ≤ T.length := by
  obtain ⟨h0, h1⟩ := kindT_range (T := T) (h := y) (by omega)
  obtain ⟨p, hp⟩ := getT_some h0 h1
  have hg := hw.get hp
  rw [kindT_get hp] at h
  obtain ⟨k1, k2⟩ := hg.k7 h
  have := kindT_range (T := T) (h := nth p.parts 0) (by omega)
  exact ⟨p, hp, k1, k2, this.1, this.2⟩
theorem sort2_eq (a b : Int) : sort2 a b = [a, b] ∨ sort2 a b = [b, a] := by unfold sort2; split <;> simp
theorem good_make {T : List Nd} (hw : WfT T) {kind : Int} {parts : List Int} (h : (0 : Int) ∉ parts.map (kindT T)) (h' : formedT kind (parts.map (kindT T)) = true) : GoodN T.length T ⟨kind, ByteArray.empty, ownT T kind parts⟩ := by
  have hr := parts_range h
  have hk := formed_kind h'
  by_cases h8 : kind = 8
  · subst h8
    obtain ⟨l2, n0, n1⟩ := formed8_len h'
    have l2' : parts.length = 2 := by simpa using l2
    rw [nth_map (by omega)] at n0 n1
    obtain ⟨p, hp, p1, p2, p3, p4⟩ := public_of hw n1
    have ho : ownT T 8 parts = sort2 (nth parts 0) (nth p.parts 0) := by unfold ownT; rw [if_pos rfl, hp]
    have r0 := hr (nth parts 0) (nth_mem (by omega))
    rw [ho]
    refine ⟨by simp, (by show ByteArray.empty.size ≤ 2048; decide), ?_, ?_, fun k => by simp at k, fun k => by simp at k, fun _ => rfl, fun k => by simp at k, fun k => by simp at k, fun k => by simp at k, fun k => by simp at k, fun _ => ?_, fun k => by simp at k⟩
    · rcases sort2_eq (nth parts 0) (nth p.parts 0) with e | e <;> simp [e]
    · intro q hq
      rcases sort2_eq (nth parts 0) (nth p.parts 0) with e | e <;> (simp only [e, List.mem_cons, List.not_mem_nil, or_false] at hq; rcases hq with rfl | rfl <;> omega)
    · simp only
      unfold sort2
      split
      · exact ⟨rfl, p2, n0, by simp [nth] at *; omega⟩
      · exact ⟨rfl, n0, p2, by simp [nth] at *; omega⟩
  · have ho : ownT T kind parts = parts := if_neg h8
    rw [ho]
    have l : (parts.map (kindT T)).length = parts.length := by simp
    unfold formedT at h'
    rw [l] at h'
    refine ⟨⟨by simp; omega, by simp; omega⟩, (by show ByteArray.empty.size ≤ 2048; decide), ?_, hr, fun k => by simp at k; omega, fun k => by simp at k; omega, fun _ => rfl, fun k => ?_, fun k => ?_, fun k => ?_, fun k => ?_, fun k => absurd k h8, fun k => ?_⟩
    · show parts.length ≤ 16
      split at h'
      · simpa using h'
      · split at h'
        · simp at h'; omega
        · split at h'
          · simp at h'; omega
          · split at h'
            · simp at h'; omega
            · split at h'
              · simp at h'; omega
              · split at h'
                · simp at h'; omega
                · cases h'
    · simp only at k; subst k; simpa using h'
    · simp only at k; subst k; simpa using h'
    · simp only at k
      have h'' : parts.length = 3 ∧ nth (parts.map (kindT T)) 1 = 1 := by rcases k with rfl | rfl <;> simpa using h'
      exact ⟨h''.1, (nth_map (f := kindT T) (xs := parts) (by omega)).symm.trans h''.2⟩
    · simp only at k; subst k
      have h'' : parts.length = 1 ∧ nth (parts.map (kindT T)) 0 = 2 := by simpa using h'
      exact ⟨h''.1, (nth_map (f := kindT T) (xs := parts) (by omega)).symm.trans h''.2⟩
    · simp only at k; subst k
      have h'' : parts.length = 2 ∧ nth (parts.map (kindT T)) 0 = 2 := by simpa using h'
      exact ⟨h''.1, (nth_map (f := kindT T) (xs := parts) (by omega)).symm.trans h''.2⟩

theorem make_done {B tb : Nat} {T : List Nd} {kind : Int} {parts own : List Int} {w w2 : World} {e : Ending} {w' : World} (h : (0 : Int) ∉ parts.map (kindT T)) (h' : formedT kind (parts.map (kindT T)) = true) (ho : ownT T kind parts = own) (hf : Below w.heap.size w w2) (ha : AddPost B tb T ⟨kind, ByteArray.empty, own⟩ w2 e w') : TabPost B tb w (makeT T kind parts) e w' := by
  subst ho
  unfold TabPost
  rw [make_yes h h']
  exact ⟨ha.1, ha.2.1, (Frm.of_below hf).trans ha.2.2⟩
theorem own_len {T : List Nd} {kind : Int} {parts : List Int} (h8 : kind ≠ 8) : ownT T kind parts = parts := if_neg h8

set_option maxHeartbeats 3200000 in
set_option maxRecDepth 100000 in
theorem make_any {B B' tb : Nat} {T : List Nd} (kind : Int) (A : Option Addr) (n c : Nat) (parts : List Int) (w : World) (ht : IsTab B w tb T) (hr : Rds B' w .i64 A n c parts) (hx : I64 parts) (hn : n ≤ 1000000) :
    Calls Tryd.prog 35 #[.pointer (some ⟨tb, 0, none⟩), .int .i64 kind, .slice A n c] w (TabPost B tb w (makeT T kind parts)) := by
  have HT := Lib.hid ht; clear ht
  have HR := Lib.hid hr; clear hr
  have HX := Lib.hid hx; clear hx
  have hl := Lib.hid HR.out.len
  go_enter Tryd.func35, Tryd.ntmps35
  go_wp2_with fail
  refine (kinds_any A n c parts w HT.out HR.out HX.out hn).mono ?_
  rintro e w1 ⟨v, rfl, ho1, hb1⟩
  obtain ⟨A1, c1, rfl⟩ := ho1.slice
  have HO1 := Lib.hid ho1
  have HB1 := Lib.hid hb1
  clear ho1 hb1
  have hkl : (parts.map (kindT T)).length = n := by rw [List.length_map]; exact hl.out
  rw [hkl]
  have HKL := Lib.hid hkl
  clear hkl
  have R1 : Hid (Rds w1.heap.size w1 .i64 A1 n c1 (parts.map (kindT T))) := by
    have := HO1.out.rds (B' := w1.heap.size)
    rw [HKL.out] at this
    exact this
  go_wp2_with fail
  refine (contains_zero A1 n c1 _ w1 R1.out).mono ?_
  rintro e w2 ⟨rfl, rfl⟩
  by_cases hz : (0 : Int) ∈ parts.map (kindT T)
  · rw [decide_eq_true hz]
    have HZ := Lib.hid hz
    clear hz
    go_wp2_with fail
    go_ret
    unfold TabPost
    rw [make_no1 HZ.out]
    exact ⟨rfl, HT.out.below HB1.out, .of_below HB1.out⟩
  rw [decide_eq_false hz]
  have HZ := Lib.hid hz
  clear hz
  go_wp2_with fail
  refine (formed_any kind A1 n c1 _ w1 R1.out).mono ?_
  rintro e w2 ⟨rfl, rfl⟩
  cases hq : formedT kind (parts.map (kindT T)) with
  | false =>
    have HQ := Lib.hid hq
    clear hq
    go_wp2_with fail
    go_ret
    unfold TabPost
    rw [make_no2 HQ.out]
    exact ⟨rfl, HT.out.below HB1.out, .of_below HB1.out⟩
  | true =>
    have HQ := Lib.hid hq
    clear hq
    go_wp2_with fail
    refine (clone_any A n c parts w1 (HR.out.below HB1.out) hn).mono ?_
    rintro e w2 ⟨v, rfl, ho2, hb2⟩
    obtain ⟨A2, c2, rfl⟩ := ho2.slice
    have HO2 := Lib.hid ho2
    have HB2 := Lib.hid (below_step HB1.out hb2)
    have HB2' := Lib.hid hb2
    clear ho2 hb2
    rw [hl.out]
    by_cases h8 : kind = 8
    · subst h8
      obtain ⟨l2, k0, k1⟩ := formed8_len HQ.out
      have hn2 : parts.length = 2 := by simpa using l2
      obtain rfl : n = 2 := by have := hl.out; omega
      rw [nth_map (by omega)] at k0 k1
      obtain ⟨p, hp, p1, p2, p3, p4⟩ := public_of HT.out.1 k1
      obtain ⟨i, hi⟩ : ∃ i : Nat, nth parts 1 = (i : Int) + 1 := by
        have := getT_range hp
        exact ⟨(nth parts 1 - 1).toNat, by omega⟩
      have hiT : i < T.length := by have := getT_range hp; omega
      have hpi : T[i]? = some p := by rw [hi, getT_nat] at hp; exact hp
      have hown : Hid (ownT T 8 parts = sort2 (nth parts 0) (nth p.parts 0)) := by show _ = _; unfold ownT; rw [if_pos rfl, hp]
      have hpar : parts = [nth parts 0, (i : Int) + 1] := by
        rw [← hi]
        match parts, hn2 with
        | [a, b], _ => rfl
      obtain ⟨hw, hB, v, mb, es, clock, cs, g1, hmb, g3, hm, hon, hcs, -⟩ := HT.out.below HB2.out
      obtain ⟨AT, cAT, rfl⟩ := owned_slice hon
      have c0 : w2.cell? ⟨tb, 0, none⟩ = some (.slice AT T.length cAT) := by rw [cell_of_row w2 tb 0 _ _ _ g1]; rfl
      obtain ⟨gT, capT, e1, hfrm⟩ := hon.form (by omega)
      cases e1
      obtain ⟨AP, cP, hp1, hp2⟩ := hcs.parts i p hpi
      have k2 : w2.cell? ⟨gT, i * 3 + 2, none⟩ = some (.slice AP p.parts.length cP) := by rw [hon.cellAt _ (by omega)]; exact hp1
      rw [p1] at k2
      obtain ⟨bP, oP, rfl, hcP⟩ := RdI.at_ hp2.cell (by omega)
      have k3 := hcP 0 (by omega)
      obtain ⟨bA, oA, rfl, hcA⟩ := RdI.at_ (HR.out.below HB2.out).cell (by omega)
      have k4 := hcA 1 (by omega)
      rw [hi] at k4
      obtain ⟨g, cap, e2, hgB, hgl, hcap, hgc, hgf, hgs⟩ := HO2.out.form (by omega)
      rw [hl.out] at e2
      cases e2
      have q0 := hgc 0 (by omega)
      have q1 := hgc 1 (by omega)
      have z1 := hgf 1
      have HS := Lib.hid (hgs 1 (nth p.parts 0) (by omega))
      have hl2 := Lib.hid hpar
      have hTl := hw.len
      rw [hi] at q1
      clear hw g1 g3 hm hon hcs hfrm hp1 hp2 hcP hcA hgc hgf hgs k0 k1 hp hpi hpar p1 p2 p3 p4 l2 hn2 hmb hB
      have hi0 : (0 : Int) ≤ (i : Int) := by omega
      have hiT' : (i : Int) < (T.length : Int) := by omega
      generalize nth p.parts 0 = z at *
      go_wp2_with fail
      refine wp_still_tail 15 (by kernel_rfl) (by kernel_rfl) ?_
      intro w3 hw3
      have c0' : w3.cell? ⟨tb, 0, none⟩ = some (.slice (some ⟨gT, 0, none⟩) T.length cAT) := by rw [hw3]; exact c0
      have k2' : w3.cell? ⟨gT, i * 3 + 2, none⟩ = some (.slice (some ⟨bP, oP, none⟩) 1 cP) := by rw [hw3]; exact k2
      have k3' : w3.cell? ⟨bP, oP, none⟩ = some (.int .i64 z) := by rw [hw3]; exact k3
      have k4' : w3.cell? ⟨bA, oA + 1, none⟩ = some (.int .i64 ((i : Int) + 1)) := by rw [hw3]; exact k4
      have q1' : w3.cell? ⟨g, 1, none⟩ = some (.int .i64 ((i : Int) + 1)) := by rw [hw3]; exact q1
      have z1' : w3.frozen? ⟨g, 1, none⟩ = false := by rw [hw3]; exact z1
      have HS' : Hid (OwnI (w3.setCell ⟨g, 1, none⟩ (.int .i64 z)) w1.heap.size .i64 (.slice (some ⟨g, 0, none⟩) 2 c2) [nth parts 0, z]) := by
        have := HS.out
        rw [hl.out, hl2.out] at this
        rw [hw3]
        exact this
      have HB3 : Hid (Below w.heap.size w (w3.setCell ⟨g, 1, none⟩ (.int .i64 z))) := by
        rw [hw3]
        exact HB2.out.drew.setCell (by have := HB1.out.size; simp; omega) _
      clear c0 k2 k3 k4 q1 z1 q0 HS hw3
      have hwi : IntKind.i64.wrap (i : Int) = i := IntWalk.i64_in _ (by omega)
      simp only [List.take_succ_cons, List.take_zero, List.drop_succ_cons, List.drop_zero]
      repeat still_step
      refine wpStill_nil ?_
      go_wp2_with fail
      obtain ⟨w4, hw4⟩ : ∃ w4, w4 = w3.setCell ⟨g, 1, none⟩ (.int .i64 z) := ⟨_, rfl⟩
      rw [← hw4] at HS' HB3 ⊢
      clear c0' k2' k3' k4' q1' z1' hw4
      refine (sort_two g c2 _ _ w4 HS'.out).mono ?_
      rintro e w5 ⟨rfl, ho5, hb5⟩
      have HO5 := Lib.hid ho5
      have HB5 := Lib.hid (HB3.out.trans (hb5.mono HB1.out.size))
      have hs5 : w1.heap.size ≤ w5.heap.size := by have := hb5.size; have := HO5.out.lt g rfl; omega
      clear ho5 hb5
      go_wp2_with fail
      refine (add_any 8 ByteArray.empty (some ⟨g, 0, none⟩) 2 c2 (sort2 (nth parts 0) z) w5 (HT.out.below HB5.out) (by rw [← hown.out]; exact good_make HT.out.1 HZ.out HQ.out) HO5.out.rds).mono ?_
      rintro e w6 h3
      have h3' := Lib.hid h3
      obtain ⟨rfl, -, -⟩ := h3
      go_wp2_with fail
      go_ret
      exact make_done HZ.out HQ.out hown.out HB5.out h3'.out
    · have hk8 : (kind == 8) = false := by simp [h8]
      have HE := Lib.hid (own_len (T := T) (parts := parts) h8)
      clear h8
      go_wp2_with fail
      refine (add_any kind ByteArray.empty A2 n c2 parts w2 (HT.out.below HB2.out) (by rw [← HE.out]; exact good_make HT.out.1 HZ.out HQ.out) (by rw [← hl.out]; exact HO2.out.rds)).mono ?_
      rintro e w3 h3
      have h3' := Lib.hid h3
      obtain ⟨rfl, -, -⟩ := h3
      go_wp2_with fail
      go_ret
      exact make_done HZ.out HQ.out HE.out HB2.out h3'.out
end Go.Proofs.YtmaedahleenlgaaDoor

/- What shibbolethlaw02.awake does. No condition. -/
set_option linter.unusedVariables false
set_option linter.unusedSimpArgs false
namespace Go.Proofs.YtmaedahleenlgaaDoor
open Go Go.RowKit Go.WideMaps

def nS : Nd := ⟨2, ByteArray.empty, []⟩
def nP (x : Int) : Nd := ⟨7, ByteArray.empty, [x]⟩
def nK (x y : Int) : Nd := ⟨8, ByteArray.empty, [x, y]⟩
theorem aw1 : secretT [] = ([nS], 1) := by decide
theorem aw2 : secretT [nS] = ([nS, nS], 2) := by decide
theorem aw3 : makeT [nS, nS] 7 [1] = ([nS, nS, nP 1], 3) := by decide
theorem aw4 : makeT [nS, nS, nP 1] 7 [2] = ([nS, nS, nP 1, nP 2], 4) := by decide
theorem aw5 : makeT [nS, nS, nP 1, nP 2] 8 [1, 4] = ([nS, nS, nP 1, nP 2, nK 1 2], 5) := by decide
theorem aw6 : makeT [nS, nS, nP 1, nP 2, nK 1 2] 8 [2, 3] = ([nS, nS, nP 1, nP 2, nK 1 2], 5) := by decide

/-- What is kept of a call that turns the table. -/
theorem TabPost.intro {B tb : Nat} {w w' : World} {T : List Nd} {h : Int} {r : List Nd × Int} {e : Ending} (hr : r = (T, h)) (p : TabPost B tb w r e w') : e = .returned (.int .i64 h) ∧ IsTab B w' tb T ∧ Frm tabO B w w' := by
  subst hr; exact p
theorem tabPost_after {B tb : Nat} {w w1 : World} {r : List Nd × Int} {e : Ending} {w' : World} (hb : Below w.heap.size w w1) (p : TabPost B tb w1 r e w') : TabPost B tb w r e w' := ⟨p.1, p.2.1, (Frm.of_below hb).trans p.2.2⟩
theorem make_lit {B tb g t : Nat} {T : List Nd} (kind : Int) (xs : List Int) (w : World) (ht : IsTab B w tb T) (hg : w.heap.size = g) (hx : I64 xs) (hn : xs.length ≤ 1000000) (cs : Array Value) (hc : cs = (xs.map (Value.int .i64)).toArray) (hs : spT t = false) (n : Nat) (hl : xs.length = n) :
    Calls Tryd.prog 35 #[.pointer (some ⟨tb, 0, none⟩), .int .i64 kind, .slice (some ⟨g, 0, none⟩) n n] (w.alloc (.cells cs t)) (TabPost B tb w (makeT T kind xs)) := by
  subst hg hc hl
  exact (make_any kind _ _ _ xs _ (ht.below (below_new _)) ((OwnI.fresh (B := 0) (Nat.zero_le _) hs (by omega)).rds (B' := 0)) hx hn).mono fun e w' p => tabPost_after (below_new _) p

def AwakePost (w : World) (e : Ending) (w' : World) : Prop := e = .returned (.bool true) ∧ Below w.heap.size w w'
end Go.Proofs.YtmaedahleenlgaaDoor

/- What Derive, Seal and Open do. No condition. -/
set_option linter.unusedVariables false
set_option linter.unusedSimpArgs false
namespace Go.Proofs.YtmaedahleenlgaaDoor
open Go Go.RowKit Go.WideMaps

def numsL (s : ByteArray) : List Int := s.data.toList.map fun x => (x.toNat : Int)
theorem numsL_length (s : ByteArray) : (numsL s).length = s.size := by simp [numsL]
theorem str_numsL (s : ByteArray) : strOfNums (numsL s) = s := by
  cases s with | mk d =>
  simp [strOfNums, numsL, Function.comp_def]
theorem nth_numsL (s : ByteArray) {j : Nat} (h : j < s.size) : nth (numsL s) j = ((s.data.toList.getD j 0).toNat : Int) := by
  have h1 := nth_lt (xs := numsL s) (j := j) (by rw [numsL_length]; exact h)
  have h2 : j < s.data.toList.length := by simpa using h
  unfold numsL at h1
  rw [List.getElem?_map, List.getElem?_eq_getElem h2] at h1
  simp only [Option.map_some, Option.some.injEq] at h1
  rw [show numsL s = s.data.toList.map fun x => (x.toNat : Int) from rfl, ← h1]; simp [List.getD, List.getElem?_eq_getElem h2]
theorem run_str_bytes (w : World) (s : ByteArray) (hs : s.size ≤ 1000000) : ∃ c w', (convert 9 22 (.string s)).run Tryd.prog w = .ok (.slice (some ⟨w.heap.size, 0, none⟩) s.size c) w' ∧
    (∀ B, Rds B w' .u8 (some ⟨w.heap.size, 0, none⟩) s.size c (numsL s)) ∧ Below w.heap.size w w' := by
  refine ⟨_, _, Lib.run_convert_string_bytes w 9 22 5 s Tryd.underlying9 Tryd.underlying22 Tryd.underlying5, fun B => ⟨numsL_length s, grownCap_ge _ _ _ _, ?_, fun j hj => ?_, fun _ a e => ?_⟩, ⟨rfl, rfl, rfl, ?_, fun k hk => ?_⟩⟩
  · have := grownCap_le_maxLen w s.size 0 5 (by simp only [maxLen]; omega)
    simpa only [maxLen] using this
  · rw [numsL_length] at hj
    exact ⟨_, rfl, by rw [addr_add, Nat.zero_add, nth_numsL s hj]; exact Lib.bytesWorld_cell w _ s j hj⟩
  · cases e
    exact ⟨by rw [Lib.bytesWorld_size]; simp, .inr ⟨_, _, _, Lib.bytesWorld_at_new w _ s, by decide⟩⟩
  · rw [Lib.bytesWorld_size]; omega
  · exact Lib.bytesWorld_at_old w _ s k hk
theorem wp_str_bytes {w : World} {ops : Array Oper} {rest : List Oper} {o : Oper} {a : Act} {Q : Exit → Act → World → Prop} (hgd : o.guard = none) (x : Operand) (ho : o.op = .convert 9 22 x) (s : ByteArray) (hx : a.eval x = .string s) (hs : s.size ≤ 1000000)
    (h : ∀ c w', (∀ B, Rds B w' .u8 (some ⟨w.heap.size, 0, none⟩) s.size c (numsL s)) → Below w.heap.size w w' → wpList Tryd.prog ops Q rest (a.put o.dst (.slice (some ⟨w.heap.size, 0, none⟩) s.size c)) w') : wpList Tryd.prog ops Q (o :: rest) a w := by
  obtain ⟨c, w', e, h1, h2⟩ := run_str_bytes w s hs
  refine wp_op hgd (v := .slice (some ⟨w.heap.size, 0, none⟩) s.size c) ?_ (h c w' h1 h2)
  unfold execOp
  simp only [ho, hx, Sem.run_bind, e, Result.andThen_ok, Sem.run_pure]

theorem textT_range {T : List Nd} {b : ByteArray} (h : T.length ≤ 65536) : 0 ≤ (textT T b).2 ∧ (textT T b).2 ≤ 65536 := by
  unfold textT
  split
  · unfold addT
    split
    · rename_i i hi
      simp only [show ¬((1 : Int) = 2) by decide, if_false] at hi
      have := lookT_some hi
      have := (List.getElem?_eq_some_iff.1 this).1
      simp; omega
    · split <;> simp; omega
  · simp
def ctxT (T : List Nd) (c : Int) : List Nd × Int := if c = 0 then textT T ByteArray.empty else (T, c)
def deriveT (T : List Nd) (s : Int) (l : ByteArray) (c : Int) : List Nd × Int := makeT (textT (ctxT T c).1 l).1 6 [s, (textT (ctxT T c).1 l).2, (ctxT T c).2]
def sealT (T : List Nd) (k : Int) (hd : ByteArray) (c : Int) : List Nd × Int := makeT (textT T hd).1 10 [k, (textT T hd).2, c]
def BigI (x : Int) : Prop := -9223372036854775808 ≤ x ∧ x ≤ 9223372036854775807

theorem tabPost_next {B tb : Nat} {w w1 : World} {r : List Nd × Int} {e : Ending} {w' : World} (hf : Frm tabO B w w1) (p : TabPost B tb w1 r e w') : TabPost B tb w r e w' := ⟨p.1, p.2.1, hf.trans p.2.2⟩
end Go.Proofs.YtmaedahleenlgaaDoor

/- What the functions of layer 4 without a table return: Number, Numbered, Wrap, Unwrap, and the references'. No condition. -/
set_option linter.unusedVariables false
set_option linter.unusedSimpArgs false
namespace Go.Proofs.YtmaedahleenlgaaDoor
open Go Go.RowKit







theorem size_u8 : (Tryd.prog.info? 5).map (·.size) = some 1 := by kernel_rfl
def NumdPost (xs : List Int) (w : World) (e : Ending) (w' : World) : Prop := e = .returned (.tuple #[.int .i64 (numOf xs), .bool (numOf xs != 0)]) ∧ Below w.heap.size w w'
theorem numd_of {r : Int} {xs : List Int} {b : Bool} (h : r = numOf xs) (hb : b = (r != 0)) {w w' : World} (hw : Below w.heap.size w w') : NumdPost xs w (.returned (.tuple #[.int .i64 r, .bool b])) w' := by
  subst h; subst hb; exact ⟨rfl, hw⟩
theorem numB_len (h : Int) : (numB h).length = if 1 ≤ h ∧ h ≤ 65536 then 4 else 0 := by unfold numB; split <;> rfl

theorem list_four {xs : List Int} (h : xs.length = 4) : xs = [nth xs 0, nth xs 1, nth xs 2, nth xs 3] := by
  match xs, h with
  | [a, b, c, d], _ => rfl



def IdxPost (xs : List Int) (w : World) (e : Ending) (w' : World) : Prop := ∃ r : Int, e = .returned (.int .i64 r) ∧ -1 ≤ r ∧ (r = -1 ↔ ∀ x ∈ xs, x = 0) ∧ w = w'
theorem all_zero {xs : List Int} {n : Nat} (hn : xs.length = n) (h : ∀ j, j < n → nth xs j = 0) : ∀ x ∈ xs, x = 0 := by
  intro x hx
  obtain ⟨j, hj⟩ := List.mem_iff_getElem?.1 hx
  have hl := (List.getElem?_eq_some_iff.1 hj).1
  rw [nth_lt hl] at hj
  have := h j (by omega)
  simp_all

def ContPost (xs : List Int) (w : World) (e : Ending) (w' : World) : Prop := e = .returned (.bool (decide (¬ ∀ x ∈ xs, x = 0))) ∧ w = w'
end Go.Proofs.YtmaedahleenlgaaDoor

/- What Unwrap, Wrap and the references' functions of layer 4 return. No condition. -/
set_option linter.unusedVariables false
set_option linter.unusedSimpArgs false
namespace Go.Proofs.YtmaedahleenlgaaDoor
open Go Go.RowKit

def UnwPost (xs : List Int) (w : World) (e : Ending) (w' : World) : Prop := e = .returned (.tuple #[.int .i64 (unwrap xs).1, .int .i64 (unwrap xs).2.1, .bool (unwrap xs).2.2]) ∧ Below w.heap.size w w'
theorem unw_no {xs : List Int} {w w' : World} (h : ¬(16 ≤ xs.length ∧ xs.length ≤ 1216 ∧ numOf (xs.take 4) ≠ 0 ∧ (∀ x ∈ xs.drop 4, x = 0))) (hw : Below w.heap.size w w') : UnwPost xs w (.returned (.tuple #[.int .i64 0, .int .i64 0, .bool false])) w' := by
  unfold UnwPost unwrap
  rw [if_neg h]
  exact ⟨rfl, hw⟩

def SamePost04 (xs ys : List Int) (w : World) (e : Ending) (w' : World) : Prop := e = .returned (.bool (decide (xs = ys))) ∧ Below w.heap.size w w'

end Go.Proofs.YtmaedahleenlgaaDoor

/- What the references' functions of layer 4 return, and Wrap. No condition. -/
set_option linter.unusedVariables false
set_option linter.unusedSimpArgs false
namespace Go.Proofs.YtmaedahleenlgaaDoor
open Go Go.RowKit

def RNumdPost (xs : List Int) (w : World) (e : Ending) (w' : World) : Prop := e = .returned (.int .i64 (numOf xs)) ∧ Below w.heap.size w w'
theorem rnumd_of {r : Int} {xs : List Int} (h : r = numOf xs) {w w' : World} (hw : Below w.heap.size w w') : RNumdPost xs w (.returned (.int .i64 r)) w' := by
  subst h; exact ⟨rfl, hw⟩

def RUnwPost (xs : List Int) (w : World) (e : Ending) (w' : World) : Prop := e = .returned (.tuple #[.int .i64 (unwrap xs).1, .int .i64 (unwrap xs).2.1]) ∧ Below w.heap.size w w'
theorem runw_no {xs : List Int} {w w' : World} (h : ¬(16 ≤ xs.length ∧ xs.length ≤ 1216 ∧ numOf (xs.take 4) ≠ 0 ∧ (∀ x ∈ xs.drop 4, x = 0))) (hw : Below w.heap.size w w') : RUnwPost xs w (.returned (.tuple #[.int .i64 0, .int .i64 0])) w' := by
  unfold RUnwPost unwrap
  rw [if_neg h]
  exact ⟨rfl, hw⟩

end Go.Proofs.YtmaedahleenlgaaDoor

/- What is wrapped, by both texts; the example; two statements of layer 4. No condition. -/
set_option linter.unusedVariables false
set_option linter.unusedSimpArgs false
namespace Go.Proofs.YtmaedahleenlgaaDoor
open Go Go.RowKit

theorem wrapB_no {h n : Int} (k : ¬((1 ≤ h ∧ h ≤ 65536) ∧ 0 ≤ n ∧ n ≤ 1200)) : wrapB h n = [] := if_neg k
theorem wrapB_yes {h n : Int} (k : (1 ≤ h ∧ h ≤ 65536) ∧ 0 ≤ n ∧ n ≤ 1200) : wrapB h n = numB h ++ List.replicate (n + 12).toNat 0 := if_pos k
def WrapPost (h n : Int) (w : World) (e : Ending) (w' : World) : Prop := ∃ v, e = .returned v ∧ OwnI w' w.heap.size .u8 v (wrapB h n) ∧ Below w.heap.size w w'


end Go.Proofs.YtmaedahleenlgaaDoor

/- The example of layer 4, and the walk of IdealBytes. No condition. -/
set_option linter.unusedVariables false
set_option linter.unusedSimpArgs false
namespace Go.Proofs.YtmaedahleenlgaaDoor
open Go Go.RowKit


theorem unwrap_ok (xs : List Int) : ((unwrap xs).2.2 == ((unwrap xs).1 != 0)) = true := by
  unfold unwrap
  split
  · rename_i h
    simp [h.2.2.1]
  · rfl

end Go.Proofs.YtmaedahleenlgaaDoor

/- The walk of IdealDerives. No condition. -/
set_option linter.unusedVariables false
set_option linter.unusedSimpArgs false
namespace Go.Proofs.YtmaedahleenlgaaDoor
open Go Go.RowKit Go.WideMaps

theorem getT_uniq {T : List Nd} (hw : WfT T) {h h' : Int} {n : Nd} (e : getT T h = some n) (e' : getT T h' = some n) (hk : n.kind ≠ 2) : h = h' := by
  have r := getT_range e
  have r' := getT_range e'
  obtain ⟨i, rfl⟩ : ∃ i : Nat, h = (i : Int) + 1 := ⟨(h - 1).toNat, by omega⟩
  obtain ⟨j, rfl⟩ : ∃ i : Nat, h' = (i : Int) + 1 := ⟨(h' - 1).toNat, by omega⟩
  rw [getT_nat] at e e'
  have a := lookT_of hw e hk
  have b := lookT_of hw e' hk
  rw [a] at b
  simp at b
  omega
theorem addT_spec {T : List Nd} {n : Nd} (hl : T.length < 65536) : getT (addT T n).1 (addT T n).2 = some n ∧ ∃ R, (addT T n).1 = T ++ R ∧ R.length ≤ 1 := by
  unfold addT
  split
  · rename_i i hi
    split at hi
    · cases hi
    · exact ⟨by rw [getT_nat]; exact lookT_some hi, [], by simp, by simp⟩
  · rw [if_neg (by omega)]
    exact ⟨by simp only [getT_nat]; simp, [n], rfl, by simp⟩
def nT (b : ByteArray) : Nd := ⟨1, b, []⟩
theorem textT_spec {T : List Nd} {b : ByteArray} (hb : b.size ≤ 2048) (hl : T.length < 65536) : getT (textT T b).1 (textT T b).2 = some (nT b) ∧ ∃ R, (textT T b).1 = T ++ R ∧ R.length ≤ 1 := by
  unfold textT
  rw [if_pos hb]
  exact addT_spec hl
theorem make6_spec {T : List Nd} {k s h c : Int} {ns nh nc : Nd} (hk : k = 6 ∨ k = 10) (e1 : getT T s = some ns) (e2 : getT T h = some nh) (e3 : getT T c = some nc) (k1 : ns.kind ≠ 0) (k2 : nh.kind = 1) (k3 : nc.kind ≠ 0) (hl : T.length < 65536) :
    getT (makeT T k [s, h, c]).1 (makeT T k [s, h, c]).2 = some ⟨k, ByteArray.empty, [s, h, c]⟩ ∧ ∃ R, (makeT T k [s, h, c]).1 = T ++ R ∧ R.length ≤ 1 := by
  have hm : [s, h, c].map (kindT T) = [ns.kind, 1, nc.kind] := by simp [kindT_get e1, kindT_get e2, kindT_get e3, k2]
  have hf : formedT k ([s, h, c].map (kindT T)) = true := by
    rw [hm]
    rcases hk with rfl | rfl <;> simp [formedT, nth]
  rw [make_yes (by rw [hm]; simp; omega) hf, show ownT T k [s, h, c] = [s, h, c] from if_neg (by omega)]
  exact addT_spec hl
structure DSpec (T : List Nd) (s : Int) (l : ByteArray) (c : Int) (T' : List Nd) (x : Int) (ha ec : Int) : Prop where
  node : getT T' x = some ⟨6, ByteArray.empty, [s, ha, ec]⟩
  text : getT T' ha = some (nT l)
  ctx0 : c = 0 → getT T' ec = some (nT ByteArray.empty)
  ctx1 : c ≠ 0 → ec = c
  sub : ∃ R, T' = T ++ R ∧ R.length ≤ 3
theorem deriveT_spec {T : List Nd} {s c : Int} {l : ByteArray} {ns nc : Nd} (hl : l.size ≤ 2048) (hT : T.length < 60000) (e1 : getT T s = some ns) (k1 : ns.kind ≠ 0) (e3 : c ≠ 0 → getT T c = some nc) (k3 : c ≠ 0 → nc.kind ≠ 0) : ∃ ha ec, DSpec T s l c (deriveT T s l c).1 (deriveT T s l c).2 ha ec := by
  have hctx : ∃ nc', getT (ctxT T c).1 (ctxT T c).2 = some nc' ∧ nc'.kind ≠ 0 ∧ (c = 0 → nc' = nT ByteArray.empty) ∧ (c ≠ 0 → (ctxT T c).2 = c) ∧ ∃ R, (ctxT T c).1 = T ++ R ∧ R.length ≤ 1 := by
    unfold ctxT
    by_cases hc : c = 0
    · rw [if_pos hc]
      obtain ⟨a, R, b⟩ := textT_spec (T := T) (b := ByteArray.empty) (by show ByteArray.empty.size ≤ 2048; decide) (by omega)
      exact ⟨_, a, by simp [nT], fun _ => rfl, fun h => absurd hc h, R, b⟩
    · rw [if_neg hc]
      exact ⟨nc, e3 hc, k3 hc, fun h => absurd h hc, fun _ => rfl, [], by simp, by simp⟩
  obtain ⟨nc', a1, a2, a3, a4, R1, a5, a6⟩ := hctx
  obtain ⟨b1, R2, b2, b3⟩ := textT_spec (T := (ctxT T c).1) (b := l) hl (by rw [a5]; simp; omega)
  have e1' : getT (textT (ctxT T c).1 l).1 s = some ns := by rw [b2, a5, List.append_assoc]; exact getT_mono e1
  have a1' : getT (textT (ctxT T c).1 l).1 (ctxT T c).2 = some nc' := by rw [b2]; exact getT_mono a1
  obtain ⟨c1, R3, c2, c3⟩ := make6_spec (k := 6) (.inl rfl) e1' b1 a1' k1 rfl a2 (by rw [b2, a5]; simp; omega)
  refine ⟨(textT (ctxT T c).1 l).2, (ctxT T c).2, c1, ?_, fun h => ?_, a4, R1 ++ R2 ++ R3, ?_, by simp; omega⟩
  · show getT (makeT _ 6 _).1 _ = _
    rw [c2]; exact getT_mono b1
  · show getT (makeT _ 6 _).1 _ = _
    rw [c2]; rw [← a3 h]; exact getT_mono a1'
  · show (makeT _ 6 _).1 = _
    rw [c2, b2, a5]; simp


theorem str_beq (a b : ByteArray) : (a.toList == b.toList) = decide (a = b) := by
  rw [ByteArray.toList_eq, ByteArray.toList_eq]
  by_cases h : a = b
  · subst h; simp
  · rw [decide_eq_false h]
    cases hq : (a.data.toList == b.data.toList) with
    | false => rfl
    | true =>
      exfalso; apply h
      have := eq_of_beq hq
      cases a; cases b; simp at this; simp [this]
theorem getT_ne {T : List Nd} {h h' : Int} {n n' : Nd} (e : getT T h = some n) (e' : getT T h' = some n') (hn : n ≠ n') : h ≠ h' := by
  rintro rfl
  rw [e] at e'
  exact hn (Option.some.inj e')
theorem derives_facts {T3 T4 T5 T6 T7 R5 R6 R7 : List Nd} {a b : ByteArray} {x y z v hx hy hz hv ex ey ez ev : Int} (D4 : DSpec T3 1 a 0 T4 x hx ex) (D5 : DSpec T4 1 b 0 T5 y hy ey) (D6 : DSpec T5 2 a 0 T6 z hz ez) (D7 : DSpec T6 1 a 2 T7 v hv ev)
    (r5 : T5 = T4 ++ R5) (r6 : T6 = T5 ++ R6) (r7 : T7 = T6 ++ R7) (hw : WfT T7) (s2 : getT T7 2 = some nS) :
    (x == y) = (a.toList == b.toList) ∧ ¬x = z ∧ ¬x = v ∧ ¬x = 0 ∧ getT T7 x = some ⟨6, ByteArray.empty, [1, hx, ex]⟩ ∧ getT T7 hx = some (nT a) ∧ getT T7 ex = some (nT ByteArray.empty) := by
  have up4 : ∀ {h : Int} {n : Nd}, getT T4 h = some n → getT T7 h = some n := fun e => by rw [r7, r6, r5]; exact getT_mono (getT_mono (getT_mono e))
  have up5 : ∀ {h : Int} {n : Nd}, getT T5 h = some n → getT T7 h = some n := fun e => by rw [r7, r6]; exact getT_mono (getT_mono e)
  have up6 : ∀ {h : Int} {n : Nd}, getT T6 h = some n → getT T7 h = some n := fun e => by rw [r7]; exact getT_mono e
  have x1 := up4 D4.node
  have x2 := up4 D4.text
  have x3 := up4 (D4.ctx0 rfl)
  have y1 := up5 D5.node
  have y2 := up5 D5.text
  have y3 := up5 (D5.ctx0 rfl)
  have z1 := up6 D6.node
  have v1 := D7.node
  have v3 := D7.ctx1 (by decide)
  obtain rfl : ey = ex := getT_uniq hw y3 x3 (by simp [nT])
  refine ⟨?_, ?_, ?_, ?_, x1, x2, x3⟩
  · rw [str_beq]
    by_cases h : a = b
    · subst h
      obtain rfl : hy = hx := getT_uniq hw y2 x2 (by simp [nT])
      obtain rfl : x = y := getT_uniq hw x1 y1 (by simp)
      simp
    · have : x ≠ y := getT_ne x1 y1 (by
        have := getT_ne x2 y2 (by simp [nT, h])
        simp [this])
      simp [h, this]
  · exact getT_ne x1 z1 (by simp)
  · have : ey ≠ 2 := getT_ne x3 s2 (by simp [nT, nS])
    exact getT_ne x1 v1 (by simp [v3, this])
  · have := getT_range x1
    omega

end Go.Proofs.YtmaedahleenlgaaDoor

/- Look at a term that is there. No condition. -/
set_option linter.unusedVariables false
namespace Go.Proofs.YtmaedahleenlgaaDoor
open Go Go.RowKit

theorem look_node {B tb : Nat} {T : List Nd} (h : Int) (n : Nd) (w : World) (ht : IsTab B w tb T) (e : getT T h = some n) :
    Calls Tryd.prog 16 #[.pointer (some ⟨tb, 0, none⟩), .int .i64 h] w fun e w' => ∃ A c, e = .returned (.tuple #[.agg #[.int .i64 n.kind, .string n.text, .slice A n.parts.length c], .bool true]) ∧ OwnI w' w.heap.size .i64 (.slice A n.parts.length c) n.parts ∧ Below w.heap.size w w' := by
  have hr := getT_range e
  have := ht.1.len
  refine (look_any h w ht (by omega) (by omega)).mono ?_
  rintro e' w' ⟨A, c, rfl, ho, hb⟩
  have h1 : nodeT T h = n := by unfold nodeT; rw [e]; rfl
  have h2 : (getT T h).isSome = true := by rw [e]; rfl
  rw [h1] at ho
  rw [h1, h2]
  exact ⟨A, c, rfl, ho, hb⟩
theorem strOfNums_inj {xs ys : List Int} (hx : Byt xs) (hy : Byt ys) (h : strOfNums xs = strOfNums ys) : xs = ys := by
  have h1 : (xs.map fun n => UInt8.ofNat n.toNat) = ys.map fun n => UInt8.ofNat n.toNat := by
    have := congrArg (fun b : ByteArray => b.data.toList) h
    simpa [strOfNums] using this
  have hl : xs.length = ys.length := by simpa using congrArg List.length h1
  apply List.ext_getElem hl
  intro i h2 h3
  have h4 := congrArg (fun l => l[i]?) h1
  simp only [List.getElem?_map, List.getElem?_eq_getElem h2, List.getElem?_eq_getElem h3, Option.map_some, Option.some.injEq] at h4
  have a := hx _ (List.getElem_mem h2)
  have b := hy _ (List.getElem_mem h3)
  have h5 := congrArg UInt8.toNat h4
  simp at h5
  omega

theorem two_parts {w : World} {B : Nat} {A : Option Addr} {c : Nat} {p q : Int} (h : OwnI w B .i64 (.slice A 2 c) [p, q]) : ∃ g, A = some ⟨g, 0, none⟩ ∧ g < w.heap.size ∧ w.cell? ⟨g, 0, none⟩ = some (.int .i64 p) ∧ w.cell? ⟨g, 1, none⟩ = some (.int .i64 q) := by
  obtain ⟨g, cap, q1, -, q3, -, q5, -⟩ := h.form (by simp)
  simp only [Value.slice.injEq] at q1
  obtain ⟨rfl, -, -⟩ := q1
  exact ⟨g, rfl, q3, q5 0 (by simp), q5 1 (by simp)⟩
end Go.Proofs.YtmaedahleenlgaaDoor

/- The walk of IdealOpens. No condition. -/
set_option linter.unusedVariables false
set_option linter.unusedSimpArgs false
namespace Go.Proofs.YtmaedahleenlgaaDoor
open Go Go.RowKit Go.WideMaps

set_option maxHeartbeats 800000 in
set_option maxRecDepth 100000 in
theorem seal_any {B B' tb : Nat} {T : List Nd} (k : Int) (A : Option Addr) (n c : Nat) (xs : List Int) (m : Int) (w : World) (ht : IsTab B w tb T) (hk : BigI k) (hm : BigI m) (hr : Rds B' w .u8 A n c xs) :
    Calls Tryd.prog 21 #[.pointer (some ⟨tb, 0, none⟩), .int .i64 k, .slice A n c, .int .i64 m] w (TabPost B tb w (sealT T k (strOfNums xs) m)) := by
  have HT := Lib.hid ht
  have HR := Lib.hid hr
  clear ht hr
  obtain ⟨k0, k1⟩ := hk
  obtain ⟨m0, m1⟩ := hm
  go_enter Tryd.func21, Tryd.ntmps21
  go_wp2_with fail
  refine (text_any A n c xs w HT.out HR.out).mono ?_
  rintro e w1 p1
  obtain ⟨⟨T1, h1⟩, he1⟩ : ∃ r, textT T (strOfNums xs) = r := ⟨_, rfl⟩
  obtain ⟨rfl, ht1, hf1⟩ := p1.intro he1
  have hr1 := textT_range (b := strOfNums xs) HT.out.1.len
  rw [he1] at hr1
  simp only at hr1
  have HT1 := Lib.hid ht1
  have HF1 := Lib.hid hf1
  have HE1 := Lib.hid he1
  clear p1 he1 ht1 hf1
  go_wp2_with fail
  refine (make_lit 10 [k, h1, m] w1 HT1.out rfl (by simp [I64]; omega) (by simp) _ rfl ?_ 3 rfl).mono ?_
  · decide
  rintro e w4 p4
  have P4 := Lib.hid (tabPost_next HF1.out p4)
  obtain ⟨rfl, -, -⟩ := p4
  go_wp2_with fail
  go_ret
  have := P4.out
  unfold sealT
  rw [HE1.out]
  exact this

def openT (k0 m0 key : Int) (hd s : ByteArray) : Int × Bool := if k0 = key ∧ hd = s then (m0, true) else (0, false)
def OpenPost (r : Int × Bool) (w : World) (e : Ending) (w' : World) : Prop := e = .returned (.tuple #[.int .i64 r.1, .bool r.2]) ∧ Below w.heap.size w w'

set_option maxHeartbeats 1600000 in
set_option maxRecDepth 100000 in
theorem open_any {B B' tb : Nat} {T : List Nd} (key sealed k0 h0 m0 : Int) (hd : ByteArray) (A : Option Addr) (n c : Nat) (xs : List Int) (w : World) (ht : IsTab B w tb T) (e1 : getT T sealed = some ⟨10, ByteArray.empty, [k0, h0, m0]⟩) (e2 : getT T h0 = some (nT hd)) (hr : Rds B' w .u8 A n c xs) :
    Calls Tryd.prog 15 #[.pointer (some ⟨tb, 0, none⟩), .int .i64 key, .slice A n c, .int .i64 sealed] w (OpenPost (openT k0 m0 key hd (strOfNums xs)) w) := by
  have HT := Lib.hid ht
  have HR := Lib.hid hr
  have E1 := Lib.hid e1
  have E2 := Lib.hid e2
  clear ht hr e1 e2
  go_enter Tryd.func15, Tryd.ntmps15
  go_wp2_with fail
  refine (look_node sealed _ w HT.out E1.out).mono ?_
  rintro e w1 ⟨A1, c1, rfl, ho1, hb1⟩
  obtain ⟨g, cap, q1, q2, q3, q4, q5, q6, q7⟩ := ho1.form (by simp)
  simp only [List.length_cons, List.length_nil, Value.slice.injEq] at q1 q5
  obtain ⟨rfl, -, rfl⟩ := q1
  have x0 := q5 0 (by omega)
  have x1 := q5 1 (by omega)
  have x2 := q5 2 (by omega)
  simp only [nth, List.getD_cons_zero, List.getD_cons_succ] at x0 x1 x2
  have HB1 := Lib.hid hb1
  have hs1 := hb1.size
  clear ho1 hb1 q4 q5 q6 q7
  by_cases hk : k0 = key
  · subst hk
    go_wp2_with fail
    have hb1' : Below w.heap.size w (w1.alloc (.cells #[.int .i64 10, .string ByteArray.empty, .slice (some ⟨g, 0, none⟩) 3 c1] 40)) := HB1.out.alloc hs1 _
    refine (look_node h0 _ _ (HT.out.below hb1') E2.out).mono ?_
    rintro e w2 ⟨A2, c2, rfl, ho2, hb2⟩
    have y2 := cell_later hb2 (a := ⟨w1.heap.size, 2, none⟩) (v := .slice (some ⟨g, 0, none⟩) 3 c1) (by simp [go_sem])
    have z2 := cell_later hb2 (a := ⟨g, 2, none⟩) (v := .int .i64 m0) (by rw [World.cell?_alloc_lt _ _ _ q3]; exact x2)
    have HB2 := Lib.hid (below_next hb1' (by simp; omega) hb2)
    have hs2 := HB2.out.size
    have hl2 : w1.heap.size < w2.heap.size := by have := hb2.size; simp at this; omega
    have hg2 : g < w2.heap.size := by omega
    clear ho2 hb2 hb1' x0 x1 x2 HB1 hs1
    have hconv := Lib.hid (run_bytes_string ((HR.out.below HB2.out).below (below_new (.cells #[.int .i64 1, .string hd, .slice A2 0 c2] 40))))
    have HB3 := Lib.hid (HB2.out.alloc hs2 (.cells #[.int .i64 1, .string hd, .slice A2 0 c2] 40))
    by_cases hh : hd = strOfNums xs
    · subst hh
      have hq : ((strOfNums xs).toList == (strOfNums xs).toList) = true := by simp
      have hq' : ((strOfNums xs).toList != (strOfNums xs).toList) = false := by simp
      simp only [nT]
      go_wp2_with ((with_reducible show wpList _ _ _ (Oper.mk _ (Op.convert 22 9 _) _ _ _ _ :: _) _ _); refine wp_convert rfl _ _ _ rfl rfl hconv.out ?_)
      go_returns
      exact ⟨by simp [openT], HB3.out⟩
    · have hq : (hd.toList == (strOfNums xs).toList) = false := by rw [str_beq]; simp [hh]
      have HH := Lib.hid hh
      clear hh
      simp only [nT]
      go_wp2_with ((with_reducible show wpList _ _ _ (Oper.mk _ (Op.convert 22 9 _) _ _ _ _ :: _) _ _); refine wp_convert rfl _ _ _ rfl rfl hconv.out ?_)
      go_returns
      exact ⟨by simp [openT, HH.out], HB3.out⟩
  · have hk' : ¬ k0 = key := hk
    go_wp2_with fail
    go_returns
    exact ⟨by simp [openT, hk], HB1.out.alloc hs1 _⟩

theorem sealT_spec {T : List Nd} {k m : Int} {hd : ByteArray} {ns nm : Nd} (hl : hd.size ≤ 2048) (hT : T.length < 60000) (e1 : getT T k = some ns) (k1 : ns.kind ≠ 0) (e3 : getT T m = some nm) (k3 : nm.kind ≠ 0) :
    ∃ h0, getT (sealT T k hd m).1 (sealT T k hd m).2 = some ⟨10, ByteArray.empty, [k, h0, m]⟩ ∧ getT (sealT T k hd m).1 h0 = some (nT hd) := by
  obtain ⟨b1, R2, b2, b3⟩ := textT_spec (T := T) (b := hd) hl (by omega)
  have e1' : getT (textT T hd).1 k = some ns := by rw [b2]; exact getT_mono e1
  have e3' : getT (textT T hd).1 m = some nm := by rw [b2]; exact getT_mono e3
  obtain ⟨c1, R3, c2, c3⟩ := make6_spec (k := 10) (.inr rfl) e1' b1 e3' k1 rfl k3 (by rw [b2]; simp; omega)
  refine ⟨(textT T hd).2, c1, ?_⟩
  show getT (makeT _ 10 _).1 _ = _
  rw [c2]; exact getT_mono b1
end Go.Proofs.YtmaedahleenlgaaDoor
