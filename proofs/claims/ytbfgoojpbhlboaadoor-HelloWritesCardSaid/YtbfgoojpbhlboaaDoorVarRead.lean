/- Numbers of one to eight bytes: Read, and the reference's. No condition. -/
import Derived.Test.YtbfgoojpbhlboaaDoorVarint2
set_option linter.unusedVariables false
set_option linter.unusedSimpArgs false
namespace Go.Proofs.YtbfgoojpbhlboaaDoor
open Go Go.RowKit

theorem u64_join (x y : Int) (hx₀ : 0 ≤ x) (hx₁ : x < 18446744073709551616) (hx : x % 256 = 0) (h₀ : 0 ≤ y) (h₁ : y ≤ 255) : bits .or .u64 x y = x + y :=
  bits_join .u64 64 (by decide) (fun n h0 h1 => by simp [IntKind.wrap, IntKind.bits, IntKind.signed]; omega) 8 x y hx₀ (by omega) (by omega) h₀ (by omega) (by omega)
def ReadPost (xs : List Int) (w : World) (e : Ending) (w' : World) : Prop := e = .returned (.tuple #[.int .i64 (readV xs).1, .int .i64 ((readV xs).2.1 : Nat), .int .i64 (readV xs).2.2]) ∧ w = w'
theorem readV_nil : readV [] = (0, 0, 2) := rfl
theorem readV_short {y : Int} {r : List Int} (h : (y :: r).length < sizeOfB y) : readV (y :: r) = (0, 0, 2) := by
  unfold readV
  rw [if_neg (by simp), if_pos (by simpa [nth] using h)]
theorem readV_go {y : Int} {r : List Int} {s : Nat} {v : Int} (hs : sizeOfB y = s) (hl : s ≤ (y :: r).length) (hv : beF (y % 64) (((y :: r).take s).drop 1) = v) :
    readV (y :: r) = if sizeV v = s then (v, s, 0) else (0, 0, 3) := by
  have e : nth (y :: r) 0 = y := rfl
  unfold readV
  rw [e, hs, hv, if_neg (by simp), if_neg (by omega)]
  by_cases h : sizeV v = s
  · rw [if_pos h, if_neg (by simp [h])]
  · rw [if_neg h, if_pos h]
theorem sizeOfB_one {y : Int} (h : y < 64) : sizeOfB y = 1 := if_pos h
theorem sizeOfB_two {y : Int} (h : 64 ≤ y) (h2 : y < 128) : sizeOfB y = 2 := by unfold sizeOfB; rw [if_neg (by omega), if_pos h2]
theorem sizeOfB_four {y : Int} (h : 128 ≤ y) (h2 : y < 192) : sizeOfB y = 4 := by unfold sizeOfB; rw [if_neg (by omega), if_neg (by omega), if_pos h2]
theorem sizeOfB_eight {y : Int} (h : 192 ≤ y) : sizeOfB y = 8 := by unfold sizeOfB; rw [if_neg (by omega), if_neg (by omega), if_neg (by omega)]
set_option maxHeartbeats 800000 in
theorem vread_nil (A : Option Addr) (c : Nat) (w : World) : Calls Tryd.prog 86 #[.slice A 0 c] w (ReadPost [] w) := by
  unfold ReadPost
  rw [readV_nil]
  go_enter Tryd.func86, Tryd.ntmps86
  go_wp2_with fail
  go_returns
  exact ⟨rfl, rfl⟩
set_option maxHeartbeats 800000 in
theorem rread_nil (A : Option Addr) (c : Nat) (w : World) : Calls Tryd.prog 55 #[.slice A 0 c] w (ReadPost [] w) := by
  unfold ReadPost
  rw [readV_nil]
  go_enter Tryd.func55, Tryd.ntmps55
  go_wp2_with fail
  go_returns
  exact ⟨rfl, rfl⟩
set_option maxHeartbeats 3200000 in
theorem vread_one (b o n c : Nat) (y0 : Int) (r : List Int) (w : World) (l0 : 0 ≤ y0) (u0 : y0 ≤ 255) (g0 : 0 ≤ y0) (g1 : y0 < 64) (hn : n = r.length + 1) (hc : n ≤ c) (hm : c ≤ 9223372036854775807) (x0 : w.cell? ⟨b, o, none⟩ = some (.int .u8 y0)) :
    Calls Tryd.prog 86 #[.slice (some ⟨b, o, none⟩) n c] w (ReadPost (y0 :: r) w) := by
  obtain ⟨V, hV⟩ : ∃ V, V = y0 % 64 := ⟨_, rfl⟩
  have HV := Lib.hid hV
  have HR : Hid (readV (y0 :: r) = if sizeV V = 1 then (V, 1, 0) else (0, 0, 3)) := by show _ = _; rw [hV]; exact readV_go (sizeOfB_one (by omega)) (by simp) rfl
  have v0 : 0 ≤ V := by omega
  have v1 : V ≤ 4611686018427387903 := by omega
  clear hV
  have hq : y0 / 64 = 0 := by omega
  have hm0 : bits .and .u8 y0 63 = y0 % 64 := u8_and63 _ (by omega) (by omega)
  by_cases hc1 : c = 1
  · go_enter Tryd.func86, Tryd.ntmps86
    go_wp2_with fail
    refine wp_loop_rounds 1 ?_
    rw [rounds_succ]
    go_wp2_with fail
    rw [← HV.out]
    clear  HV
    have key := vsize_any V w
    refine key.mono ?_
    clear key
    rintro e w1 ⟨rfl, rfl⟩
    by_cases hz : sizeV V = 1
    · have hzb : (((sizeV V : Nat) : Int) != 1) = false := by rw [hz]; rfl
      have HZ := Lib.hid hz
      clear hz
      go_wp2_with fail
      go_returns
      exact ⟨by rw [HR.out, if_pos HZ.out]; rfl, rfl⟩
    · have hzb : (((sizeV V : Nat) : Int) != 1) = true := by rw [bne_iff_ne]; omega
      have HZ := Lib.hid hz
      clear hz
      go_wp2_with fail
      go_returns
      exact ⟨by rw [HR.out, if_neg HZ.out]; rfl, rfl⟩
  · go_enter Tryd.func86, Tryd.ntmps86
    go_wp2_with fail
    refine wp_loop_rounds 1 ?_
    rw [rounds_succ]
    go_wp2_with fail
    rw [← HV.out]
    clear  HV
    have key := vsize_any V w
    refine key.mono ?_
    clear key
    rintro e w1 ⟨rfl, rfl⟩
    by_cases hz : sizeV V = 1
    · have hzb : (((sizeV V : Nat) : Int) != 1) = false := by rw [hz]; rfl
      have HZ := Lib.hid hz
      clear hz
      go_wp2_with fail
      go_returns
      exact ⟨by rw [HR.out, if_pos HZ.out]; rfl, rfl⟩
    · have hzb : (((sizeV V : Nat) : Int) != 1) = true := by rw [bne_iff_ne]; omega
      have HZ := Lib.hid hz
      clear hz
      go_wp2_with fail
      go_returns
      exact ⟨by rw [HR.out, if_neg HZ.out]; rfl, rfl⟩

set_option maxHeartbeats 3200000 in
theorem vread_two (b o n c : Nat) (y0 y1 : Int) (r : List Int) (w : World) (l0 : 0 ≤ y0) (u0 : y0 ≤ 255) (l1 : 0 ≤ y1) (u1 : y1 ≤ 255) (g0 : 64 ≤ y0) (g1 : y0 < 128) (hn : n = r.length + 2) (hc : n ≤ c) (hm : c ≤ 9223372036854775807) (x0 : w.cell? ⟨b, o, none⟩ = some (.int .u8 y0)) (x1 : w.cell? ⟨b, o + 1, none⟩ = some (.int .u8 y1)) :
    Calls Tryd.prog 86 #[.slice (some ⟨b, o, none⟩) n c] w (ReadPost (y0 :: y1 :: r) w) := by
  obtain ⟨V, hV⟩ : ∃ V, V = (y0 % 64) * 256 + y1 := ⟨_, rfl⟩
  have HV := Lib.hid hV
  have HR : Hid (readV (y0 :: y1 :: r) = if sizeV V = 2 then (V, 2, 0) else (0, 0, 3)) := by show _ = _; rw [hV]; exact readV_go (sizeOfB_two (by omega) (by omega)) (by simp) rfl
  have v0 : 0 ≤ V := by omega
  have v1 : V ≤ 4611686018427387903 := by omega
  clear hV
  have hq : y0 / 64 = 1 := by omega
  have hm0 : bits .and .u8 y0 63 = y0 % 64 := u8_and63 _ (by omega) (by omega)
  have j1 : bits .or .u64 ((y0 % 64) * 256) y1 = (y0 % 64) * 256 + y1 := u64_join _ _ (by omega) (by omega) (by omega) (by omega) (by omega)
  go_enter Tryd.func86, Tryd.ntmps86
  go_wp2_with fail
  refine wp_loop_rounds 2 ?_
  rw [rounds_succ]
  go_wp2_with fail
  rw [rounds_succ]
  go_wp2_with fail
  rw [← HV.out]
  clear j1 HV
  have key := vsize_any V w
  refine key.mono ?_
  clear key
  rintro e w1 ⟨rfl, rfl⟩
  by_cases hz : sizeV V = 2
  · have hzb : (((sizeV V : Nat) : Int) != 2) = false := by rw [hz]; rfl
    have HZ := Lib.hid hz
    clear hz
    go_wp2_with fail
    go_returns
    exact ⟨by rw [HR.out, if_pos HZ.out]; rfl, rfl⟩
  · have hzb : (((sizeV V : Nat) : Int) != 2) = true := by rw [bne_iff_ne]; omega
    have HZ := Lib.hid hz
    clear hz
    go_wp2_with fail
    go_returns
    exact ⟨by rw [HR.out, if_neg HZ.out]; rfl, rfl⟩

set_option maxHeartbeats 3200000 in
theorem vread_four (b o n c : Nat) (y0 y1 y2 y3 : Int) (r : List Int) (w : World) (l0 : 0 ≤ y0) (u0 : y0 ≤ 255) (l1 : 0 ≤ y1) (u1 : y1 ≤ 255) (l2 : 0 ≤ y2) (u2 : y2 ≤ 255) (l3 : 0 ≤ y3) (u3 : y3 ≤ 255) (g0 : 128 ≤ y0) (g1 : y0 < 192) (hn : n = r.length + 4) (hc : n ≤ c) (hm : c ≤ 9223372036854775807) (x0 : w.cell? ⟨b, o, none⟩ = some (.int .u8 y0)) (x1 : w.cell? ⟨b, o + 1, none⟩ = some (.int .u8 y1)) (x2 : w.cell? ⟨b, o + 2, none⟩ = some (.int .u8 y2)) (x3 : w.cell? ⟨b, o + 3, none⟩ = some (.int .u8 y3)) :
    Calls Tryd.prog 86 #[.slice (some ⟨b, o, none⟩) n c] w (ReadPost (y0 :: y1 :: y2 :: y3 :: r) w) := by
  obtain ⟨V, hV⟩ : ∃ V, V = (((y0 % 64) * 256 + y1) * 256 + y2) * 256 + y3 := ⟨_, rfl⟩
  have HV := Lib.hid hV
  have HR : Hid (readV (y0 :: y1 :: y2 :: y3 :: r) = if sizeV V = 4 then (V, 4, 0) else (0, 0, 3)) := by show _ = _; rw [hV]; exact readV_go (sizeOfB_four (by omega) (by omega)) (by simp) rfl
  have v0 : 0 ≤ V := by omega
  have v1 : V ≤ 4611686018427387903 := by omega
  clear hV
  have hq : y0 / 64 = 2 := by omega
  have hm0 : bits .and .u8 y0 63 = y0 % 64 := u8_and63 _ (by omega) (by omega)
  have j1 : bits .or .u64 ((y0 % 64) * 256) y1 = (y0 % 64) * 256 + y1 := u64_join _ _ (by omega) (by omega) (by omega) (by omega) (by omega)
  have j2 : bits .or .u64 (((y0 % 64) * 256 + y1) * 256) y2 = ((y0 % 64) * 256 + y1) * 256 + y2 := u64_join _ _ (by omega) (by omega) (by omega) (by omega) (by omega)
  have j3 : bits .or .u64 ((((y0 % 64) * 256 + y1) * 256 + y2) * 256) y3 = (((y0 % 64) * 256 + y1) * 256 + y2) * 256 + y3 := u64_join _ _ (by omega) (by omega) (by omega) (by omega) (by omega)
  go_enter Tryd.func86, Tryd.ntmps86
  go_wp2_with fail
  refine wp_loop_rounds 4 ?_
  rw [rounds_succ]
  go_wp2_with fail
  rw [rounds_succ]
  go_wp2_with fail
  rw [rounds_succ]
  go_wp2_with fail
  rw [rounds_succ]
  go_wp2_with fail
  rw [← HV.out]
  clear j1 j2 j3 HV
  have key := vsize_any V w
  refine key.mono ?_
  clear key
  rintro e w1 ⟨rfl, rfl⟩
  by_cases hz : sizeV V = 4
  · have hzb : (((sizeV V : Nat) : Int) != 4) = false := by rw [hz]; rfl
    have HZ := Lib.hid hz
    clear hz
    go_wp2_with fail
    go_returns
    exact ⟨by rw [HR.out, if_pos HZ.out]; rfl, rfl⟩
  · have hzb : (((sizeV V : Nat) : Int) != 4) = true := by rw [bne_iff_ne]; omega
    have HZ := Lib.hid hz
    clear hz
    go_wp2_with fail
    go_returns
    exact ⟨by rw [HR.out, if_neg HZ.out]; rfl, rfl⟩

set_option maxHeartbeats 3200000 in
theorem vread_eight (b o n c : Nat) (y0 y1 y2 y3 y4 y5 y6 y7 : Int) (r : List Int) (w : World) (l0 : 0 ≤ y0) (u0 : y0 ≤ 255) (l1 : 0 ≤ y1) (u1 : y1 ≤ 255) (l2 : 0 ≤ y2) (u2 : y2 ≤ 255) (l3 : 0 ≤ y3) (u3 : y3 ≤ 255) (l4 : 0 ≤ y4) (u4 : y4 ≤ 255) (l5 : 0 ≤ y5) (u5 : y5 ≤ 255) (l6 : 0 ≤ y6) (u6 : y6 ≤ 255) (l7 : 0 ≤ y7) (u7 : y7 ≤ 255) (g0 : 192 ≤ y0) (g1 : y0 < 256) (hn : n = r.length + 8) (hc : n ≤ c) (hm : c ≤ 9223372036854775807) (x0 : w.cell? ⟨b, o, none⟩ = some (.int .u8 y0)) (x1 : w.cell? ⟨b, o + 1, none⟩ = some (.int .u8 y1)) (x2 : w.cell? ⟨b, o + 2, none⟩ = some (.int .u8 y2)) (x3 : w.cell? ⟨b, o + 3, none⟩ = some (.int .u8 y3)) (x4 : w.cell? ⟨b, o + 4, none⟩ = some (.int .u8 y4)) (x5 : w.cell? ⟨b, o + 5, none⟩ = some (.int .u8 y5)) (x6 : w.cell? ⟨b, o + 6, none⟩ = some (.int .u8 y6)) (x7 : w.cell? ⟨b, o + 7, none⟩ = some (.int .u8 y7)) :
    Calls Tryd.prog 86 #[.slice (some ⟨b, o, none⟩) n c] w (ReadPost (y0 :: y1 :: y2 :: y3 :: y4 :: y5 :: y6 :: y7 :: r) w) := by
  obtain ⟨V, hV⟩ : ∃ V, V = (((((((y0 % 64) * 256 + y1) * 256 + y2) * 256 + y3) * 256 + y4) * 256 + y5) * 256 + y6) * 256 + y7 := ⟨_, rfl⟩
  have HV := Lib.hid hV
  have HR : Hid (readV (y0 :: y1 :: y2 :: y3 :: y4 :: y5 :: y6 :: y7 :: r) = if sizeV V = 8 then (V, 8, 0) else (0, 0, 3)) := by show _ = _; rw [hV]; exact readV_go (sizeOfB_eight (by omega)) (by simp) rfl
  have v0 : 0 ≤ V := by omega
  have v1 : V ≤ 4611686018427387903 := by omega
  clear hV
  have hq : y0 / 64 = 3 := by omega
  have hm0 : bits .and .u8 y0 63 = y0 % 64 := u8_and63 _ (by omega) (by omega)
  have j1 : bits .or .u64 ((y0 % 64) * 256) y1 = (y0 % 64) * 256 + y1 := u64_join _ _ (by omega) (by omega) (by omega) (by omega) (by omega)
  have j2 : bits .or .u64 (((y0 % 64) * 256 + y1) * 256) y2 = ((y0 % 64) * 256 + y1) * 256 + y2 := u64_join _ _ (by omega) (by omega) (by omega) (by omega) (by omega)
  have j3 : bits .or .u64 ((((y0 % 64) * 256 + y1) * 256 + y2) * 256) y3 = (((y0 % 64) * 256 + y1) * 256 + y2) * 256 + y3 := u64_join _ _ (by omega) (by omega) (by omega) (by omega) (by omega)
  have j4 : bits .or .u64 (((((y0 % 64) * 256 + y1) * 256 + y2) * 256 + y3) * 256) y4 = ((((y0 % 64) * 256 + y1) * 256 + y2) * 256 + y3) * 256 + y4 := u64_join _ _ (by omega) (by omega) (by omega) (by omega) (by omega)
  have j5 : bits .or .u64 ((((((y0 % 64) * 256 + y1) * 256 + y2) * 256 + y3) * 256 + y4) * 256) y5 = (((((y0 % 64) * 256 + y1) * 256 + y2) * 256 + y3) * 256 + y4) * 256 + y5 := u64_join _ _ (by omega) (by omega) (by omega) (by omega) (by omega)
  have j6 : bits .or .u64 (((((((y0 % 64) * 256 + y1) * 256 + y2) * 256 + y3) * 256 + y4) * 256 + y5) * 256) y6 = ((((((y0 % 64) * 256 + y1) * 256 + y2) * 256 + y3) * 256 + y4) * 256 + y5) * 256 + y6 := u64_join _ _ (by omega) (by omega) (by omega) (by omega) (by omega)
  have j7 : bits .or .u64 ((((((((y0 % 64) * 256 + y1) * 256 + y2) * 256 + y3) * 256 + y4) * 256 + y5) * 256 + y6) * 256) y7 = (((((((y0 % 64) * 256 + y1) * 256 + y2) * 256 + y3) * 256 + y4) * 256 + y5) * 256 + y6) * 256 + y7 := u64_join _ _ (by omega) (by omega) (by omega) (by omega) (by omega)
  go_enter Tryd.func86, Tryd.ntmps86
  go_wp2_with fail
  refine wp_loop_rounds 8 ?_
  rw [rounds_succ]
  go_wp2_with fail
  rw [rounds_succ]
  go_wp2_with fail
  rw [rounds_succ]
  go_wp2_with fail
  rw [rounds_succ]
  go_wp2_with fail
  rw [rounds_succ]
  go_wp2_with fail
  rw [rounds_succ]
  go_wp2_with fail
  rw [rounds_succ]
  go_wp2_with fail
  rw [rounds_succ]
  go_wp2_with fail
  rw [← HV.out]
  clear j1 j2 j3 j4 j5 j6 j7 HV
  have key := vsize_any V w
  refine key.mono ?_
  clear key
  rintro e w1 ⟨rfl, rfl⟩
  by_cases hz : sizeV V = 8
  · have hzb : (((sizeV V : Nat) : Int) != 8) = false := by rw [hz]; rfl
    have HZ := Lib.hid hz
    clear hz
    go_wp2_with fail
    go_returns
    exact ⟨by rw [HR.out, if_pos HZ.out]; rfl, rfl⟩
  · have hzb : (((sizeV V : Nat) : Int) != 8) = true := by rw [bne_iff_ne]; omega
    have HZ := Lib.hid hz
    clear hz
    go_wp2_with fail
    go_returns
    exact ⟨by rw [HR.out, if_neg HZ.out]; rfl, rfl⟩
set_option maxHeartbeats 3200000 in
theorem rread_one (b o n c : Nat) (y0 : Int) (r : List Int) (w : World) (l0 : 0 ≤ y0) (u0 : y0 ≤ 255) (g0 : 0 ≤ y0) (g1 : y0 < 64) (hn : n = r.length + 1) (hc : n ≤ c) (hm : c ≤ 9223372036854775807) (x0 : w.cell? ⟨b, o, none⟩ = some (.int .u8 y0)) :
    Calls Tryd.prog 55 #[.slice (some ⟨b, o, none⟩) n c] w (ReadPost (y0 :: r) w) := by
  obtain ⟨V, hV⟩ : ∃ V, V = y0 % 64 := ⟨_, rfl⟩
  have HV := Lib.hid hV
  have HR : Hid (readV (y0 :: r) = if sizeV V = 1 then (V, 1, 0) else (0, 0, 3)) := by show _ = _; rw [hV]; exact readV_go (sizeOfB_one (by omega)) (by simp) (by simp only [beF, List.take_succ_cons, List.take_zero, List.drop_succ_cons, List.drop_zero, List.foldl_cons, List.foldl_nil])
  have v0 : 0 ≤ V := by omega
  have v1 : V ≤ 4611686018427387903 := by omega
  clear hV
  have hq : Int.tdiv y0 64 = 0 := by rw [Int.tdiv_eq_ediv_of_nonneg l0]; omega
  have hm0 : Int.tmod y0 64 = y0 % 64 := Int.tmod_eq_emod_of_nonneg l0
  have hq' : y0 / 64 = 0 := by omega
  go_enter Tryd.func55, Tryd.ntmps55
  go_wp2_with fail
  refine wp_loop_rounds 1 ?_
  rw [rounds_succ]
  go_wp2_with fail
  refine wp_loop_rounds 1 ?_
  rw [rounds_succ]
  go_wp2_with fail
  rw [← HV.out]
  clear HV
  have key := rsize_any V w
  refine key.mono ?_
  clear key
  rintro e w1 ⟨rfl, rfl⟩
  by_cases hz : sizeV V = 1
  · have hzb : (((sizeV V : Nat) : Int) != 1) = false := by rw [hz]; rfl
    have HZ := Lib.hid hz
    clear hz
    go_wp2_with fail
    go_returns
    exact ⟨by rw [HR.out, if_pos HZ.out]; rfl, rfl⟩
  · have hzb : (((sizeV V : Nat) : Int) != 1) = true := by rw [bne_iff_ne]; omega
    have HZ := Lib.hid hz
    clear hz
    go_wp2_with fail
    go_returns
    exact ⟨by rw [HR.out, if_neg HZ.out]; rfl, rfl⟩
set_option maxHeartbeats 3200000 in
theorem rread_two (b o n c : Nat) (y0 y1 : Int) (r : List Int) (w : World) (l0 : 0 ≤ y0) (u0 : y0 ≤ 255) (l1 : 0 ≤ y1) (u1 : y1 ≤ 255) (g0 : 64 ≤ y0) (g1 : y0 < 128) (hn : n = r.length + 2) (hc : n ≤ c) (hm : c ≤ 9223372036854775807) (x0 : w.cell? ⟨b, o, none⟩ = some (.int .u8 y0)) (x1 : w.cell? ⟨b, o + 1, none⟩ = some (.int .u8 y1)) :
    Calls Tryd.prog 55 #[.slice (some ⟨b, o, none⟩) n c] w (ReadPost (y0 :: y1 :: r) w) := by
  obtain ⟨V, hV⟩ : ∃ V, V = 256 * (y0 % 64) + y1 := ⟨_, rfl⟩
  have HV := Lib.hid hV
  have HR : Hid (readV (y0 :: y1 :: r) = if sizeV V = 2 then (V, 2, 0) else (0, 0, 3)) := by show _ = _; rw [hV]; exact readV_go (sizeOfB_two (by omega) (by omega)) (by simp) (by simp only [beF, List.take_succ_cons, List.take_zero, List.drop_succ_cons, List.drop_zero, List.foldl_cons, List.foldl_nil]; omega)
  have v0 : 0 ≤ V := by omega
  have v1 : V ≤ 4611686018427387903 := by omega
  clear hV
  have hq : Int.tdiv y0 64 = 1 := by rw [Int.tdiv_eq_ediv_of_nonneg l0]; omega
  have hm0 : Int.tmod y0 64 = y0 % 64 := Int.tmod_eq_emod_of_nonneg l0
  have hq' : y0 / 64 = 1 := by omega
  go_enter Tryd.func55, Tryd.ntmps55
  go_wp2_with fail
  refine wp_loop_rounds 2 ?_
  rw [rounds_succ]
  go_wp2_with fail
  rw [rounds_succ]
  go_wp2_with fail
  refine wp_loop_rounds 2 ?_
  rw [rounds_succ]
  go_wp2_with fail
  rw [rounds_succ]
  go_wp2_with fail
  rw [← HV.out]
  clear HV
  have key := rsize_any V w
  refine key.mono ?_
  clear key
  rintro e w1 ⟨rfl, rfl⟩
  by_cases hz : sizeV V = 2
  · have hzb : (((sizeV V : Nat) : Int) != 2) = false := by rw [hz]; rfl
    have HZ := Lib.hid hz
    clear hz
    go_wp2_with fail
    go_returns
    exact ⟨by rw [HR.out, if_pos HZ.out]; rfl, rfl⟩
  · have hzb : (((sizeV V : Nat) : Int) != 2) = true := by rw [bne_iff_ne]; omega
    have HZ := Lib.hid hz
    clear hz
    go_wp2_with fail
    go_returns
    exact ⟨by rw [HR.out, if_neg HZ.out]; rfl, rfl⟩
set_option maxHeartbeats 3200000 in
theorem rread_four (b o n c : Nat) (y0 y1 y2 y3 : Int) (r : List Int) (w : World) (l0 : 0 ≤ y0) (u0 : y0 ≤ 255) (l1 : 0 ≤ y1) (u1 : y1 ≤ 255) (l2 : 0 ≤ y2) (u2 : y2 ≤ 255) (l3 : 0 ≤ y3) (u3 : y3 ≤ 255) (g0 : 128 ≤ y0) (g1 : y0 < 192) (hn : n = r.length + 4) (hc : n ≤ c) (hm : c ≤ 9223372036854775807) (x0 : w.cell? ⟨b, o, none⟩ = some (.int .u8 y0)) (x1 : w.cell? ⟨b, o + 1, none⟩ = some (.int .u8 y1)) (x2 : w.cell? ⟨b, o + 2, none⟩ = some (.int .u8 y2)) (x3 : w.cell? ⟨b, o + 3, none⟩ = some (.int .u8 y3)) :
    Calls Tryd.prog 55 #[.slice (some ⟨b, o, none⟩) n c] w (ReadPost (y0 :: y1 :: y2 :: y3 :: r) w) := by
  obtain ⟨V, hV⟩ : ∃ V, V = 256 * (256 * (256 * (y0 % 64) + y1) + y2) + y3 := ⟨_, rfl⟩
  have HV := Lib.hid hV
  have HR : Hid (readV (y0 :: y1 :: y2 :: y3 :: r) = if sizeV V = 4 then (V, 4, 0) else (0, 0, 3)) := by show _ = _; rw [hV]; exact readV_go (sizeOfB_four (by omega) (by omega)) (by simp) (by simp only [beF, List.take_succ_cons, List.take_zero, List.drop_succ_cons, List.drop_zero, List.foldl_cons, List.foldl_nil]; omega)
  have v0 : 0 ≤ V := by omega
  have v1 : V ≤ 4611686018427387903 := by omega
  clear hV
  have hq : Int.tdiv y0 64 = 2 := by rw [Int.tdiv_eq_ediv_of_nonneg l0]; omega
  have hm0 : Int.tmod y0 64 = y0 % 64 := Int.tmod_eq_emod_of_nonneg l0
  have hq' : y0 / 64 = 2 := by omega
  go_enter Tryd.func55, Tryd.ntmps55
  go_wp2_with fail
  refine wp_loop_rounds 3 ?_
  rw [rounds_succ]
  go_wp2_with fail
  rw [rounds_succ]
  go_wp2_with fail
  rw [rounds_succ]
  go_wp2_with fail
  refine wp_loop_rounds 4 ?_
  rw [rounds_succ]
  go_wp2_with fail
  rw [rounds_succ]
  go_wp2_with fail
  rw [rounds_succ]
  go_wp2_with fail
  rw [rounds_succ]
  go_wp2_with fail
  rw [← HV.out]
  clear HV
  have key := rsize_any V w
  refine key.mono ?_
  clear key
  rintro e w1 ⟨rfl, rfl⟩
  by_cases hz : sizeV V = 4
  · have hzb : (((sizeV V : Nat) : Int) != 4) = false := by rw [hz]; rfl
    have HZ := Lib.hid hz
    clear hz
    go_wp2_with fail
    go_returns
    exact ⟨by rw [HR.out, if_pos HZ.out]; rfl, rfl⟩
  · have hzb : (((sizeV V : Nat) : Int) != 4) = true := by rw [bne_iff_ne]; omega
    have HZ := Lib.hid hz
    clear hz
    go_wp2_with fail
    go_returns
    exact ⟨by rw [HR.out, if_neg HZ.out]; rfl, rfl⟩
set_option maxHeartbeats 3200000 in
theorem rread_eight (b o n c : Nat) (y0 y1 y2 y3 y4 y5 y6 y7 : Int) (r : List Int) (w : World) (l0 : 0 ≤ y0) (u0 : y0 ≤ 255) (l1 : 0 ≤ y1) (u1 : y1 ≤ 255) (l2 : 0 ≤ y2) (u2 : y2 ≤ 255) (l3 : 0 ≤ y3) (u3 : y3 ≤ 255) (l4 : 0 ≤ y4) (u4 : y4 ≤ 255) (l5 : 0 ≤ y5) (u5 : y5 ≤ 255) (l6 : 0 ≤ y6) (u6 : y6 ≤ 255) (l7 : 0 ≤ y7) (u7 : y7 ≤ 255) (g0 : 192 ≤ y0) (g1 : y0 < 256) (hn : n = r.length + 8) (hc : n ≤ c) (hm : c ≤ 9223372036854775807) (x0 : w.cell? ⟨b, o, none⟩ = some (.int .u8 y0)) (x1 : w.cell? ⟨b, o + 1, none⟩ = some (.int .u8 y1)) (x2 : w.cell? ⟨b, o + 2, none⟩ = some (.int .u8 y2)) (x3 : w.cell? ⟨b, o + 3, none⟩ = some (.int .u8 y3)) (x4 : w.cell? ⟨b, o + 4, none⟩ = some (.int .u8 y4)) (x5 : w.cell? ⟨b, o + 5, none⟩ = some (.int .u8 y5)) (x6 : w.cell? ⟨b, o + 6, none⟩ = some (.int .u8 y6)) (x7 : w.cell? ⟨b, o + 7, none⟩ = some (.int .u8 y7)) :
    Calls Tryd.prog 55 #[.slice (some ⟨b, o, none⟩) n c] w (ReadPost (y0 :: y1 :: y2 :: y3 :: y4 :: y5 :: y6 :: y7 :: r) w) := by
  obtain ⟨V, hV⟩ : ∃ V, V = 256 * (256 * (256 * (256 * (256 * (256 * (256 * (y0 % 64) + y1) + y2) + y3) + y4) + y5) + y6) + y7 := ⟨_, rfl⟩
  have HV := Lib.hid hV
  have HR : Hid (readV (y0 :: y1 :: y2 :: y3 :: y4 :: y5 :: y6 :: y7 :: r) = if sizeV V = 8 then (V, 8, 0) else (0, 0, 3)) := by show _ = _; rw [hV]; exact readV_go (sizeOfB_eight (by omega)) (by simp) (by simp only [beF, List.take_succ_cons, List.take_zero, List.drop_succ_cons, List.drop_zero, List.foldl_cons, List.foldl_nil]; omega)
  have v0 : 0 ≤ V := by omega
  have v1 : V ≤ 4611686018427387903 := by omega
  clear hV
  have hq : Int.tdiv y0 64 = 3 := by rw [Int.tdiv_eq_ediv_of_nonneg l0]; omega
  have hm0 : Int.tmod y0 64 = y0 % 64 := Int.tmod_eq_emod_of_nonneg l0
  have hq' : y0 / 64 = 3 := by omega
  go_enter Tryd.func55, Tryd.ntmps55
  go_wp2_with fail
  refine wp_loop_rounds 4 ?_
  rw [rounds_succ]
  go_wp2_with fail
  rw [rounds_succ]
  go_wp2_with fail
  rw [rounds_succ]
  go_wp2_with fail
  rw [rounds_succ]
  go_wp2_with fail
  refine wp_loop_rounds 8 ?_
  rw [rounds_succ]
  go_wp2_with fail
  rw [rounds_succ]
  go_wp2_with fail
  rw [rounds_succ]
  go_wp2_with fail
  rw [rounds_succ]
  go_wp2_with fail
  rw [rounds_succ]
  go_wp2_with fail
  rw [rounds_succ]
  go_wp2_with fail
  rw [rounds_succ]
  go_wp2_with fail
  rw [rounds_succ]
  go_wp2_with fail
  rw [← HV.out]
  clear HV
  have key := rsize_any V w
  refine key.mono ?_
  clear key
  rintro e w1 ⟨rfl, rfl⟩
  by_cases hz : sizeV V = 8
  · have hzb : (((sizeV V : Nat) : Int) != 8) = false := by rw [hz]; rfl
    have HZ := Lib.hid hz
    clear hz
    go_wp2_with fail
    go_returns
    exact ⟨by rw [HR.out, if_pos HZ.out]; rfl, rfl⟩
  · have hzb : (((sizeV V : Nat) : Int) != 8) = true := by rw [bne_iff_ne]; omega
    have HZ := Lib.hid hz
    clear hz
    go_wp2_with fail
    go_returns
    exact ⟨by rw [HR.out, if_neg HZ.out]; rfl, rfl⟩
set_option maxHeartbeats 1600000 in
theorem vread_short_two (b o n c : Nat) (y0 : Int) (r : List Int) (w : World) (l0 : 0 ≤ y0) (u0 : y0 ≤ 255) (g0 : 64 ≤ y0) (g1 : y0 < 128) (hn : n = r.length + 1) (hs : n < 2) (hc : n ≤ c) (hm : c ≤ 9223372036854775807) (x0 : w.cell? ⟨b, o, none⟩ = some (.int .u8 y0)) :
    Calls Tryd.prog 86 #[.slice (some ⟨b, o, none⟩) n c] w (ReadPost (y0 :: r) w) := by
  have HR : Hid (readV (y0 :: r) = (0, 0, 2)) := readV_short (by rw [sizeOfB_two (by omega) (by omega)]; simp; omega)
  have hq : y0 / 64 = 1 := by omega
  go_enter Tryd.func86, Tryd.ntmps86
  go_wp2_with fail
  go_returns
  exact ⟨by rw [HR.out]; rfl, rfl⟩
set_option maxHeartbeats 1600000 in
theorem rread_short_two (b o n c : Nat) (y0 : Int) (r : List Int) (w : World) (l0 : 0 ≤ y0) (u0 : y0 ≤ 255) (g0 : 64 ≤ y0) (g1 : y0 < 128) (hn : n = r.length + 1) (hs : n < 2) (hc : n ≤ c) (hm : c ≤ 9223372036854775807) (x0 : w.cell? ⟨b, o, none⟩ = some (.int .u8 y0)) :
    Calls Tryd.prog 55 #[.slice (some ⟨b, o, none⟩) n c] w (ReadPost (y0 :: r) w) := by
  have HR : Hid (readV (y0 :: r) = (0, 0, 2)) := readV_short (by rw [sizeOfB_two (by omega) (by omega)]; simp; omega)
  have hq : Int.tdiv y0 64 = 1 := by rw [Int.tdiv_eq_ediv_of_nonneg l0]; omega
  have hq' : y0 / 64 = 1 := by omega
  go_enter Tryd.func55, Tryd.ntmps55
  go_wp2_with fail
  refine wp_loop_rounds 2 ?_
  rw [rounds_succ]
  go_wp2_with fail
  rw [rounds_succ]
  go_wp2_with fail
  go_returns
  exact ⟨by rw [HR.out]; rfl, rfl⟩
set_option maxHeartbeats 1600000 in
theorem vread_short_four (b o n c : Nat) (y0 : Int) (r : List Int) (w : World) (l0 : 0 ≤ y0) (u0 : y0 ≤ 255) (g0 : 128 ≤ y0) (g1 : y0 < 192) (hn : n = r.length + 1) (hs : n < 4) (hc : n ≤ c) (hm : c ≤ 9223372036854775807) (x0 : w.cell? ⟨b, o, none⟩ = some (.int .u8 y0)) :
    Calls Tryd.prog 86 #[.slice (some ⟨b, o, none⟩) n c] w (ReadPost (y0 :: r) w) := by
  have HR : Hid (readV (y0 :: r) = (0, 0, 2)) := readV_short (by rw [sizeOfB_four (by omega) (by omega)]; simp; omega)
  have hq : y0 / 64 = 2 := by omega
  go_enter Tryd.func86, Tryd.ntmps86
  go_wp2_with fail
  go_returns
  exact ⟨by rw [HR.out]; rfl, rfl⟩
set_option maxHeartbeats 1600000 in
theorem rread_short_four (b o n c : Nat) (y0 : Int) (r : List Int) (w : World) (l0 : 0 ≤ y0) (u0 : y0 ≤ 255) (g0 : 128 ≤ y0) (g1 : y0 < 192) (hn : n = r.length + 1) (hs : n < 4) (hc : n ≤ c) (hm : c ≤ 9223372036854775807) (x0 : w.cell? ⟨b, o, none⟩ = some (.int .u8 y0)) :
    Calls Tryd.prog 55 #[.slice (some ⟨b, o, none⟩) n c] w (ReadPost (y0 :: r) w) := by
  have HR : Hid (readV (y0 :: r) = (0, 0, 2)) := readV_short (by rw [sizeOfB_four (by omega) (by omega)]; simp; omega)
  have hq : Int.tdiv y0 64 = 2 := by rw [Int.tdiv_eq_ediv_of_nonneg l0]; omega
  have hq' : y0 / 64 = 2 := by omega
  go_enter Tryd.func55, Tryd.ntmps55
  go_wp2_with fail
  refine wp_loop_rounds 3 ?_
  rw [rounds_succ]
  go_wp2_with fail
  rw [rounds_succ]
  go_wp2_with fail
  rw [rounds_succ]
  go_wp2_with fail
  go_returns
  exact ⟨by rw [HR.out]; rfl, rfl⟩
set_option maxHeartbeats 1600000 in
theorem vread_short_eight (b o n c : Nat) (y0 : Int) (r : List Int) (w : World) (l0 : 0 ≤ y0) (u0 : y0 ≤ 255) (g0 : 192 ≤ y0) (g1 : y0 < 256) (hn : n = r.length + 1) (hs : n < 8) (hc : n ≤ c) (hm : c ≤ 9223372036854775807) (x0 : w.cell? ⟨b, o, none⟩ = some (.int .u8 y0)) :
    Calls Tryd.prog 86 #[.slice (some ⟨b, o, none⟩) n c] w (ReadPost (y0 :: r) w) := by
  have HR : Hid (readV (y0 :: r) = (0, 0, 2)) := readV_short (by rw [sizeOfB_eight (by omega)]; simp; omega)
  have hq : y0 / 64 = 3 := by omega
  go_enter Tryd.func86, Tryd.ntmps86
  go_wp2_with fail
  go_returns
  exact ⟨by rw [HR.out]; rfl, rfl⟩
set_option maxHeartbeats 1600000 in
theorem rread_short_eight (b o n c : Nat) (y0 : Int) (r : List Int) (w : World) (l0 : 0 ≤ y0) (u0 : y0 ≤ 255) (g0 : 192 ≤ y0) (g1 : y0 < 256) (hn : n = r.length + 1) (hs : n < 8) (hc : n ≤ c) (hm : c ≤ 9223372036854775807) (x0 : w.cell? ⟨b, o, none⟩ = some (.int .u8 y0)) :
    Calls Tryd.prog 55 #[.slice (some ⟨b, o, none⟩) n c] w (ReadPost (y0 :: r) w) := by
  have HR : Hid (readV (y0 :: r) = (0, 0, 2)) := readV_short (by rw [sizeOfB_eight (by omega)]; simp; omega)
  have hq : Int.tdiv y0 64 = 3 := by rw [Int.tdiv_eq_ediv_of_nonneg l0]; omega
  have hq' : y0 / 64 = 3 := by omega
  go_enter Tryd.func55, Tryd.ntmps55
  go_wp2_with fail
  refine wp_loop_rounds 4 ?_
  rw [rounds_succ]
  go_wp2_with fail
  rw [rounds_succ]
  go_wp2_with fail
  rw [rounds_succ]
  go_wp2_with fail
  rw [rounds_succ]
  go_wp2_with fail
  go_returns
  exact ⟨by rw [HR.out]; rfl, rfl⟩
theorem vread_any {B : Nat} (A : Option Addr) (n c : Nat) (xs : List Int) (w : World) (h : Rds B w .u8 A n c xs) (hb : Byt xs) : Calls Tryd.prog 86 #[.slice A n c] w (ReadPost xs w) := by
  obtain ⟨hl, hc, hm, hcell, -⟩ := h
  match xs, hl with
  | [], hl =>
    obtain rfl : n = 0 := by simpa using hl.symm
    exact vread_nil A c w
  | y0 :: r, hl =>
    obtain ⟨b, o, rfl, hx⟩ := hcell.at_ (by simp)
    have l0 := (hb y0 (by simp)).1
    have u0 := (hb y0 (by simp)).2
    have x0 := hx 0 (by simp)
    have hn : n = r.length + 1 := by simpa using hl.symm
    by_cases g1 : y0 < 64
    · exact vread_one b o n c y0 r w l0 u0 (by omega) g1 hn hc hm x0
    by_cases g2 : y0 < 128
    · by_cases hs : n < 2
      · exact vread_short_two b o n c y0 r w l0 u0 (by omega) g2 hn hs hc hm x0
      match r, hn with
      | y1 :: r, hn =>
        have b1 := hb y1 (by simp)
        have x1 := hx 1 (by simp)
        exact vread_two b o n c y0 y1 r w l0 u0 b1.1 b1.2 (by omega) g2 (by simp at hn; omega) hc hm x0 x1
      | [], hn => exact absurd hn (by simp; omega)
    by_cases g4 : y0 < 192
    · by_cases hs : n < 4
      · exact vread_short_four b o n c y0 r w l0 u0 (by omega) g4 hn hs hc hm x0
      match r, hn with
      | y1 :: y2 :: y3 :: r, hn =>
        have b1 := hb y1 (by simp)
        have x1 := hx 1 (by simp)
        have b2 := hb y2 (by simp)
        have x2 := hx 2 (by simp)
        have b3 := hb y3 (by simp)
        have x3 := hx 3 (by simp)
        exact vread_four b o n c y0 y1 y2 y3 r w l0 u0 b1.1 b1.2 b2.1 b2.2 b3.1 b3.2 (by omega) g4 (by simp at hn; omega) hc hm x0 x1 x2 x3
      | [], hn => exact absurd hn (by simp; omega)
      | [y1], hn => exact absurd hn (by simp; omega)
      | [y1, y2], hn => exact absurd hn (by simp; omega)
    by_cases hs : n < 8
    · exact vread_short_eight b o n c y0 r w l0 u0 (by omega) (by omega) hn hs hc hm x0
    match r, hn with
    | y1 :: y2 :: y3 :: y4 :: y5 :: y6 :: y7 :: r, hn =>
      have b1 := hb y1 (by simp)
      have x1 := hx 1 (by simp)
      have b2 := hb y2 (by simp)
      have x2 := hx 2 (by simp)
      have b3 := hb y3 (by simp)
      have x3 := hx 3 (by simp)
      have b4 := hb y4 (by simp)
      have x4 := hx 4 (by simp)
      have b5 := hb y5 (by simp)
      have x5 := hx 5 (by simp)
      have b6 := hb y6 (by simp)
      have x6 := hx 6 (by simp)
      have b7 := hb y7 (by simp)
      have x7 := hx 7 (by simp)
      exact vread_eight b o n c y0 y1 y2 y3 y4 y5 y6 y7 r w l0 u0 b1.1 b1.2 b2.1 b2.2 b3.1 b3.2 b4.1 b4.2 b5.1 b5.2 b6.1 b6.2 b7.1 b7.2 (by omega) (by omega) (by simp at hn; omega) hc hm x0 x1 x2 x3 x4 x5 x6 x7
    | [], hn => exact absurd hn (by simp; omega)
    | [y1], hn => exact absurd hn (by simp; omega)
    | [y1, y2], hn => exact absurd hn (by simp; omega)
    | [y1, y2, y3], hn => exact absurd hn (by simp; omega)
    | [y1, y2, y3, y4], hn => exact absurd hn (by simp; omega)
    | [y1, y2, y3, y4, y5], hn => exact absurd hn (by simp; omega)
    | [y1, y2, y3, y4, y5, y6], hn => exact absurd hn (by simp; omega)
theorem rread_any {B : Nat} (A : Option Addr) (n c : Nat) (xs : List Int) (w : World) (h : Rds B w .u8 A n c xs) (hb : Byt xs) : Calls Tryd.prog 55 #[.slice A n c] w (ReadPost xs w) := by
  obtain ⟨hl, hc, hm, hcell, -⟩ := h
  match xs, hl with
  | [], hl =>
    obtain rfl : n = 0 := by simpa using hl.symm
    exact rread_nil A c w
  | y0 :: r, hl =>
    obtain ⟨b, o, rfl, hx⟩ := hcell.at_ (by simp)
    have l0 := (hb y0 (by simp)).1
    have u0 := (hb y0 (by simp)).2
    have x0 := hx 0 (by simp)
    have hn : n = r.length + 1 := by simpa using hl.symm
    by_cases g1 : y0 < 64
    · exact rread_one b o n c y0 r w l0 u0 (by omega) g1 hn hc hm x0
    by_cases g2 : y0 < 128
    · by_cases hs : n < 2
      · exact rread_short_two b o n c y0 r w l0 u0 (by omega) g2 hn hs hc hm x0
      match r, hn with
      | y1 :: r, hn =>
        have b1 := hb y1 (by simp)
        have x1 := hx 1 (by simp)
        exact rread_two b o n c y0 y1 r w l0 u0 b1.1 b1.2 (by omega) g2 (by simp at hn; omega) hc hm x0 x1
      | [], hn => exact absurd hn (by simp; omega)
    by_cases g4 : y0 < 192
    · by_cases hs : n < 4
      · exact rread_short_four b o n c y0 r w l0 u0 (by omega) g4 hn hs hc hm x0
      match r, hn with
      | y1 :: y2 :: y3 :: r, hn =>
        have b1 := hb y1 (by simp)
        have x1 := hx 1 (by simp)
        have b2 := hb y2 (by simp)
        have x2 := hx 2 (by simp)
        have b3 := hb y3 (by simp)
        have x3 := hx 3 (by simp)
        exact rread_four b o n c y0 y1 y2 y3 r w l0 u0 b1.1 b1.2 b2.1 b2.2 b3.1 b3.2 (by omega) g4 (by simp at hn; omega) hc hm x0 x1 x2 x3
      | [], hn => exact absurd hn (by simp; omega)
      | [y1], hn => exact absurd hn (by simp; omega)
      | [y1, y2], hn => exact absurd hn (by simp; omega)
    by_cases hs : n < 8
    · exact rread_short_eight b o n c y0 r w l0 u0 (by omega) (by omega) hn hs hc hm x0
    match r, hn with
    | y1 :: y2 :: y3 :: y4 :: y5 :: y6 :: y7 :: r, hn =>
      have b1 := hb y1 (by simp)
      have x1 := hx 1 (by simp)
      have b2 := hb y2 (by simp)
      have x2 := hx 2 (by simp)
      have b3 := hb y3 (by simp)
      have x3 := hx 3 (by simp)
      have b4 := hb y4 (by simp)
      have x4 := hx 4 (by simp)
      have b5 := hb y5 (by simp)
      have x5 := hx 5 (by simp)
      have b6 := hb y6 (by simp)
      have x6 := hx 6 (by simp)
      have b7 := hb y7 (by simp)
      have x7 := hx 7 (by simp)
      exact rread_eight b o n c y0 y1 y2 y3 y4 y5 y6 y7 r w l0 u0 b1.1 b1.2 b2.1 b2.2 b3.1 b3.2 b4.1 b4.2 b5.1 b5.2 b6.1 b6.2 b7.1 b7.2 (by omega) (by omega) (by simp at hn; omega) hc hm x0 x1 x2 x3 x4 x5 x6 x7
    | [], hn => exact absurd hn (by simp; omega)
    | [y1], hn => exact absurd hn (by simp; omega)
    | [y1, y2], hn => exact absurd hn (by simp; omega)
    | [y1, y2, y3], hn => exact absurd hn (by simp; omega)
    | [y1, y2, y3, y4], hn => exact absurd hn (by simp; omega)
    | [y1, y2, y3, y4, y5], hn => exact absurd hn (by simp; omega)
    | [y1, y2, y3, y4, y5, y6], hn => exact absurd hn (by simp; omega)
end Go.Proofs.YtbfgoojpbhlboaaDoor
