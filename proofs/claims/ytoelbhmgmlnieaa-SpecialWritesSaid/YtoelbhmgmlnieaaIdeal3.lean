/- What the references' functions of layer 4 return, and Wrap. No condition. -/
import Derived.Test.YtoelbhmgmlnieaaIdeal2
set_option linter.unusedVariables false
set_option linter.unusedSimpArgs false
namespace Go.Proofs.Ytoelbhmgmlnieaa
open Go Go.RowKit

def RNumdPost (xs : List Int) (w : World) (e : Ending) (w' : World) : Prop := e = .returned (.int .i64 (numOf xs)) ∧ Below w.heap.size w w'
theorem rnumd_of {r : Int} {xs : List Int} (h : r = numOf xs) {w w' : World} (hw : Below w.heap.size w w') : RNumdPost xs w (.returned (.int .i64 r)) w' := by
  subst h; exact ⟨rfl, hw⟩
set_option maxHeartbeats 400000 in
theorem rnumbered_len (A : Option Addr) (n c : Nat) (w : World) (hn : n ≠ 4) : Calls Try.prog 18 #[.slice A n c] w fun e w' => e = .returned (.int .i64 0) ∧ w = w' := by
  go_enter Try.func18, Try.ntmps18
  go_wp2
  go_ret
  exact ⟨rfl, rfl⟩
set_option maxHeartbeats 1600000 in
theorem rnumbered_four (b o c : Nat) (x0 x1 x2 x3 : Int) (w : World) (h0 : 0 ≤ x0) (k0 : x0 ≤ 255) (h1 : 0 ≤ x1) (k1 : x1 ≤ 255) (h2 : 0 ≤ x2) (k2 : x2 ≤ 255) (h3 : 0 ≤ x3) (k3 : x3 ≤ 255)
    (c0 : w.cell? ⟨b, o, none⟩ = some (.int .u8 x0)) (c1 : w.cell? ⟨b, o + 1, none⟩ = some (.int .u8 x1)) (c2 : w.cell? ⟨b, o + 2, none⟩ = some (.int .u8 x2)) (c3 : w.cell? ⟨b, o + 3, none⟩ = some (.int .u8 x3)) :
    Calls Try.prog 18 #[.slice (some ⟨b, o, none⟩) 4 c] w (RNumdPost [x0, x1, x2, x3] w) := by
  by_cases t0 : x0 = 0
  rotate_left
  · have t0' : (x0 != 0) = true := by simp [t0]
    have T0 := Lib.hid t0; clear t0
    go_enter Try.func18, Try.ntmps18
    go_wp2
    go_ret
    exact rnumd_of (by have := T0.out; simp [numOf, be4, nth]; omega) (Below.refl _ _)
  subst t0
  by_cases t1 : 1 < x1
  · go_enter Try.func18, Try.ntmps18
    go_wp2
    go_ret
    exact rnumd_of (by simp [numOf, be4, nth]; omega) (Below.refl _ _)
  by_cases t2 : 65536 < 65536 * x1 + 256 * x2 + x3
  · go_enter Try.func18, Try.ntmps18
    go_wp2
    go_quiet (fail)
    go_wp2
    go_ret
    exact rnumd_of (by simp [numOf, be4, nth]; omega) (below_drewN (Below.refl _ _) _)
  · go_enter Try.func18, Try.ntmps18
    go_wp2
    go_quiet (fail)
    go_wp2
    go_ret
    exact rnumd_of (by simp [numOf, be4, nth]; omega) (below_drewN (Below.refl _ _) _)
theorem rnumbered_any {B : Nat} (A : Option Addr) (n c : Nat) (xs : List Int) (w : World) (h : Rds B w .u8 A n c xs) (hb : Byt xs) : Calls Try.prog 18 #[.slice A n c] w (RNumdPost xs w) := by
  by_cases hn : n = 4
  · have hl := h.len
    subst hn
    obtain ⟨b, o, rfl, hc⟩ := h.cell.at_ (by omega)
    have e := list_four hl
    have := rnumbered_four b o c (nth xs 0) (nth xs 1) (nth xs 2) (nth xs 3) w (hb.nth 0).1 (hb.nth 0).2 (hb.nth 1).1 (hb.nth 1).2 (hb.nth 2).1 (hb.nth 2).2 (hb.nth 3).1 (hb.nth 3).2 (hc 0 (by omega)) (hc 1 (by omega)) (hc 2 (by omega)) (hc 3 (by omega))
    rw [← e] at this
    exact this
  · refine (rnumbered_len A n c w hn).mono ?_
    rintro e w' ⟨rfl, rfl⟩
    exact rnumd_of (numOf_len (by have := h.len; omega)).symm (Below.refl _ _)

def RUnwPost (xs : List Int) (w : World) (e : Ending) (w' : World) : Prop := e = .returned (.tuple #[.int .i64 (unwrap xs).1, .int .i64 (unwrap xs).2.1]) ∧ Below w.heap.size w w'
theorem runw_no {xs : List Int} {w w' : World} (h : ¬(16 ≤ xs.length ∧ xs.length ≤ 1216 ∧ numOf (xs.take 4) ≠ 0 ∧ (∀ x ∈ xs.drop 4, x = 0))) (hw : Below w.heap.size w w') : RUnwPost xs w (.returned (.tuple #[.int .i64 0, .int .i64 0])) w' := by
  unfold RUnwPost unwrap
  rw [if_neg h]
  exact ⟨rfl, hw⟩
set_option maxHeartbeats 1600000 in
theorem runwrap_any {B : Nat} (A : Option Addr) (n c : Nat) (xs : List Int) (w : World) (h : Rds B w .u8 A n c xs) (hb : Byt xs) : Calls Try.prog 16 #[.slice A n c] w (RUnwPost xs w) := by
  have hl := Lib.hid h.len
  have hnc := h.cap
  have hcm := h.max
  have HB := Lib.hid hb; clear hb
  by_cases h1 : n < 16
  · have H := Lib.hid h; clear h
    go_enter Try.func16, Try.ntmps16
    go_wp2_with fail
    go_ret2
    exact runw_no (by have := hl.out; omega) (Below.refl _ _)
  by_cases h2 : 1216 < n
  · have H := Lib.hid h; clear h
    go_enter Try.func16, Try.ntmps16
    go_wp2_with fail
    go_ret2
    exact runw_no (by have := hl.out; omega) (Below.refl _ _)
  obtain ⟨b, o, rfl, _⟩ := h.cell.at_ (by have := hl.out; omega)
  have H := Lib.hid h; clear h
  go_enter Try.func16, Try.ntmps16
  go_wp2_with fail
  refine (rnumbered_any _ 4 c (xs.take 4) w (H.out.take (by omega)) (HB.out.take 4)).mono ?_
  rintro e w1 ⟨rfl, hb1⟩
  by_cases h3 : numOf (xs.take 4) = 0
  · have H3 := Lib.hid h3
    have h3' : (numOf (xs.take 4) == 0) = true := by simp [h3]
    clear h3
    go_wp2_with fail
    go_ret2
    exact runw_no (by have := H3.out; omega) hb1
  have h3' : (numOf (xs.take 4) == 0) = false := by simp [h3]
  have H3 := Lib.hid h3; clear h3
  go_wp2_with fail
  go_loopw [4] (fun i wr => ∃ k : Nat, 4 ≤ k ∧ k ≤ n ∧ i = .int .i64 k ∧ Hid (∀ j, 4 ≤ j → j < k → nth xs j = 0) ∧ wr = w1) (fun i _ => n - (intOf i).toNat)
  case atStart => exact ⟨4, Nat.le_refl _, by omega, rfl, fun j hj => by omega, rfl⟩
  case round =>
    obtain ⟨k, hk4, hk, rfl, hq, rfl⟩ := hrel
    by_cases hlt : k < n
    · have HR := H.out.below hb1
      obtain ⟨b', o', he, hcx⟩ := RdI.at_ HR.cell (by have := hl.out; omega)
      cases he
      have g1 := hcx k (by have := hl.out; omega)
      have HR' := Lib.hid HR
      clear hcx HR
      by_cases hz : nth xs k = 0
      · have hz' : (nth xs k != 0) = false := by simp [hz]
        have HZ := Lib.hid hz; clear hz
        go_wp2_with fail
        go_roundw
        case rel => exact ⟨k + 1, by omega, by omega, by go_num, fun j hj hj' => by
          rcases Nat.lt_or_ge j k with h | h
          · exact hq.out j hj h
          · obtain rfl : j = k := by omega
            exact HZ.out, by trivial⟩
        case measure => simp [intOf]; omega
      · have hz' : (nth xs k != 0) = true := by simp [hz]
        have HZ := Lib.hid hz; clear hz
        go_wp2_with fail
        go_ret2
        refine runw_no (fun h => HZ.out ?_) hb1
        have := h.2.2.2 (nth (xs.drop 4) (k - 4)) (nth_mem (by have := hl.out; simp; omega))
        rw [nth_drop] at this
        rw [show k = 4 + (k - 4) from by omega]
        exact this
    · go_wp2_with fail
      refine (rnumbered_any _ 4 c (xs.take 4) wr ((H.out.below hb1).take (by omega)) (HB.out.take 4)).mono ?_
      rintro e w2 ⟨rfl, hb2⟩
      go_wp2_with fail
      go_ret2
      unfold RUnwPost unwrap
      rw [if_pos ⟨by have := hl.out; omega, by have := hl.out; omega, H3.out, all_zero (n := n - 4) (by have := hl.out; simp; omega) fun j hj => by
        rw [nth_drop]; exact hq.out (4 + j) (by omega) (by omega)⟩]
      refine ⟨?_, below_step hb1 hb2⟩
      rw [hl.out]
      rfl

set_option maxHeartbeats 800000 in
theorem rnumber_any (h : Int) (w : World) : Calls Try.prog 21 #[.int .i64 h] w fun e w' => ∃ v, e = .returned v ∧ OwnI w' w.heap.size .u8 v (numB h) ∧ Below w.heap.size w w' := by
  by_cases h1 : h < 1
  · have H := Lib.hid (numB_no (h := h) (by omega))
    go_enter Try.func21, Try.ntmps21
    go_wp2
    go_ret
    exact ⟨_, rfl, by rw [H.out]; exact OwnI.nil _ _ _, Below.refl _ _⟩
  by_cases h2 : 65536 < h
  · have H := Lib.hid (numB_no (h := h) (by omega))
    go_enter Try.func21, Try.ntmps21
    go_wp2
    go_ret
    exact ⟨_, rfl, by rw [H.out]; exact OwnI.nil _ _ _, Below.refl _ _⟩
  · have H := Lib.hid (numB_yes (h := h) (by omega) (by omega))
    have e1 : h / 65536 % 256 = h / 65536 := by omega
    have e2 : h / 256 % 256 % 256 = h / 256 % 256 := by omega
    have e3 : h % 256 % 256 = h % 256 := by omega
    go_enter Try.func21, Try.ntmps21
    go_wp2
    go_ret
    refine ⟨_, rfl, ?_, below_new _⟩
    rw [H.out]
    exact OwnI.fresh (w := w) (B := w.heap.size) (k := .u8) (xs := [0, h / 65536, h / 256 % 256, h % 256]) (t := 5) (Nat.le_refl _) (by decide) (by simp)
end Go.Proofs.Ytoelbhmgmlnieaa
