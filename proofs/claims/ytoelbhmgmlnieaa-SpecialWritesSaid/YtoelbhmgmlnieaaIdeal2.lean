/- What Unwrap, Wrap and the references' functions of layer 4 return. No condition. -/
import Derived.Test.YtoelbhmgmlnieaaIdeal
set_option linter.unusedVariables false
set_option linter.unusedSimpArgs false
namespace Go.Proofs.Ytoelbhmgmlnieaa
open Go Go.RowKit

def UnwPost (xs : List Int) (w : World) (e : Ending) (w' : World) : Prop := e = .returned (.tuple #[.int .i64 (unwrap xs).1, .int .i64 (unwrap xs).2.1, .bool (unwrap xs).2.2]) ∧ Below w.heap.size w w'
theorem unw_no {xs : List Int} {w w' : World} (h : ¬(16 ≤ xs.length ∧ xs.length ≤ 1216 ∧ numOf (xs.take 4) ≠ 0 ∧ (∀ x ∈ xs.drop 4, x = 0))) (hw : Below w.heap.size w w') : UnwPost xs w (.returned (.tuple #[.int .i64 0, .int .i64 0, .bool false])) w' := by
  unfold UnwPost unwrap
  rw [if_neg h]
  exact ⟨rfl, hw⟩
set_option maxHeartbeats 1600000 in
theorem unwrap_any {B : Nat} (A : Option Addr) (n c : Nat) (xs : List Int) (w : World) (h : Rds B w .u8 A n c xs) (hb : Byt xs) : Calls Try.prog 15 #[.slice A n c] w (UnwPost xs w) := by
  have hl := Lib.hid h.len
  have hnc := h.cap
  have hcm := h.max
  have HB := Lib.hid hb; clear hb
  by_cases h1 : n < 16
  · have H := Lib.hid h; clear h
    go_enter Try.func15, Try.ntmps15
    go_wp2_with fail
    go_ret3
    exact unw_no (by have := hl.out; omega) (Below.refl _ _)
  by_cases h2 : 1216 < n
  · have H := Lib.hid h; clear h
    go_enter Try.func15, Try.ntmps15
    go_wp2_with fail
    go_ret3
    exact unw_no (by have := hl.out; omega) (Below.refl _ _)
  obtain ⟨b, o, rfl, _⟩ := h.cell.at_ (by have := hl.out; omega)
  have H := Lib.hid h; clear h
  go_enter Try.func15, Try.ntmps15
  go_wp2_with fail
  refine (numbered_any _ 4 c (xs.take 4) w (H.out.take (by omega)) (HB.out.take 4)).mono ?_
  rintro e w1 ⟨rfl, hb1⟩
  by_cases h3 : numOf (xs.take 4) = 0
  · have H3 := Lib.hid h3
    rw [show (numOf (xs.take 4) != 0) = false by simp [h3]]
    clear h3
    go_wp2_with fail
    go_ret3
    exact unw_no (by have := H3.out; omega) hb1
  rw [show (numOf (xs.take 4) != 0) = true by simp [h3]]
  have H3 := Lib.hid h3; clear h3
  go_wp2_with fail
  refine (contains_nonzero _ _ _ (xs.drop 4) w1 ((H.out.below hb1).drop (m := 4) (by omega) _ (fun _ => rfl) (by omega))).mono ?_
  rintro e w2 ⟨rfl, rfl⟩
  by_cases h4 : ∀ x ∈ xs.drop 4, x = 0
  · have H4 := Lib.hid h4
    rw [decide_eq_false (show ¬ ¬ (∀ x ∈ xs.drop 4, x = 0) by simpa using h4)]
    clear h4
    go_wp2_with fail
    go_ret3
    unfold UnwPost unwrap
    rw [if_pos ⟨by have := hl.out; omega, by have := hl.out; omega, H3.out, H4.out⟩]
    refine ⟨?_, hb1⟩
    rw [hl.out]
    rfl
  · have H4 := Lib.hid h4
    rw [decide_eq_true (show ¬ (∀ x ∈ xs.drop 4, x = 0) by exact h4)]
    clear h4
    go_wp2_with fail
    go_ret3
    exact unw_no (fun h => H4.out h.2.2.2) hb1

def SamePost04 (xs ys : List Int) (w : World) (e : Ending) (w' : World) : Prop := e = .returned (.bool (decide (xs = ys))) ∧ Below w.heap.size w w'
set_option maxHeartbeats 400000 in
theorem same_len04 (A B : Option Addr) (n m c d : Nat) (w : World) (hne : n ≠ m) :
    Calls Try.prog 19 #[.slice A n c, .slice B m d] w fun e w' => e = .returned (.bool false) ∧ w = w' := by
  go_enter Try.func19, Try.ntmps19
  go_wp2
  go_ret
  exact ⟨rfl, rfl⟩
set_option maxHeartbeats 800000 in
theorem same_any04 {B0 B1 : Nat} (A B : Option Addr) (n m c d : Nat) (xs ys : List Int) (w : World) (h1 : Rds B0 w .u8 A n c xs) (h2 : Rds B1 w .u8 B m d ys) :
    Calls Try.prog 19 #[.slice A n c, .slice B m d] w (SamePost04 xs ys w) := by
  by_cases hnm : n = m
  rotate_left
  · refine (same_len04 A B n m c d w hnm).mono ?_
    rintro e w' ⟨rfl, rfl⟩
    refine ⟨?_, Below.refl _ _⟩
    rw [decide_eq_false]
    intro h; subst h; exact hnm (h1.len.symm.trans h2.len)
  subst hnm
  have Hn := Lib.hid h1.len
  have Hm := Lib.hid h2.len
  have Hx := Lib.hid h1.cell
  have Hy := Lib.hid h2.cell
  have hm : n ≤ 9223372036854775807 := Nat.le_trans h1.cap h1.max
  clear h1 h2
  go_enter Try.func19, Try.ntmps19
  go_wp2
  go_loopw [5] (fun i wr => ∃ k : Nat, k ≤ n ∧ i = .int .i64 k ∧ Hid (∀ j, j < k → nth xs j = nth ys j) ∧ ∃ q, wr = w.drewN q) (fun i _ => n - (intOf i).toNat)
  case atStart => exact ⟨0, Nat.zero_le _, rfl, fun j hj => by omega, 0, rfl⟩
  case round =>
    obtain ⟨k, hk, rfl, hq, q, rfl⟩ := hrel
    by_cases hlt : k < n
    · obtain ⟨b, o, rfl, hcx⟩ := RdI.at_ Hx.out (by have := Hn.out; omega)
      obtain ⟨b', o', rfl, hcy⟩ := RdI.at_ Hy.out (by have := Hm.out; omega)
      have g1 := hcx k (by have := Hn.out; omega)
      have g2 := hcy k (by have := Hm.out; omega)
      clear hcx hcy
      by_cases hz : nth xs k = nth ys k
      · have hz' : (nth xs k != nth ys k) = false := by simp [hz]
        have HZ := Lib.hid hz; clear hz
        go_wp2
        go_quiet (fail)
        go_wp2
        go_roundw
        case rel => exact ⟨k + 1, by omega, by go_num, fun j hj => by
          rcases Nat.lt_or_ge j k with h | h
          · exact hq.out j h
          · obtain rfl : j = k := by omega
            exact HZ.out, _, rfl⟩
        case measure => simp [intOf]; omega
      · have hz' : (nth xs k != nth ys k) = true := by simp [hz]
        have HZ := Lib.hid hz; clear hz
        go_wp2
        go_quiet (fail)
        go_wp2
        go_ret
        refine ⟨?_, below_drewN (below_drewN (Below.refl _ _) _) _⟩
        rw [decide_eq_false (show ¬ xs = ys by intro h; subst h; exact HZ.out rfl)]
        rfl
    · go_wp2
      go_ret
      refine ⟨?_, below_drewN (Below.refl _ _) _⟩
      have he : xs = ys := ext_nth (Hn.out.trans Hm.out.symm) fun j hj => hq.out j (by have := Hn.out; omega)
      rw [decide_eq_true he]
      rfl

end Go.Proofs.Ytoelbhmgmlnieaa
