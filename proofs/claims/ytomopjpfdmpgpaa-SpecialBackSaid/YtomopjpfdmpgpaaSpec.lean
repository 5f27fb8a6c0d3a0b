/- What version, big, head, WriteList, body, WriteRetry of layer 8 do. No condition. -/
import Derived.Test.YtomopjpfdmpgpaaConcat
import Derived.Test.YtomopjpfdmpgpaaLater
import Derived.Test.YtomopjpfdmpgpaaPureSpec
import Derived.Test.YtomopjpfdmpgpaaIdeal4
import Derived.Deep.RegionHeld3
set_option linter.unusedVariables false
set_option linter.unusedSimpArgs false
namespace Go.Proofs.Ytomopjpfdmpgpaa
open Go Go.RowKit

set_option maxHeartbeats 400000 in
theorem version_any (n : Int) (w : World) : Calls Try.prog 34 #[.int .i64 n] w fun e w' => e = .returned (.bool (decide (VerOk n))) ∧ w = w' := by
  by_cases h1 : 1 ≤ n
  · by_cases h2 : n < 4294967296
    · rw [decide_eq_true (show VerOk n from ⟨h1, by omega⟩)]
      go_enter Try.func34, Try.ntmps34
      go_wp2_with fail
      go_ret
      exact ⟨rfl, rfl⟩
    · rw [decide_eq_false (show ¬ VerOk n from fun h => by have := h.2; omega)]
      go_enter Try.func34, Try.ntmps34
      go_wp2_with fail
      go_ret
      exact ⟨rfl, rfl⟩
  · rw [decide_eq_false (show ¬ VerOk n from fun h => by have := h.1; omega)]
    go_enter Try.func34, Try.ntmps34
    go_wp2_with fail
    go_ret
    exact ⟨rfl, rfl⟩

set_option maxHeartbeats 800000 in
theorem big_any (n : Int) (w : World) : Calls Try.prog 42 #[.int .i64 n] w (BytesPost (bigB n) w) := by
  go_enter Try.func42, Try.ntmps42
  go_wp2_with fail
  go_ret
  have := OwnI.fresh (w := w) (B := w.heap.size) (k := .u8) (xs := bigB n) (t := 101) (Nat.le_refl _) (by decide) (by rw [bigB_len]; decide)
  exact ⟨_, rfl, this, below_new _⟩

/-- The head's bytes, or nothing. -/
def headV (first v : Int) (ts fr : List Int) : List Int := if NamesOk ts fr then headB first v ts fr else []
set_option maxHeartbeats 1600000 in
set_option maxRecDepth 100000 in
theorem head_any {B1 B2 : Nat} (first v : Int) (A1 A2 : Option Addr) (n1 n2 c1 c2 : Nat) (ts fr : List Int) (w : World) (h1 : Rds B1 w .u8 A1 n1 c1 ts) (h2 : Rds B2 w .u8 A2 n2 c2 fr) :
    Calls Try.prog 41 #[.int .u8 first, .int .i64 v, .slice A1 n1 c1, .slice A2 n2 c2] w (BytesPost (headV first v ts fr) w) := by
  have H1 := Lib.hid h1
  have H2 := Lib.hid h2
  have L1 := Lib.hid h1.len
  have L2 := Lib.hid h2.len
  clear h1 h2
  go_enter Try.func41, Try.ntmps41
  by_cases k1 : 20 < n1
  · have HE : Hid (headV first v ts fr = []) := if_neg (fun h => by have := h.1; have := L1.out; omega)
    go_wp2_with fail
    go_ret
    rw [HE.out]
    exact BytesPost.nil (Below.refl _ _)
  by_cases k2 : 20 < n2
  · have HE : Hid (headV first v ts fr = []) := if_neg (fun h => by have := h.2; have := L2.out; omega)
    go_wp2_with fail
    go_ret
    rw [HE.out]
    exact BytesPost.nil (Below.refl _ _)
  have HE : Hid (headV first v ts fr = headB first v ts fr) := if_pos ⟨by have := L1.out; omega, by have := L2.out; omega⟩
  have w1 : IntKind.u8.wrap (n1 : Int) = (n1 : Int) := by show (n1 : Int) % 256 = _; omega
  have w2 : IntKind.u8.wrap (n2 : Int) = (n2 : Int) := by show (n2 : Int) % 256 = _; omega
  go_wp2_with fail
  refine (big_any v _).mono ?_
  rintro e w3 ⟨v3, rfl, hv3, hb3⟩
  obtain ⟨A3, c3, rfl⟩ := hv3.slice
  have HV3 := Lib.hid hv3
  have HB3 := Lib.hid hb3
  rw [bigB_len] at *
  clear hv3 hb3
  have hs3 := HB3.out.size
  simp only [World.size_alloc] at hs3
  have HB13 := Lib.hid (below_next (below_new (w := w) (.cells #[.int .u8 first] 5)) (by simp) HB3.out)
  have R1 := Lib.hid ((rds_byte (B := 0) (w0 := w) rfl first).below HB3.out)
  obtain ⟨W5, hW5⟩ : ∃ W5, W5 = (w3.alloc (.cells #[.int .u8 (n1 : Int)] 5)).alloc (.cells #[.int .u8 (n2 : Int)] 5) := ⟨_, rfl⟩
  have b4 : Below w3.heap.size w3 W5 := by rw [hW5]; exact below_pair _ _
  have s5 : W5.heap.size = w3.heap.size + 1 + 1 := by rw [hW5]; simp
  have B15 := Lib.hid (below_next HB13.out (by omega) b4)
  have HL : Hid (RdL (max B1 B2) (W5.alloc (.cells #[.slice (some ⟨w.heap.size, 0, none⟩) 1 1, .slice A3 4 c3, .slice (some ⟨w3.heap.size, 0, none⟩) 1 1, .slice A1 n1 c1, .slice (some ⟨w3.heap.size + 1, 0, none⟩) 1 1, .slice A2 n2 c2] 22)) (w3.heap.size + 1 + 1) 0 [[first], bigB v, [(n1 : Int)], ts, [(n2 : Int)], fr]) := by
    refine RdL.lit (B := max B1 B2) s5 [(some ⟨w.heap.size, 0, none⟩, 1, [first]), (A3, c3, bigB v), (some ⟨w3.heap.size, 0, none⟩, 1, [(n1 : Int)]), (A1, c1, ts), (some ⟨w3.heap.size + 1, 0, none⟩, 1, [(n2 : Int)]), (A2, c2, fr)] _ ?_ ?_
    · simp [L1.out, L2.out, bigB_len]
    · intro q hq
      simp only [List.mem_cons, List.not_mem_nil, or_false] at hq
      rcases hq with rfl | rfl | rfl | rfl | rfl | rfl
      · exact (R1.out.below b4).mono (Nat.zero_le _)
      · exact (HV3.out.below b4).rds (B' := max B1 B2)
      · rw [hW5]
        exact (rds_byte rfl _).below (below_new _)
      · have := (H1.out.below B15.out).mono (Nat.le_max_left B1 B2)
        rw [← L1.out] at this
        exact this
      · rw [hW5]
        exact rds_byte (by simp) _
      · have := (H2.out.below B15.out).mono (Nat.le_max_right B1 B2)
        rw [← L2.out] at this
        exact this
  have HFl : Hid ([[first], bigB v, [(n1 : Int)], ts, [(n2 : Int)], fr].flatten = headB first v ts fr) := by
    show _ = _
    simp [headB, L1.out, L2.out]
  have HFn : Hid ([[first], bigB v, [(n1 : Int)], ts, [(n2 : Int)], fr].flatten.length ≤ 100000) := by
    show _ ≤ _
    rw [HFl.out, headB_len, L1.out, L2.out]
    omega
  have key := concat_any (B' := max B1 B2) (w3.heap.size + 1 + 1) 0 6 6 [[first], bigB v, [(n1 : Int)], ts, [(n2 : Int)], fr] _ HL.out rfl (by omega) (by omega) HFn.out
  have HB5 : Hid (Below w.heap.size w (W5.alloc (.cells #[.slice (some ⟨w.heap.size, 0, none⟩) 1 1, .slice A3 4 c3, .slice (some ⟨w3.heap.size, 0, none⟩) 1 1, .slice A1 n1 c1, .slice (some ⟨w3.heap.size + 1, 0, none⟩) 1 1, .slice A2 n2 c2] 22))) := B15.out.alloc (by omega) _
  have hs6 := HB5.out.size
  clear HL HFn R1 HV3
  go_wp2_with fail
  rw [← hW5]
  clear hW5 b4
  refine key.mono ?_
  clear key
  rintro e w7 ⟨v7, rfl, hv7, hb7⟩
  rw [HFl.out] at hv7
  have HV7 := Lib.hid (hv7.mono hs6)
  have HB7 := Lib.hid (below_next HB5.out hs6 hb7)
  clear hv7 hb7
  go_wp2_with fail
  go_ret
  rw [HE.out]
  exact ⟨_, rfl, HV7.out, HB7.out⟩
end Go.Proofs.Ytomopjpfdmpgpaa
