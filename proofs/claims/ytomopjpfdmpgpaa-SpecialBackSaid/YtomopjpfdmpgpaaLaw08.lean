/- The helpers of the laws of layer 8: same, list, retry. No condition. -/
import Derived.Test.YtomopjpfdmpgpaaBridge
import Derived.Test.YtomopjpfdmpgpaaSpec3
import Derived.Test.YtomopjpfdmpgpaaPSpecialBackx2
import Derived.Test.YtomopjpfdmpgpaaPSpecialBackx3
import Derived.Test.YtomopjpfdmpgpaaIdeal3
set_option linter.unusedVariables false
set_option linter.unusedSimpArgs false
namespace Go.Proofs.Ytomopjpfdmpgpaa
open Go Go.RowKit
open Go.Proofs.Ytomopjpfdmpgpaa.PSpecialBack

def SamePost08 (xs ys : List Int) (w : World) (e : Ending) (w' : World) : Prop := e = .returned (.bool (decide (xs = ys))) ∧ Below w.heap.size w w'
set_option maxHeartbeats 400000 in
theorem same_len08 (A B : Option Addr) (n m c d : Nat) (w : World) (hne : n ≠ m) :
    Calls Try.prog 40 #[.slice A n c, .slice B m d] w fun e w' => e = .returned (.bool false) ∧ w = w' := by
  go_enter Try.func40, Try.ntmps40
  go_wp2
  go_ret
  exact ⟨rfl, rfl⟩
set_option maxHeartbeats 800000 in
theorem same_any08 {B0 B1 : Nat} (A B : Option Addr) (n m c d : Nat) (xs ys : List Int) (w : World) (h1 : Rds B0 w .u8 A n c xs) (h2 : Rds B1 w .u8 B m d ys) :
    Calls Try.prog 40 #[.slice A n c, .slice B m d] w (SamePost08 xs ys w) := by
  by_cases hnm : n = m
  rotate_left
  · refine (same_len08 A B n m c d w hnm).mono ?_
    rintro e w' ⟨rfl, rfl⟩
    refine ⟨?_, Below.refl _ _⟩
    rw [decide_eq_false]
    intro h; subst h; exact hnm (h1.len.symm.trans h2.len)
  subst hnm
  have Hn := Lib.hid h1.len
  have Hm := Lib.hid h2.len
  have Hx := Lib.hid h1.cell
  have Hy := Lib.hid h2.cell
  have hm : n ≤ 9223372036854775807 := Nat.le_trans h1.cap h1.max
  clear h1 h2
  go_enter Try.func40, Try.ntmps40
  go_wp2
  go_loopw [5] (fun i wr => ∃ k : Nat, k ≤ n ∧ i = .int .i64 k ∧ Hid (∀ j, j < k → nth xs j = nth ys j) ∧ ∃ q, wr = w.drewN q) (fun i _ => n - (intOf i).toNat)
  case atStart => exact ⟨0, Nat.zero_le _, rfl, fun j hj => by omega, 0, rfl⟩
  case round =>
    obtain ⟨k, hk, rfl, hq, q, rfl⟩ := hrel
    by_cases hlt : k < n
    · obtain ⟨b, o, rfl, hcx⟩ := RdI.at_ Hx.out (by have := Hn.out; omega)
      obtain ⟨b', o', rfl, hcy⟩ := RdI.at_ Hy.out (by have := Hm.out; omega)
      have g1 := hcx k (by have := Hn.out; omega)
      have g2 := hcy k (by have := Hm.out; omega)
      clear hcx hcy
      by_cases hz : nth xs k = nth ys k
      · have hz' : (nth xs k != nth ys k) = false := by simp [hz]
        have HZ := Lib.hid hz; clear hz
        go_wp2
        go_quiet (fail)
        go_wp2
        go_roundw
        case rel => exact ⟨k + 1, by omega, by go_num, fun j hj => by
          rcases Nat.lt_or_ge j k with h | h
          · exact hq.out j h
          · obtain rfl : j = k := by omega
            exact HZ.out, _, rfl⟩
        case measure => simp [intOf]; omega
      · have hz' : (nth xs k != nth ys k) = true := by simp [hz]
        have HZ := Lib.hid hz; clear hz
        go_wp2
        go_quiet (fail)
        go_wp2
        go_ret
        refine ⟨?_, below_drewN (below_drewN (Below.refl _ _) _) _⟩
        rw [decide_eq_false (show ¬ xs = ys by intro h; subst h; exact HZ.out rfl)]
        rfl
    · go_wp2
      go_ret
      refine ⟨?_, below_drewN (Below.refl _ _) _⟩
      have he : xs = ys := ext_nth (Hn.out.trans Hm.out.symm) fun j hj => hq.out j (by have := Hn.out; omega)
      rw [decide_eq_true he]
      rfl

theorem same_self08 {B0 B1 : Nat} (A B : Option Addr) (n m c d : Nat) (xs : List Int) (w : World) (h1 : Rds B0 w .u8 A n c xs) (h2 : Rds B1 w .u8 B m d xs) :
    Calls Try.prog 40 #[.slice A n c, .slice B m d] w fun e w' => e = .returned (.bool true) ∧ Below w.heap.size w w' :=
  (same_any08 A B n m c d xs xs w h1 h2).mono fun e w' h => ⟨by rw [h.1, decide_eq_true rfl], h.2⟩
def ListPost (ts fr vs : List Int) (w : World) (e : Ending) (w' : World) : Prop := ∃ A1 c1 A2 c2 A3 c3, e = .returned (.agg #[.slice A1 ts.length c1, .slice A2 fr.length c2, .slice A3 vs.length c3]) ∧
  OwnI w' w.heap.size .u8 (.slice A1 ts.length c1) ts ∧ OwnI w' w.heap.size .u8 (.slice A2 fr.length c2) fr ∧ OwnI w' w.heap.size .i64 (.slice A3 vs.length c3) vs ∧ Below w.heap.size w w'
theorem list_any {B1 B2 B3 : Nat} (A1 A2 A3 : Option Addr) (n1 n2 n3 c1 c2 c3 : Nat) (ts fr vs : List Int) (w : World) (h1 : Rds B1 w .u8 A1 n1 c1 ts) (h2 : Rds B2 w .u8 A2 n2 c2 fr) (h3 : Rds B3 w .i64 A3 n3 c3 vs) (l1 : n1 ≤ 1000000) (l2 : n2 ≤ 1000000) (l3 : n3 ≤ 1000000) :
    Calls Try.prog 14 #[.agg #[.slice A1 n1 c1, .slice A2 n2 c2, .slice A3 n3 c3]] w (ListPost ts fr vs w) := by
  obtain rfl := h1.len
  obtain rfl := h2.len
  obtain rfl := h3.len
  refine (shibbolethlaw08_list.calls A1 c1 ts A2 c2 fr A3 c3 vs ts fr vs w (kd_c h1) h1.cap (kd_c h2) h2.cap (kd_c h3) h3.cap ?_).mono ?_
  · simp only [shibbolethlaw08_list.f, Option.bind_some, List.length_nil, List.nil_append]
    rw [if_pos (by omega), if_pos (by omega), if_pos (by omega)]
  · rintro e w' ⟨v1, v2, v3, rfl, r1, r2, r3, hb⟩
    have o1 := kd_own sp_u8 r1
    have o2 := kd_own sp_u8 r2
    have o3 := kd_own sp_int r3
    obtain ⟨A1', c1', rfl⟩ := o1.slice
    obtain ⟨A2', c2', rfl⟩ := o2.slice
    obtain ⟨A3', c3', rfl⟩ := o3.slice
    exact ⟨_, _, _, _, _, _, rfl, o1, o2, o3, hb⟩
def RetryPost (ver : Int) (ts fr : List Int) (token tag : Int) (w : World) (e : Ending) (w' : World) : Prop := ∃ A1 c1 A2 c2, e = .returned (.agg #[.int .i64 ver, .slice A1 ts.length c1, .slice A2 fr.length c2, .int .i64 token, .int .i64 tag]) ∧
  OwnI w' w.heap.size .u8 (.slice A1 ts.length c1) ts ∧ OwnI w' w.heap.size .u8 (.slice A2 fr.length c2) fr ∧ Below w.heap.size w w'
theorem retry_any {B1 B2 : Nat} (ver token tag : Int) (A1 A2 : Option Addr) (n1 n2 c1 c2 : Nat) (ts fr : List Int) (w : World) (h1 : Rds B1 w .u8 A1 n1 c1 ts) (h2 : Rds B2 w .u8 A2 n2 c2 fr) (l1 : n1 ≤ 1000000) (l2 : n2 ≤ 1000000) :
    Calls Try.prog 16 #[.agg #[.int .i64 ver, .slice A1 n1 c1, .slice A2 n2 c2, .int .i64 token, .int .i64 tag]] w (RetryPost ver ts fr token tag w) := by
  obtain rfl := h1.len
  obtain rfl := h2.len
  refine (shibbolethlaw08_retry.calls ver A1 c1 ts A2 c2 fr token tag ver ts fr token tag w (kd_c h1) h1.cap (kd_c h2) h2.cap ?_).mono ?_
  · simp only [shibbolethlaw08_retry.f, Option.bind_some, List.length_nil, List.nil_append]
    rw [if_pos (by omega), if_pos (by omega)]
  · rintro e w' ⟨v1, v2, rfl, r1, r2, hb⟩
    have o1 := kd_own sp_u8 r1
    have o2 := kd_own sp_u8 r2
    obtain ⟨A1', c1', rfl⟩ := o1.slice
    obtain ⟨A2', c2', rfl⟩ := o2.slice
    exact ⟨_, _, _, _, rfl, o1, o2, hb⟩

theorem awake08_bytes : listB [] [] [2] = [128, 0, 0, 0, 0, 0, 0, 0, 0, 0, 2] := by decide
set_option maxHeartbeats 800000 in
set_option maxRecDepth 100000 in
theorem awake08_any (w : World) : Calls Try.prog 12 #[] w fun e w' => e = .returned (.bool true) ∧ Below w.heap.size w w' := by
  obtain ⟨W, hW⟩ : ∃ W, W = w.alloc (.cells #[.int .i64 2] 3) := ⟨_, rfl⟩
  have HBW : Hid (Below w.heap.size w W) := by rw [hW]; exact below_new _
  have hr : Rds 0 W .i64 (some ⟨w.heap.size, 0, none⟩) 1 1 [2] := by
    rw [hW]
    exact (OwnI.fresh (w := w) (B := 0) (k := .i64) (xs := [2]) (t := 3) (Nat.zero_le _) sp_int (by simp)).rds
  have key := writeList_any none none (some ⟨w.heap.size, 0, none⟩) 0 0 1 0 0 1 [] [] [2] W (Rds.nil 0 _ _) (Rds.nil 0 _ _) hr
  rw [awake08_bytes] at key
  clear hr
  go_enter Try.func12, Try.ntmps12
  go_wp2_with fail
  rw [← hW]
  clear hW
  refine key.mono ?_
  clear key
  rintro e w1 ⟨v1, rfl, hv1, hb1⟩
  obtain ⟨A1, c1, rfl⟩ := hv1.slice
  have HB1 := Lib.hid (below_next HBW.out HBW.out.size hb1)
  obtain ⟨W2, hW2⟩ : ∃ W2, W2 = w1.alloc (.cells #[.int .u8 128, .int .u8 0, .int .u8 0, .int .u8 0, .int .u8 0, .int .u8 0, .int .u8 0, .int .u8 0, .int .u8 0, .int .u8 0, .int .u8 2] 5) := ⟨_, rfl⟩
  have R2 : Rds 0 W2 .u8 (some ⟨w1.heap.size, 0, none⟩) 11 11 [128, 0, 0, 0, 0, 0, 0, 0, 0, 0, 2] := by
    rw [hW2]
    exact (OwnI.fresh (w := w1) (B := 0) (k := .u8) (xs := [128, 0, 0, 0, 0, 0, 0, 0, 0, 0, 2]) (t := 5) (Nat.zero_le _) sp_u8 (by simp)).rds
  have R1 : Rds 0 W2 .u8 A1 11 c1 [128, 0, 0, 0, 0, 0, 0, 0, 0, 0, 2] := by
    rw [hW2]
    exact ((hv1.below (below_new _)).rds)
  have HB2 : Hid (Below w.heap.size w W2) := by rw [hW2]; exact HB1.out.alloc HB1.out.size _
  have key := same_self08 A1 (some ⟨w1.heap.size, 0, none⟩) 11 11 c1 11 _ W2 R1 R2
  simp only [List.length_cons, List.length_nil]
  clear hv1 hb1 R1 R2
  go_wp2_with fail
  rw [← hW2]
  clear hW2
  refine key.mono ?_
  clear key
  rintro e w3 ⟨rfl, hb3⟩
  have HB3 := Lib.hid (below_next HB2.out HB2.out.size hb3)
  clear hb3
  go_wp2_with fail
  go_ret
  exact ⟨rfl, HB3.out⟩
end Go.Proofs.Ytomopjpfdmpgpaa
