/- The helpers of the laws of layer 7: same, light, awake. No condition but the table of bit places. -/
import Derived.Test.YtbfgoojpbhlboaaDoorRef07b
import Derived.Test.YtbfgoojpbhlboaaDoorParWrite
set_option linter.unusedVariables false
set_option linter.unusedSimpArgs false
namespace Go.Proofs.YtbfgoojpbhlboaaDoor
open Go Go.RowKit

def SamePost07 (xs ys : List Int) (w : World) (e : Ending) (w' : World) : Prop := e = .returned (.bool (decide (xs = ys))) ∧ Below w.heap.size w w'
set_option maxHeartbeats 400000 in
theorem same_len07 (A B : Option Addr) (n m c d : Nat) (w : World) (hne : n ≠ m) :
    Calls Tryd.prog 18 #[.slice A n c, .slice B m d] w fun e w' => e = .returned (.bool false) ∧ w = w' := by
  go_enter Tryd.func18, Tryd.ntmps18
  go_wp2
  go_ret
  exact ⟨rfl, rfl⟩
set_option maxHeartbeats 800000 in
theorem same_any07 {B0 B1 : Nat} (A B : Option Addr) (n m c d : Nat) (xs ys : List Int) (w : World) (h1 : Rds B0 w .u8 A n c xs) (h2 : Rds B1 w .u8 B m d ys) :
    Calls Tryd.prog 18 #[.slice A n c, .slice B m d] w (SamePost07 xs ys w) := by
  by_cases hnm : n = m
  rotate_left
  · refine (same_len07 A B n m c d w hnm).mono ?_
    rintro e w' ⟨rfl, rfl⟩
    refine ⟨?_, Below.refl _ _⟩
    rw [decide_eq_false]
    intro h; subst h; exact hnm (h1.len.symm.trans h2.len)
  subst hnm
  have Hn := Lib.hid h1.len
  have Hm := Lib.hid h2.len
  have Hx := Lib.hid h1.cell
  have Hy := Lib.hid h2.cell
  have hm : n ≤ 9223372036854775807 := Nat.le_trans h1.cap h1.max
  clear h1 h2
  go_enter Tryd.func18, Tryd.ntmps18
  go_wp2
  go_loopw [5] (fun i wr => ∃ k : Nat, k ≤ n ∧ i = .int .i64 k ∧ Hid (∀ j, j < k → nth xs j = nth ys j) ∧ ∃ q, wr = w.drewN q) (fun i _ => n - (intOf i).toNat)
  case atStart => exact ⟨0, Nat.zero_le _, rfl, fun j hj => by omega, 0, rfl⟩
  case round =>
    obtain ⟨k, hk, rfl, hq, q, rfl⟩ := hrel
    by_cases hlt : k < n
    · obtain ⟨b, o, rfl, hcx⟩ := RdI.at_ Hx.out (by have := Hn.out; omega)
      obtain ⟨b', o', rfl, hcy⟩ := RdI.at_ Hy.out (by have := Hm.out; omega)
      have g1 := hcx k (by have := Hn.out; omega)
      have g2 := hcy k (by have := Hm.out; omega)
      clear hcx hcy
      by_cases hz : nth xs k = nth ys k
      · have hz' : (nth xs k != nth ys k) = false := by simp [hz]
        have HZ := Lib.hid hz; clear hz
        go_wp2
        go_quiet (fail)
        go_wp2
        go_roundw
        case rel => exact ⟨k + 1, by omega, by go_num, fun j hj => by
          rcases Nat.lt_or_ge j k with h | h
          · exact hq.out j h
          · obtain rfl : j = k := by omega
            exact HZ.out, _, rfl⟩
        case measure => simp [intOf]; omega
      · have hz' : (nth xs k != nth ys k) = true := by simp [hz]
        have HZ := Lib.hid hz; clear hz
        go_wp2
        go_quiet (fail)
        go_wp2
        go_ret
        refine ⟨?_, below_drewN (below_drewN (Below.refl _ _) _) _⟩
        rw [decide_eq_false (show ¬ xs = ys by intro h; subst h; exact HZ.out rfl)]
        rfl
    · go_wp2
      go_ret
      refine ⟨?_, below_drewN (Below.refl _ _) _⟩
      have he : xs = ys := ext_nth (Hn.out.trans Hm.out.symm) fun j hj => hq.out j (by have := Hn.out; omega)
      rw [decide_eq_true he]
      rfl

theorem same_self07 {B0 B1 : Nat} (A B : Option Addr) (n m c d : Nat) (xs : List Int) (w : World) (h1 : Rds B0 w .u8 A n c xs) (h2 : Rds B1 w .u8 B m d xs) :
    Calls Tryd.prog 18 #[.slice A n c, .slice B m d] w fun e w' => e = .returned (.bool true) ∧ Below w.heap.size w w' :=
  (same_any07 A B n m c d xs xs w h1 h2).mono fun e w' h => ⟨by rw [h.1, decide_eq_true rfl], h.2⟩

/-- Are all fields the same? -/
def sameP (p q : Par) : Prop := p.idle = q.idle ∧ p.data = q.data ∧ p.hg = q.hg ∧ p.ho = q.ho ∧ p.hr = q.hr ∧ p.goal = q.goal ∧ p.own = q.own ∧ p.retry = q.retry ∧ p.chosen = q.chosen ∧ p.vs = q.vs
instance (p q : Par) : Decidable (sameP p q) := by unfold sameP; infer_instance
theorem sameP_refl (p : Par) : sameP p p := ⟨rfl, rfl, rfl, rfl, rfl, rfl, rfl, rfl, rfl, rfl⟩
theorem sameP_symm {p q : Par} (h : sameP p q) : sameP q p := by
  obtain ⟨h0, h1, h2, h3, h4, h5, h6, h7, h8, h9⟩ := h
  exact ⟨h0.symm, h1.symm, h2.symm, h3.symm, h4.symm, h5.symm, h6.symm, h7.symm, h8.symm, h9.symm⟩
def lightP (p : Par) : Prop := p.goal.length ≤ 50 ∧ p.own.length ≤ 50 ∧ p.retry.length ≤ 50 ∧ p.vs.length ≤ 30
instance (p : Par) : Decidable (lightP p) := by unfold lightP; infer_instance
set_option maxHeartbeats 1600000 in
set_option maxRecDepth 100000 in
theorem light_any (p : Par) (s : ParS) (w : World) : Calls Tryd.prog 12 #[.agg (parCs p s)] w fun e w' => e = .returned (.bool (decide (lightP p))) ∧ Below w.heap.size w w' := by
  obtain ⟨D, hD⟩ : ∃ D, D = decide (lightP p) := ⟨_, rfl⟩
  have HD := Lib.hid hD
  rw [← hD]
  clear hD
  unfold parCs
  go_enter Tryd.func12, Tryd.ntmps12
  by_cases c1 : p.goal.length ≤ 50
  rotate_left
  · have HE : Hid (D = false) := by rw [HD.out]; exact decide_eq_false fun h => c1 h.1
    have c' : ¬ (p.goal.length : Int) ≤ 50 := by omega
    go_wp2_with fail
    go_ret
    rw [HE.out]; exact ⟨rfl, below_new _⟩
  by_cases c2 : p.own.length ≤ 50
  rotate_left
  · have HE : Hid (D = false) := by rw [HD.out]; exact decide_eq_false fun h => c2 h.2.1
    have c' : ¬ (p.own.length : Int) ≤ 50 := by omega
    go_wp2_with fail
    go_ret
    rw [HE.out]; exact ⟨rfl, below_new _⟩
  by_cases c3 : p.retry.length ≤ 50
  rotate_left
  · have HE : Hid (D = false) := by rw [HD.out]; exact decide_eq_false fun h => c3 h.2.2.1
    have c' : ¬ (p.retry.length : Int) ≤ 50 := by omega
    go_wp2_with fail
    go_ret
    rw [HE.out]; exact ⟨rfl, below_new _⟩
  by_cases c4 : p.vs.length ≤ 30
  rotate_left
  · have HE : Hid (D = false) := by rw [HD.out]; exact decide_eq_false fun h => c4 h.2.2.2
    have c' : ¬ (p.vs.length : Int) ≤ 30 := by omega
    go_wp2_with fail
    go_ret
    rw [HE.out]; exact ⟨rfl, below_new _⟩
  · have HE : Hid (D = true) := by rw [HD.out]; exact decide_eq_true ⟨c1, c2, c3, c4⟩
    have c4' : (p.vs.length : Int) ≤ 30 := by omega
    go_wp2_with fail
    go_ret
    rw [HE.out]; exact ⟨rfl, below_new _⟩
def par1 : Par := ⟨5, 6, false, false, false, [], [], [], 1, [1]⟩
theorem par1_bytes : writeP par1 = [1, 1, 5, 4, 1, 6, 17, 8, 0, 0, 0, 1, 0, 0, 0, 1] := by decide
set_option maxHeartbeats 1600000 in
set_option maxRecDepth 100000 in
theorem awake07_any (w : World) (ht : Tz w) : Calls Tryd.prog 17 #[] w fun e w' => e = .returned (.bool true) ∧ Below w.heap.size w w' := by
  obtain ⟨W, hW⟩ : ∃ W, W = w.alloc (.cells #[.int .i64 1] 3) := ⟨_, rfl⟩
  have HBW : Hid (Below w.heap.size w W) := by rw [hW]; exact below_new _
  have hr : Rds 0 W .i64 (some ⟨w.heap.size, 0, none⟩) 1 1 [1] := by
    rw [hW]
    exact (OwnI.fresh (w := w) (B := 0) (k := .i64) (xs := [1]) (t := 3) (Nat.zero_le _) sp_int (by simp)).rds
  have key := write_any (B := 0) par1 ⟨none, 0, none, 0, none, 0, some ⟨w.heap.size, 0, none⟩, 1⟩ W ⟨Rds.nil _ _ _, Rds.nil _ _ _, Rds.nil _ _ _, hr⟩ (by decide) (ht.later HBW.out) (fun W' h => right_any par1 _ W' h (by decide))
  rw [par1_bytes] at key
  simp only [parCs, par1, List.length_cons, List.length_nil] at key
  clear hr ht
  go_enter Tryd.func17, Tryd.ntmps17
  go_wp2_with fail
  rw [← hW]
  clear hW
  refine key.mono ?_
  clear key
  rintro e w1 ⟨v1, rfl, hv1, hb1⟩
  obtain ⟨A1, c1, rfl⟩ := hv1.slice
  have HB1 := Lib.hid (below_next HBW.out HBW.out.size hb1)
  obtain ⟨W2, hW2⟩ : ∃ W2, W2 = w1.alloc (.cells #[.int .u8 1, .int .u8 1, .int .u8 5, .int .u8 4, .int .u8 1, .int .u8 6, .int .u8 17, .int .u8 8, .int .u8 0, .int .u8 0, .int .u8 0, .int .u8 1, .int .u8 0, .int .u8 0, .int .u8 0, .int .u8 1] 5) := ⟨_, rfl⟩
  have R2 : Rds 0 W2 .u8 (some ⟨w1.heap.size, 0, none⟩) 16 16 [1, 1, 5, 4, 1, 6, 17, 8, 0, 0, 0, 1, 0, 0, 0, 1] := by
    rw [hW2]
    exact (OwnI.fresh (w := w1) (B := 0) (k := .u8) (xs := [1, 1, 5, 4, 1, 6, 17, 8, 0, 0, 0, 1, 0, 0, 0, 1]) (t := 5) (Nat.zero_le _) sp_u8 (by simp)).rds
  have R1 : Rds 0 W2 .u8 A1 16 c1 [1, 1, 5, 4, 1, 6, 17, 8, 0, 0, 0, 1, 0, 0, 0, 1] := by
    rw [hW2]
    exact ((hv1.below (below_new _)).rds)
  have HB2 : Hid (Below w.heap.size w W2) := by rw [hW2]; exact HB1.out.alloc HB1.out.size _
  have key := same_self07 A1 (some ⟨w1.heap.size, 0, none⟩) 16 16 c1 16 _ W2 R1 R2
  simp only [List.length_cons, List.length_nil]
  clear hv1 hb1 R1 R2
  go_wp2_with fail
  rw [← hW2]
  clear hW2
  refine key.mono ?_
  clear key
  rintro e w3 ⟨rfl, hb3⟩
  have HB3 := Lib.hid (below_next HB2.out HB2.out.size hb3)
  clear hb3
  go_wp2_with fail
  go_ret
  exact ⟨rfl, HB3.out⟩
end Go.Proofs.YtbfgoojpbhlboaaDoor
