/- Own texts, one behind the other. Each bears its own remark. -/
import Derived.Test.YtbfgoojpbhlboaaDoorHelOf
import Derived.Test.YtbfgoojpbhlboaaDoorPureHello
import Derived.Test.YtbfgoojpbhlboaaDoorIdeal3
import Derived.Test.YtbfgoojpbhlboaaDoorConcat
import Derived.Test.YtbfgoojpbhlboaaDoorLater
/- The law's same and light of layer 14. No condition. -/
set_option linter.unusedVariables false
set_option linter.unusedSimpArgs false
namespace Go.Proofs.YtbfgoojpbhlboaaDoor
open Go Go.RowKit

def SamePost14 (xs ys : List Int) (w : World) (e : Ending) (w' : World) : Prop := e = .returned (.bool (decide (xs = ys))) ∧ Below w.heap.size w w'
set_option maxHeartbeats 400000 in
theorem same_len14 (A B : Option Addr) (n m c d : Nat) (w : World) (hne : n ≠ m) :
    Calls Tryd.prog 30 #[.slice A n c, .slice B m d] w fun e w' => e = .returned (.bool false) ∧ w = w' := by
  go_enter Tryd.func30, Tryd.ntmps30
  go_wp2
  go_ret
  exact ⟨rfl, rfl⟩
set_option maxHeartbeats 800000 in
theorem same_any14 {B0 B1 : Nat} (A B : Option Addr) (n m c d : Nat) (xs ys : List Int) (w : World) (h1 : Rds B0 w .u8 A n c xs) (h2 : Rds B1 w .u8 B m d ys) :
    Calls Tryd.prog 30 #[.slice A n c, .slice B m d] w (SamePost14 xs ys w) := by
  by_cases hnm : n = m
  rotate_left
  · refine (same_len14 A B n m c d w hnm).mono ?_
    rintro e w' ⟨rfl, rfl⟩
    refine ⟨?_, Below.refl _ _⟩
    rw [decide_eq_false]
    intro h; subst h; exact hnm (h1.len.symm.trans h2.len)
  subst hnm
  have Hn := Lib.hid h1.len
  have Hm := Lib.hid h2.len
  have Hx := Lib.hid h1.cell
  have Hy := Lib.hid h2.cell
  have hm : n ≤ 9223372036854775807 := Nat.le_trans h1.cap h1.max
  clear h1 h2
  go_enter Tryd.func30, Tryd.ntmps30
  go_wp2
  go_loopw [5] (fun i wr => ∃ k : Nat, k ≤ n ∧ i = .int .i64 k ∧ Hid (∀ j, j < k → nth xs j = nth ys j) ∧ ∃ q, wr = w.drewN q) (fun i _ => n - (intOf i).toNat)
  case atStart => exact ⟨0, Nat.zero_le _, rfl, fun j hj => by omega, 0, rfl⟩
  case round =>
    obtain ⟨k, hk, rfl, hq, q, rfl⟩ := hrel
    by_cases hlt : k < n
    · obtain ⟨b, o, rfl, hcx⟩ := RdI.at_ Hx.out (by have := Hn.out; omega)
      obtain ⟨b', o', rfl, hcy⟩ := RdI.at_ Hy.out (by have := Hm.out; omega)
      have g1 := hcx k (by have := Hn.out; omega)
      have g2 := hcy k (by have := Hm.out; omega)
      clear hcx hcy
      by_cases hz : nth xs k = nth ys k
      · have hz' : (nth xs k != nth ys k) = false := by simp [hz]
        have HZ := Lib.hid hz; clear hz
        go_wp2
        go_quiet (fail)
        go_wp2
        go_roundw
        case rel => exact ⟨k + 1, by omega, by go_num, fun j hj => by
          rcases Nat.lt_or_ge j k with h | h
          · exact hq.out j h
          · obtain rfl : j = k := by omega
            exact HZ.out, _, rfl⟩
        case measure => simp [intOf]; omega
      · have hz' : (nth xs k != nth ys k) = true := by simp [hz]
        have HZ := Lib.hid hz; clear hz
        go_wp2
        go_quiet (fail)
        go_wp2
        go_ret
        refine ⟨?_, below_drewN (below_drewN (Below.refl _ _) _) _⟩
        rw [decide_eq_false (show ¬ xs = ys by intro h; subst h; exact HZ.out rfl)]
        rfl
    · go_wp2
      go_ret
      refine ⟨?_, below_drewN (Below.refl _ _) _⟩
      have he : xs = ys := ext_nth (Hn.out.trans Hm.out.symm) fun j hj => hq.out j (by have := Hn.out; omega)
      rw [decide_eq_true he]
      rfl

theorem same_self14 {B0 B1 : Nat} (A B : Option Addr) (n m c d : Nat) (xs : List Int) (w : World) (h1 : Rds B0 w .u8 A n c xs) (h2 : Rds B1 w .u8 B m d xs) :
    Calls Tryd.prog 30 #[.slice A n c, .slice B m d] w fun e w' => e = .returned (.bool true) ∧ Below w.heap.size w w' :=
  (same_any14 A B n m c d xs xs w h1 h2).mono fun e w' h => ⟨by rw [h.1, decide_eq_true rfl], h.2⟩

def lightM (m : Hel) : Prop := m.params.length ≤ 600 ∧ m.name.size ≤ 100
instance (m : Hel) : Decidable (lightM m) := inferInstanceAs (Decidable (_ ∧ _))
set_option maxHeartbeats 1600000 in
set_option maxRecDepth 100000 in
theorem light14_any (m : Hel) (s : HelS) (w : World) : Calls Tryd.prog 24 #[.agg (helCs m s)] w fun e w' => e = .returned (.bool (decide (lightM m))) ∧ Below w.heap.size w w' := by
  obtain ⟨D, hD⟩ : ∃ D, D = decide (lightM m) := ⟨_, rfl⟩
  rw [← hD]
  have HD := Lib.hid hD
  clear hD
  obtain ⟨W, hW⟩ : ∃ W, W = w.alloc (.cells (helCs m s) 44) := ⟨_, rfl⟩
  have HB : Hid (Below w.heap.size w W) := by rw [hW]; exact below_new _
  have hd : HelD W w.heap.size m s := by rw [hW]; exact heap_alloc_new w _
  obtain ⟨⟨a0, a1, a2, a3, a4⟩, a5, a6, a7, a8, a9⟩ := hd.ten
  clear hd
  unfold helCs at hW ⊢
  by_cases h1 : m.params.length ≤ 600
  · have h1i : (m.params.length : Int) ≤ 600 := by omega
    by_cases h2 : m.name.size ≤ 100
    · have h2i : (m.name.size : Int) ≤ 100 := by omega
      have HE := Lib.hid (HD.out.trans (decide_eq_true ⟨h1, h2⟩))
      clear h1 h2
      go_enter Tryd.func24, Tryd.ntmps24
      subst hW
      go_wp2_with fail
      go_ret
      exact ⟨by rw [HE.out]; rfl, HB.out⟩
    · have h2i : ¬ (m.name.size : Int) ≤ 100 := by omega
      have HE := Lib.hid (HD.out.trans (decide_eq_false fun k => h2 k.2))
      clear h1 h2
      go_enter Tryd.func24, Tryd.ntmps24
      subst hW
      go_wp2_with fail
      go_ret
      exact ⟨by rw [HE.out]; rfl, HB.out⟩
  · have h1i : ¬ (m.params.length : Int) ≤ 600 := by omega
    have HE := Lib.hid (HD.out.trans (decide_eq_false fun k => h1 k.1))
    clear h1
    go_enter Tryd.func24, Tryd.ntmps24
    subst hW
    go_wp2_with fail
    go_ret
    exact ⟨by rw [HE.out]; rfl, HB.out⟩
end Go.Proofs.YtbfgoojpbhlboaaDoor

/- Small functions of layers 13 and 14: flag, term, number, Message, and the law's same and light. No condition. -/
set_option linter.unusedVariables false
set_option linter.unusedSimpArgs false
namespace Go.Proofs.YtbfgoojpbhlboaaDoor
open Go Go.RowKit

set_option maxHeartbeats 800000 in
theorem rterm14_any (n : Int) (w : World) : Calls Tryd.prog 60 #[.int .i64 n] w fun e w' => e = .returned (.bool (decide (termOk n))) ∧ w' = w := by
  go_enter Tryd.func60, Tryd.ntmps60
  by_cases h1 : 1 ≤ n
  · by_cases h2 : n ≤ 65536
    · have HV := Lib.hid (show decide (termOk n) = true from decide_eq_true ⟨h1, h2⟩)
      go_wp2_with fail
      go_ret
      exact ⟨by rw [HV.out]; rfl, rfl⟩
    · have HV := Lib.hid (show decide (termOk n) = false from decide_eq_false fun k => h2 k.2)
      go_wp2_with fail
      go_ret
      exact ⟨by rw [HV.out]; rfl, rfl⟩
  · have HV := Lib.hid (show decide (termOk n) = false from decide_eq_false fun k => h1 k.1)
    go_wp2_with fail
    go_ret
    exact ⟨by rw [HV.out]; rfl, rfl⟩
set_option maxHeartbeats 800000 in
theorem number14_any (n : Int) (w : World) : Calls Tryd.prog 64 #[.int .i64 n] w fun e w' => e = .returned (.bool (decide (termOk n))) ∧ Below w.heap.size w w' := by
  have key := inumber_any n w
  obtain ⟨L, hL⟩ : ∃ L, L = numB n := ⟨_, rfl⟩
  rw [← hL] at key
  have HD : Hid (decide (termOk n) = decide (0 < L.length)) := by
    show _ = _
    rw [hL]
    by_cases h : 1 ≤ n ∧ n ≤ 65536
    · rw [decide_eq_true (show termOk n from h), numB_yes h.1 h.2]; rfl
    · rw [decide_eq_false (show ¬ termOk n from h), numB_no h]; rfl
  clear hL
  go_enter Tryd.func64, Tryd.ntmps64
  go_wp2_with fail
  refine key.mono ?_
  clear key
  rintro e w1 ⟨v, rfl, ho, hb⟩
  obtain ⟨A, c, rfl⟩ := ho.slice
  have HB := Lib.hid hb
  clear ho hb
  by_cases hl : 0 < L.length
  · have hli : (L.length : Int) > 0 := by omega
    have HE := Lib.hid (HD.out.trans (decide_eq_true hl))
    go_wp2_with fail
    go_ret
    exact ⟨by rw [HE.out]; rfl, HB.out⟩
  · have hli : ¬ ((L.length : Int) > 0) := by omega
    have HE := Lib.hid (HD.out.trans (decide_eq_false hl))
    go_wp2_with fail
    go_ret
    exact ⟨by rw [HE.out]; rfl, HB.out⟩
set_option maxHeartbeats 800000 in
theorem rflag14_any (b : Bool) (w : World) : Calls Tryd.prog 67 #[.bool b] w fun e w' => e = .returned (.int .u8 (if b then 1 else 0)) ∧ w' = w := by
  cases b with
  | true =>
    go_enter Tryd.func67, Tryd.ntmps67
    go_wp2_with fail
    go_ret
    exact ⟨rfl, rfl⟩
  | false =>
    go_enter Tryd.func67, Tryd.ntmps67
    go_wp2_with fail
    go_ret
    exact ⟨rfl, rfl⟩
set_option maxHeartbeats 800000 in
theorem flag14_any (b : Bool) (w : World) : Calls Tryd.prog 92 #[.bool b] w (BytesPost (flagB b) w) := by
  cases b with
  | true =>
    go_enter Tryd.func92, Tryd.ntmps92
    go_wp2_with fail
    go_ret
    exact ⟨_, rfl, OwnI.fresh (xs := [1]) (t := 5) (Nat.le_refl _) sp_u8 (by simp), below_new _⟩
  | false =>
    go_enter Tryd.func92, Tryd.ntmps92
    go_wp2_with fail
    go_ret
    exact ⟨_, rfl, OwnI.fresh (xs := [0]) (t := 5) (Nat.le_refl _) sp_u8 (by simp), below_new _⟩
theorem msgB_no {k : Int} {xs : List Int} (h : ¬ (0 ≤ k ∧ k ≤ 255 ∧ xs.length ≤ 2000)) : msgB k xs = [] := if_neg h
set_option maxHeartbeats 1600000 in
set_option maxRecDepth 100000 in
theorem rmessage_any {B : Nat} (k : Int) (A : Option Addr) (n c : Nat) (xs : List Int) (w : World) (h : Rds B w .u8 A n c xs) : Calls Tryd.prog 69 #[.int .i64 k, .slice A n c] w (BytesPost (msgB k xs) w) := by
  have hn := h.len
  have hcap := h.cap
  have hmax := h.max
  by_cases h1 : k < 0
  · rw [msgB_no (by omega)]
    clear h
    go_enter Tryd.func69, Tryd.ntmps69
    go_wp2_with fail
    go_ret
    exact BytesPost.nil (Below.refl _ _)
  by_cases h2 : k > 255
  · rw [msgB_no (by omega)]
    clear h
    go_enter Tryd.func69, Tryd.ntmps69
    go_wp2_with fail
    go_ret
    exact BytesPost.nil (Below.refl _ _)
  by_cases h3 : (n : Int) > 2000
  · rw [msgB_no (by omega)]
    clear h
    go_enter Tryd.func69, Tryd.ntmps69
    go_wp2_with fail
    go_ret
    exact BytesPost.nil (Below.refl _ _)
  have HM : Hid (msgB k xs = [k, (n : Int) / 65536, (n : Int) / 256 % 256, (n : Int) % 256] ++ xs) := by
    show _ = _
    unfold msgB
    rw [if_pos (by omega), hn]
  have HR : ∀ cs : Array Value, Hid (RdI (w.alloc (.cells cs 5)) .u8 A xs) := fun cs => (h.below (below_new _)).cell
  have HN := Lib.hid hn
  have hm0 : 0 ≤ (n : Int) := by omega
  have hm1 : (n : Int) ≤ 2000 := by omega
  have e1 : (n : Int) / 65536 % 256 = (n : Int) / 65536 := by omega
  have e2 : k % 256 = k := by omega
  have HE := Lib.hid (And.intro e1 e2)
  have HF : Hid (OwnI (w.alloc (.cells #[.int .u8 k, .int .u8 ((n : Int) / 65536), .int .u8 ((n : Int) / 256 % 256), .int .u8 ((n : Int) % 256)] 5)) w.heap.size .u8 (.slice (some ⟨w.heap.size, 0, none⟩) 4 4) [k, (n : Int) / 65536, (n : Int) / 256 % 256, (n : Int) % 256]) := OwnI.fresh (xs := [k, (n : Int) / 65536, (n : Int) / 256 % 256, (n : Int) % 256]) (t := 5) (Nat.le_refl _) sp_u8 (by simp)
  have hh1 : 0 ≤ k := by omega
  have hh2 : k ≤ 255 := by omega
  clear h hn e1 e2
  go_enter Tryd.func69, Tryd.ntmps69
  go_wp2_with (at_builtin; refine wp_app_u8 rfl _ _ rfl rfl rfl HF.out (HR _).out HN.out (by simp) (by simp; omega) ?_)
  intro v1 w1 hv hg hb
  have HV := Lib.hid hv
  have HB : Hid (Below w.heap.size w w1) := (below_new _).trans hb
  clear hv hg hb
  go_wp2_with fail
  go_ret
  exact ⟨_, rfl, by rw [HM.out]; exact HV.out, HB.out⟩
set_option maxHeartbeats 1600000 in
set_option maxRecDepth 100000 in
theorem message_any {B : Nat} (k : Int) (A : Option Addr) (n c : Nat) (xs : List Int) (w : World) (h : Rds B w .u8 A n c xs) : Calls Tryd.prog 58 #[.int .i64 k, .slice A n c] w (BytesPost (msgB k xs) w) := by
  have hn := h.len
  have hcap := h.cap
  have hmax := h.max
  by_cases h1 : k < 0
  · rw [msgB_no (by omega)]
    clear h
    go_enter Tryd.func58, Tryd.ntmps58
    go_wp2_with fail
    go_ret
    exact BytesPost.nil (Below.refl _ _)
  by_cases h2 : k > 255
  · rw [msgB_no (by omega)]
    clear h
    go_enter Tryd.func58, Tryd.ntmps58
    go_wp2_with fail
    go_ret
    exact BytesPost.nil (Below.refl _ _)
  by_cases h3 : (n : Int) > 2000
  · rw [msgB_no (by omega)]
    clear h
    go_enter Tryd.func58, Tryd.ntmps58
    go_wp2_with fail
    go_ret
    exact BytesPost.nil (Below.refl _ _)
  have hm0 : 0 ≤ (n : Int) := by omega
  have hm1 : (n : Int) ≤ 2000 := by omega
  have HM : Hid (msgB k xs = [[k, (n : Int) / 65536, (n : Int) / 256, (n : Int) % 256], xs].flatten) := by
    show _ = _
    unfold msgB
    rw [if_pos (by omega), hn, show (n : Int) / 256 % 256 = (n : Int) / 256 from by omega]
    simp
  obtain ⟨W1, hW1⟩ : ∃ W1, W1 = w.alloc (.cells #[.int .u8 k, .int .u8 ((n : Int) / 65536), .int .u8 ((n : Int) / 256), .int .u8 ((n : Int) % 256)] 5) := ⟨_, rfl⟩
  have hb1 : Below w.heap.size w W1 := by rw [hW1]; exact below_new _
  have hs1 : W1.heap.size = w.heap.size + 1 := by rw [hW1]; simp
  obtain ⟨W2, hW2⟩ : ∃ W2, W2 = W1.alloc (.cells #[.slice (some ⟨w.heap.size, 0, none⟩) 4 4, .slice A n c] 22) := ⟨_, rfl⟩
  have hb2 : Below W1.heap.size W1 W2 := by rw [hW2]; exact below_new _
  have HL : Hid (RdL B W2 W1.heap.size 0 [[k, (n : Int) / 65536, (n : Int) / 256, (n : Int) % 256], xs]) := by
    have hrow := heap_alloc_new W1 (.cells #[.slice (some ⟨w.heap.size, 0, none⟩) 4 4, .slice A n c] 22)
    rw [← hW2] at hrow
    refine ⟨lt_of_get hrow, fun i ys e => ?_⟩
    match i, e with
    | 0, e =>
      cases e
      refine ⟨some ⟨w.heap.size, 0, none⟩, 4, by rw [cell_of_row W2 _ _ _ _ _ hrow]; rfl, Rds.below ?_ hb2⟩
      rw [hW1]
      exact (OwnI.fresh (B := 0) (xs := [k, (n : Int) / 65536, (n : Int) / 256, (n : Int) % 256]) (t := 5) (Nat.zero_le _) sp_u8 (by simp)).rds
    | 1, e =>
      cases e
      rw [hn]
      exact ⟨A, c, by rw [cell_of_row W2 _ _ _ _ _ hrow]; rfl, (h.below hb1).below hb2⟩
    | i + 2, e => simp at e
  have key := concat_any W1.heap.size 0 2 2 [[k, (n : Int) / 65536, (n : Int) / 256, (n : Int) % 256], xs] W2 HL.out rfl (by omega) (by omega) (by simp; omega)
  rw [← HM.out] at key
  have HB2 : Hid (Below w.heap.size w W2) := below_next hb1 hb1.size hb2
  rw [hs1] at key
  have hh1 : 0 ≤ k := by omega
  have hh2 : k ≤ 255 := by omega
  clear h hn HM HL hb1 hb2 hs1
  go_enter Tryd.func58, Tryd.ntmps58
  go_wp2_with fail
  rw [← hW1, ← hW2]
  refine key.mono ?_
  clear key
  rintro e w3 ⟨v3, rfl, hv3, hb3⟩
  have HV := Lib.hid (hv3.mono HB2.out.size)
  have HB3 := Lib.hid (below_next HB2.out HB2.out.size hb3)
  clear hv3 hb3
  go_wp2_with fail
  go_ret
  exact ⟨_, rfl, HV.out, HB3.out⟩
end Go.Proofs.YtbfgoojpbhlboaaDoor
