/- is, Rows and derived of law 15. -/
import Derived.Test.YtbcicfgffjgpdaaSchedAsks
set_option linter.unusedVariables false
set_option linter.unusedSimpArgs false
namespace Go.Proofs.Ytbcicfgffjgpdaa
open Go Go.RowKit Go.WideMaps

def isT (T : List Nd) (h kind : Int) (xs : List Int) : Bool := match getT T h with | some n => decide (n.kind = kind ∧ n.parts = xs) | none => false
theorem isT_at {T : List Nd} {h kind : Int} {n : Nd} (e : getT T h = some n) (xs : List Int) : isT T h kind xs = decide (n.kind = kind ∧ n.parts = xs) := by unfold isT; rw [e]
theorem take_next {a b : List Int} {n i : Nat} (ha : a.length = n) (hb : b.length = n) (hi : i < n) (h : a.take i = b.take i) (e : nth a i = nth b i) : a.take (i + 1) = b.take (i + 1) := by
  rw [take_nth_succ (by omega), take_nth_succ (by omega), h, e]
theorem take_full {a b : List Int} {n : Nat} (ha : a.length = n) (hb : b.length = n) (h : a.take n = b.take n) : a = b := by
  rwa [List.take_of_length_le (by omega), List.take_of_length_le (by omega)] at h

set_option maxHeartbeats 1600000 in
set_option maxRecDepth 100000 in
theorem is_any {B B' tb : Nat} {T : List Nd} (h kind : Int) (A : Option Addr) (n c : Nat) (xs : List Int) (w : World) (ht : IsTab B w tb T) (hf : Fit h) (hr : Rds B' w .i64 A n c xs) :
    Calls Try.prog 30 #[.pointer (some ⟨tb, 0, none⟩), .int .i64 h, .int .i64 kind, .slice A n c] w (MacedPost (isT T h kind xs) w) := by
  have key := look_any h w ht hf.1 hf.2
  have HW := Lib.hid ht.1
  have HR := Lib.hid hr
  have hlen := hr.len
  have HL := Lib.hid hlen
  clear ht hr hf hlen
  go_enter Try.func30, Try.ntmps30
  go_wp2_with fail
  refine key.mono ?_
  clear key
  rintro e w1 ⟨A1, c1, rfl, ho1, hb1⟩
  have hs1 := hb1.size
  have HB1 := Lib.hid hb1
  cases hg : getT T h with
  | none =>
    have HE : Hid (isT T h kind xs = false) := by show _ = _; unfold isT; rw [hg]
    rw [show nodeT T h = ⟨0, ByteArray.empty, []⟩ from by unfold nodeT; rw [hg]; rfl] at ho1 ⊢
    clear ho1 hb1 hg
    go_wp2_with fail
    go_returns
    rw [HE.out]
    exact ⟨rfl, HB1.out.alloc hs1 _⟩
  | some nd =>
    rw [show nodeT T h = nd from by unfold nodeT; rw [hg]; rfl] at ho1 ⊢
    have HG := Lib.hid (HW.out.get hg)
    have HE0 := Lib.hid (isT_at (kind := kind) hg xs)
    by_cases hk : nd.kind = kind
    rotate_left
    · have HE : Hid (isT T h kind xs = false) := by show _ = _; rw [HE0.out, decide_eq_false (fun h => hk h.1)]
      have hkb : (nd.kind == kind) = false := by simp [hk]
      clear ho1 hb1 hg hk
      go_wp2_with fail
      go_returns
      rw [HE.out]
      exact ⟨rfl, HB1.out.alloc hs1 _⟩
    have hkb : (nd.kind == kind) = true := by simp [hk]
    have HK := Lib.hid hk
    by_cases hl : nd.parts.length = n
    rotate_left
    · have HE : Hid (isT T h kind xs = false) := by show _ = _; rw [HE0.out, decide_eq_false (fun h => hl (by rw [h.2]; exact HL.out))]
      have hlb : ((nd.parts.length : Int) == (n : Int)) = false := by simp; omega
      clear ho1 hb1 hg hk hl
      go_wp2_with fail
      go_returns
      rw [HE.out]
      exact ⟨rfl, HB1.out.alloc hs1 _⟩
    have HN := Lib.hid hl
    have hn16 : n ≤ 16 := by have := HG.out.many; omega
    rw [hl] at ho1 ⊢
    have HP1 := Lib.hid (ho1.rds (B' := 0))
    have HR1 := Lib.hid (HR.out.below hb1)
    clear ho1 hb1 hg hk hl
    go_wp2_with fail
    go_loopw [11] (fun v11 wr => ∃ i : Nat, i ≤ n ∧ v11 = .int .i64 i ∧ wr.cell? ⟨w1.heap.size, 2, none⟩ = some (.slice A1 n c1) ∧ Rds 0 wr .i64 A1 n c1 nd.parts ∧ Rds B' wr .i64 A n c xs ∧ Below w.heap.size w wr ∧ nd.parts.take i = xs.take i) (fun v11 _ => n - (intOf v11).toNat)
    case atStart => exact ⟨0, Nat.zero_le _, rfl, by simp [go_sem], HP1.out.below (below_new _), HR1.out.below (below_new _), HB1.out.alloc hs1 _, by simp⟩
    case round =>
      obtain ⟨i, hi, rfl, hc, hp, hx, hb, he⟩ := hrel
      have HP := Lib.hid hp
      have HX := Lib.hid hx
      have HB := Lib.hid hb
      have HQ := Lib.hid he
      clear hp hx hb he HP1 HR1
      by_cases hin : i < n
      · obtain ⟨b, o, rfl, hcx⟩ := RdI.at_ HX.out.cell (by rw [HL.out]; omega)
        obtain ⟨b1, o1, rfl, hcp⟩ := RdI.at_ HP.out.cell (by rw [HN.out]; omega)
        have g0 := hcx i (by rw [HL.out]; exact hin)
        have g1 := hcp i (by rw [HN.out]; exact hin)
        have hi0 : (0 : Int) ≤ (i : Int) := by omega
        have hi1 : (i : Int) < (n : Int) := by omega
        obtain ⟨y, hy⟩ : ∃ y, y = nth xs i := ⟨_, rfl⟩
        obtain ⟨z, hz⟩ : ∃ z, z = nth nd.parts i := ⟨_, rfl⟩
        rw [← hy] at g0
        rw [← hz] at g1
        have HY := Lib.hid hy
        have HZ := Lib.hid hz
        clear hcx hcp hy hz
        by_cases hne : z = y
        · have hnb : (z == y) = true := by simp [hne]
          have HQ2 : Hid (nd.parts.take (i + 1) = xs.take (i + 1)) := take_next HN.out HL.out hin HQ.out (by rw [← HZ.out, ← HY.out]; exact hne)
          clear hne
          go_wp2
          go_quiet (fail)
          go_wp2
          go_roundw
          case rel => exact ⟨i + 1, by omega, by go_num, by simpa using hc, HP.out.drewN _, HX.out.drewN _, below_drewN HB.out _, HQ2.out⟩
          case measure => simp [intOf]; omega
        · have hnb : (z == y) = false := by simp [hne]
          have HE : Hid (isT T h kind xs = false) := by show _ = _; rw [HE0.out, decide_eq_false (fun h => hne (by rw [HZ.out, HY.out, h.2]))]
          clear hne
          go_wp2
          go_quiet (fail)
          go_wp2
          go_ret
          rw [HE.out]
          exact ⟨rfl, below_drewN HB.out _⟩
      · obtain rfl : i = n := by omega
        have HE : Hid (isT T h kind xs = true) := by show _ = _; rw [HE0.out, decide_eq_true ⟨HK.out, take_full HN.out HL.out HQ.out⟩]
        go_wp2_with fail
        go_ret
        rw [HE.out]
        exact ⟨rfl, HB.out⟩
end Go.Proofs.Ytbcicfgffjgpdaa
