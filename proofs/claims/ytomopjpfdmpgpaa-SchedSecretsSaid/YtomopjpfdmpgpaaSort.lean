/- What Sort does with two terms. No condition. -/
import Derived.Test.YtomopjpfdmpgpaaTerm3
import Derived.BigRegion
set_option linter.unusedVariables false
set_option linter.unusedSimpArgs false
namespace Go.Proofs.Ytomopjpfdmpgpaa
open Go Go.RowKit Go.WideMaps

set_option maxHeartbeats 400000 in
theorem nan_any (x : Int) (w : World) : Calls Try.prog 96 #[.int .i64 x] w fun e w' => e = .returned (.bool false) ∧ w = w' := by
  have h : (x != x) = false := by simp
  go_enter Try.func96, Try.ntmps96
  go_wp2_with fail
  go_ret
  exact ⟨rfl, rfl⟩
set_option maxHeartbeats 400000 in
theorem less_any (x y : Int) (w : World) : Calls Try.prog 80 #[.int .i64 x, .int .i64 y] w fun e w' => e = .returned (.bool (decide (x < y))) ∧ w' = w := by
  go_enter Try.func80, Try.ntmps80
  go_wp2_with (go_at_call 96; refine (nan_any _ _).mono ?_; rintro e w1 ⟨rfl, rfl⟩)
  all_goals (go_ret; exact ⟨rfl, rfl⟩)

def SortPost (B g cap : Nat) (a b : Int) (w : World) (e : Ending) (w' : World) : Prop := e = .returned (.tuple #[]) ∧ OwnI w' B .i64 (.slice (some ⟨g, 0, none⟩) 2 cap) (sort2 a b) ∧ Below B w w'
theorem sort_keep {B g cap : Nat} {a b : Int} {w w' : World} (h : ¬ b < a) (ho : OwnI w' B .i64 (.slice (some ⟨g, 0, none⟩) 2 cap) [a, b]) (hb : Below B w w') : SortPost B g cap a b w (.returned (.tuple #[])) w' := by
  refine ⟨rfl, ?_, hb⟩
  unfold sort2
  rw [if_neg h]
  exact ho
theorem sort_swap {B g cap : Nat} {a b : Int} {w w' : World} (h : b < a) (ho : OwnI w' B .i64 (.slice (some ⟨g, 0, none⟩) 2 cap) [b, a]) (hb : Below B w w') : SortPost B g cap a b w (.returned (.tuple #[])) w' := by
  refine ⟨rfl, ?_, hb⟩
  unfold sort2
  rw [if_pos h]
  exact ho

theorem own_swap {B g cap : Nat} {a b : Int} {w : World} (ho : OwnI w B .i64 (.slice (some ⟨g, 0, none⟩) 2 cap) [a, b]) : OwnI ((w.setCell ⟨g, 1, none⟩ (.int .i64 a)).setCell ⟨g, 0, none⟩ (.int .i64 b)) B .i64 (.slice (some ⟨g, 0, none⟩) 2 cap) [b, a] := by
  obtain ⟨g', cap', e, _, _, _, _, _, hset⟩ := ho.form (by simp)
  cases e
  have h1 := hset 1 a (by simp)
  obtain ⟨g', cap', e, _, _, _, _, _, hset⟩ := h1.form (by simp)
  cases e
  exact hset 0 b (by simp)
set_option maxHeartbeats 1600000 in
set_option maxRecDepth 100000 in
theorem insertion_two {B : Nat} (g cap : Nat) (a b : Int) (w : World) (ho : OwnI w B .i64 (.slice (some ⟨g, 0, none⟩) 2 cap) [a, b]) :
    Calls Try.prog 74 #[.slice (some ⟨g, 0, none⟩) 2 cap, .int .i64 0, .int .i64 2] w (SortPost B g cap a b w) := by
  obtain ⟨g', cap', e, hB, hg, hcap, hc, hf, hset⟩ := ho.form (by simp)
  cases e
  have c0 : w.cell? ⟨g, 0, none⟩ = some (.int .i64 a) := hc 0 (by simp)
  have c1 : w.cell? ⟨g, 1, none⟩ = some (.int .i64 b) := hc 1 (by simp)
  have f0 := hf 0
  have f1 := hf 1
  have HO := Lib.hid ho
  have HS := Lib.hid hset
  clear ho hc hf hset
  by_cases hlt : b < a
  · go_enter Try.func74, Try.ntmps74
    go_wp2_with fail
    refine wp_loop_rounds 2 ?_
    rw [rounds_succ]
    go_wp2_with fail
    refine wp_loop_rounds 2 ?_
    rw [rounds_succ]
    go_wp2_with fail
    go_quiet ((go_at_call 80; exact Calls.quiet_of_same (less_any _ _ _)))
    go_wp2_with fail
    go_region
    go_wp2_with fail
    rw [rounds_succ]
    go_wp2_with fail
    go_quiet (fail)
    go_wp2_with fail
    rw [rounds_succ]
    go_wp2_with fail
    go_end0
    exact sort_swap hlt ((own_swap (HO.out.below (below_drewN (Below.refl _ _) _))).below (below_drewN (Below.refl _ _) _)) (below_drewN (((below_drewN (Below.refl _ _) _).setCell hB _).setCell hB _) _)
  · go_enter Try.func74, Try.ntmps74
    go_wp2_with fail
    refine wp_loop_rounds 2 ?_
    rw [rounds_succ]
    go_wp2_with fail
    refine wp_loop_rounds 2 ?_
    rw [rounds_succ]
    go_wp2_with fail
    go_quiet ((go_at_call 80; exact Calls.quiet_of_same (less_any _ _ _)))
    go_wp2_with fail
    rw [rounds_succ]
    go_wp2_with fail
    go_end0
    exact sort_keep (by omega) (HO.out.below (below_drewN (Below.refl _ _) _)) (below_drewN (Below.refl _ _) _)

set_option maxHeartbeats 1600000 in
set_option maxRecDepth 100000 in
theorem pdq_two {B : Nat} (g cap : Nat) (a b lim : Int) (w : World) (ho : OwnI w B .i64 (.slice (some ⟨g, 0, none⟩) 2 cap) [a, b]) :
    Calls Try.prog 66 #[.slice (some ⟨g, 0, none⟩) 2 cap, .int .i64 0, .int .i64 2, .int .i64 lim] w (SortPost B g cap a b w) := by
  have HO := Lib.hid ho
  clear ho
  go_enter Try.func66, Try.ntmps66
  go_wp2_with fail
  refine wp_loop_rounds 1 ?_
  rw [rounds_succ]
  go_wp2_with fail
  refine (insertion_two g cap a b w HO.out).mono ?_
  rintro e w1 ⟨rfl, h1, h2⟩
  have H1 := Lib.hid h1
  have H2 := Lib.hid h2
  clear h1 h2
  go_wp2_with fail
  go_returns
  exact ⟨rfl, H1.out, H2.out⟩
set_option maxHeartbeats 1600000 in
set_option maxRecDepth 100000 in
theorem len_two (w : World) : Calls Try.prog 67 #[.int .u64 2] w fun e w' => (∃ r, e = .returned (.int .i64 r)) ∧ w = w' := by
  go_enter Try.func67, Try.ntmps67
  go_wp2
  go_ret
  exact ⟨⟨_, rfl⟩, rfl⟩
set_option maxHeartbeats 1600000 in
set_option maxRecDepth 100000 in
theorem sort_two {B : Nat} (g cap : Nat) (a b : Int) (w : World) (ho : OwnI w B .i64 (.slice (some ⟨g, 0, none⟩) 2 cap) [a, b]) :
    Calls Try.prog 51 #[.slice (some ⟨g, 0, none⟩) 2 cap] w (SortPost B g cap a b w) := by
  have HO := Lib.hid ho
  clear ho
  go_enter Try.func51, Try.ntmps51
  go_wp2_with fail
  refine (len_two w).mono ?_
  rintro e w1 ⟨⟨r, rfl⟩, rfl⟩
  go_wp2_with fail
  refine (pdq_two g cap a b _ w HO.out).mono ?_
  rintro e w1 ⟨rfl, h1, h2⟩
  have H1 := Lib.hid h1
  have H2 := Lib.hid h2
  clear h1 h2
  go_wp2_with fail
  go_end0
  exact ⟨rfl, H1.out, H2.out⟩
end Go.Proofs.Ytomopjpfdmpgpaa
