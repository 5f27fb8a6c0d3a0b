/- Own texts, one behind the other. Each bears its own remark. -/
import Derived.Test.YtmaedahleenlgaaDoorTerm3
import Derived.BigRegion
/- What formed does. No condition. -/
set_option linter.unusedVariables false
set_option linter.unusedSimpArgs false
namespace Go.Proofs.YtmaedahleenlgaaDoor
open Go Go.RowKit Go.WideMaps

def FormPost (r : Bool) (w : World) (e : Ending) (w' : World) : Prop := e = .returned (.bool r) ∧ w = w'
theorem form_of {r r' : Bool} (h : r = r') (w : World) : FormPost r' w (.returned (.bool r)) w := ⟨by rw [h], rfl⟩

set_option maxHeartbeats 800000 in
set_option maxRecDepth 100000 in
theorem formed_3 {B : Nat} (A : Option Addr) (n c : Nat) (l : List Int) (w : World) (hr : Rds B w .i64 A n c l) : Calls Tryd.prog 50 #[.int .i64 3, .slice A n c] w (FormPost (formedT 3 l) w) := by
  have hl := Lib.hid hr.len
  clear hr
  by_cases h : n ≤ 16
  · have h' : decide ((n : Int) ≤ 16) = true := by simp; omega
    go_enter Tryd.func50, Tryd.ntmps50
    go_wp2_with fail
    go_ret
    exact form_of (by have := hl.out; simp [formedT]; omega) _
  · have h' : decide ((n : Int) ≤ 16) = false := by simp; omega
    go_enter Tryd.func50, Tryd.ntmps50
    go_wp2_with fail
    go_ret
    exact form_of (by have := hl.out; simp [formedT]; omega) _

set_option maxHeartbeats 800000 in
set_option maxRecDepth 100000 in
theorem formed_4 {B : Nat} (A : Option Addr) (n c : Nat) (l : List Int) (w : World) (hr : Rds B w .i64 A n c l) : Calls Tryd.prog 50 #[.int .i64 4, .slice A n c] w (FormPost (formedT 4 l) w) := by
  have hl := Lib.hid hr.len
  clear hr
  by_cases h : n = 1
  · have h' : ((n : Int) == 1) = true := by simp; omega
    have h2 := Lib.hid h; clear h
    go_enter Tryd.func50, Tryd.ntmps50
    go_wp2_with fail
    go_ret
    exact form_of (by have := hl.out; have := h2.out; simp [formedT]; omega) _
  · have h' : ((n : Int) == 1) = false := by simp; omega
    go_enter Tryd.func50, Tryd.ntmps50
    go_wp2_with fail
    go_ret
    exact form_of (by have := hl.out; simp [formedT]; omega) _

set_option maxHeartbeats 800000 in
set_option maxRecDepth 100000 in
theorem formed_5 {B : Nat} (A : Option Addr) (n c : Nat) (l : List Int) (w : World) (hr : Rds B w .i64 A n c l) : Calls Tryd.prog 50 #[.int .i64 5, .slice A n c] w (FormPost (formedT 5 l) w) := by
  have hl := Lib.hid hr.len
  clear hr
  by_cases h : n = 2
  · have h' : ((n : Int) == 2) = true := by simp; omega
    have h2 := Lib.hid h; clear h
    go_enter Tryd.func50, Tryd.ntmps50
    go_wp2_with fail
    go_ret
    exact form_of (by have := hl.out; have := h2.out; simp [formedT]; omega) _
  · have h' : ((n : Int) == 2) = false := by simp; omega
    go_enter Tryd.func50, Tryd.ntmps50
    go_wp2_with fail
    go_ret
    exact form_of (by have := hl.out; simp [formedT]; omega) _

set_option maxHeartbeats 800000 in
set_option maxRecDepth 100000 in
theorem formed_6 {B : Nat} (A : Option Addr) (n c : Nat) (l : List Int) (w : World) (hr : Rds B w .i64 A n c l) : Calls Tryd.prog 50 #[.int .i64 6, .slice A n c] w (FormPost (formedT 6 l) w) := by
  have hl := Lib.hid hr.len
  by_cases h : n = 3
  rotate_left
  · have h' : ((n : Int) == 3) = false := by simp; omega
    clear hr
    go_enter Tryd.func50, Tryd.ntmps50
    go_wp2_with fail
    go_ret
    exact form_of (by have := hl.out; simp [formedT]; omega) _
  subst h
  obtain ⟨b, o, rfl, hc⟩ := hr.cell.at_ (by have := hl.out; omega)
  have c1 := hc 1 (by have := hl.out; omega)
  clear hc hr
  by_cases x1 : nth l 1 = 1
  rotate_left
  · have y1 : (nth l 1 == 1) = false := by simp [x1]
    have x1 := Lib.hid x1
    go_enter Tryd.func50, Tryd.ntmps50
    go_wp2_with fail
    go_ret
    exact form_of (by have := hl.out; have := x1.out; simp [formedT]; omega) _
  have y1 : (nth l 1 == 1) = true := by simp [x1]
  have x1 := Lib.hid x1
  go_enter Tryd.func50, Tryd.ntmps50
  go_wp2_with fail
  go_ret
  exact form_of (by have := hl.out; simp [formedT, x1.out]; omega) _

set_option maxHeartbeats 800000 in
set_option maxRecDepth 100000 in
theorem formed_10 {B : Nat} (A : Option Addr) (n c : Nat) (l : List Int) (w : World) (hr : Rds B w .i64 A n c l) : Calls Tryd.prog 50 #[.int .i64 10, .slice A n c] w (FormPost (formedT 10 l) w) := by
  have hl := Lib.hid hr.len
  by_cases h : n = 3
  rotate_left
  · have h' : ((n : Int) == 3) = false := by simp; omega
    clear hr
    go_enter Tryd.func50, Tryd.ntmps50
    go_wp2_with fail
    go_ret
    exact form_of (by have := hl.out; simp [formedT]; omega) _
  subst h
  obtain ⟨b, o, rfl, hc⟩ := hr.cell.at_ (by have := hl.out; omega)
  have c1 := hc 1 (by have := hl.out; omega)
  clear hc hr
  by_cases x1 : nth l 1 = 1
  rotate_left
  · have y1 : (nth l 1 == 1) = false := by simp [x1]
    have x1 := Lib.hid x1
    go_enter Tryd.func50, Tryd.ntmps50
    go_wp2_with fail
    go_ret
    exact form_of (by have := hl.out; have := x1.out; simp [formedT]; omega) _
  have y1 : (nth l 1 == 1) = true := by simp [x1]
  have x1 := Lib.hid x1
  go_enter Tryd.func50, Tryd.ntmps50
  go_wp2_with fail
  go_ret
  exact form_of (by have := hl.out; simp [formedT, x1.out]; omega) _

set_option maxHeartbeats 800000 in
set_option maxRecDepth 100000 in
theorem formed_7 {B : Nat} (A : Option Addr) (n c : Nat) (l : List Int) (w : World) (hr : Rds B w .i64 A n c l) : Calls Tryd.prog 50 #[.int .i64 7, .slice A n c] w (FormPost (formedT 7 l) w) := by
  have hl := Lib.hid hr.len
  by_cases h : n = 1
  rotate_left
  · have h' : ((n : Int) == 1) = false := by simp; omega
    clear hr
    go_enter Tryd.func50, Tryd.ntmps50
    go_wp2_with fail
    go_ret
    exact form_of (by have := hl.out; simp [formedT]; omega) _
  subst h
  obtain ⟨b, o, rfl, hc⟩ := hr.cell.at_ (by have := hl.out; omega)
  have c0 := hc 0 (by have := hl.out; omega)
  clear hc hr
  simp only [Nat.add_zero] at *
  by_cases x0 : nth l 0 = 2
  rotate_left
  · have y0 : (nth l 0 == 2) = false := by simp [x0]
    have x0 := Lib.hid x0
    go_enter Tryd.func50, Tryd.ntmps50
    go_wp2_with fail
    go_ret
    exact form_of (by have := hl.out; have := x0.out; simp [formedT]; omega) _
  have y0 : (nth l 0 == 2) = true := by simp [x0]
  have x0 := Lib.hid x0
  go_enter Tryd.func50, Tryd.ntmps50
  go_wp2_with fail
  go_ret
  exact form_of (by have := hl.out; simp [formedT, x0.out]; omega) _

set_option maxHeartbeats 800000 in
set_option maxRecDepth 100000 in
theorem formed_8 {B : Nat} (A : Option Addr) (n c : Nat) (l : List Int) (w : World) (hr : Rds B w .i64 A n c l) : Calls Tryd.prog 50 #[.int .i64 8, .slice A n c] w (FormPost (formedT 8 l) w) := by
  have hl := Lib.hid hr.len
  by_cases h : n = 2
  rotate_left
  · have h' : ((n : Int) == 2) = false := by simp; omega
    clear hr
    go_enter Tryd.func50, Tryd.ntmps50
    go_wp2_with fail
    go_ret
    exact form_of (by have := hl.out; simp [formedT]; omega) _
  subst h
  obtain ⟨b, o, rfl, hc⟩ := hr.cell.at_ (by have := hl.out; omega)
  have c0 := hc 0 (by have := hl.out; omega)
  have c1 := hc 1 (by have := hl.out; omega)
  clear hc hr
  simp only [Nat.add_zero] at *
  by_cases x0 : nth l 0 = 2
  rotate_left
  · have y0 : (nth l 0 == 2) = false := by simp [x0]
    have x0 := Lib.hid x0
    go_enter Tryd.func50, Tryd.ntmps50
    go_wp2_with fail
    go_ret
    exact form_of (by have := hl.out; have := x0.out; simp [formedT]; omega) _
  have y0 : (nth l 0 == 2) = true := by simp [x0]
  have x0 := Lib.hid x0
  by_cases x1 : nth l 1 = 7
  rotate_left
  · have y1 : (nth l 1 == 7) = false := by simp [x1]
    have x1 := Lib.hid x1
    go_enter Tryd.func50, Tryd.ntmps50
    go_wp2_with fail
    go_ret
    exact form_of (by have := hl.out; have := x1.out; simp [formedT]; omega) _
  have y1 : (nth l 1 == 7) = true := by simp [x1]
  have x1 := Lib.hid x1
  go_enter Tryd.func50, Tryd.ntmps50
  go_wp2_with fail
  go_ret
  exact form_of (by have := hl.out; simp [formedT, x0.out, x1.out]; omega) _

set_option maxHeartbeats 800000 in
set_option maxRecDepth 100000 in
theorem formed_9 {B : Nat} (A : Option Addr) (n c : Nat) (l : List Int) (w : World) (hr : Rds B w .i64 A n c l) : Calls Tryd.prog 50 #[.int .i64 9, .slice A n c] w (FormPost (formedT 9 l) w) := by
  have hl := Lib.hid hr.len
  by_cases h : n = 2
  rotate_left
  · have h' : ((n : Int) == 2) = false := by simp; omega
    clear hr
    go_enter Tryd.func50, Tryd.ntmps50
    go_wp2_with fail
    go_ret
    exact form_of (by have := hl.out; simp [formedT]; omega) _
  subst h
  obtain ⟨b, o, rfl, hc⟩ := hr.cell.at_ (by have := hl.out; omega)
  have c0 := hc 0 (by have := hl.out; omega)
  clear hc hr
  simp only [Nat.add_zero] at *
  by_cases x0 : nth l 0 = 2
  rotate_left
  · have y0 : (nth l 0 == 2) = false := by simp [x0]
    have x0 := Lib.hid x0
    go_enter Tryd.func50, Tryd.ntmps50
    go_wp2_with fail
    go_ret
    exact form_of (by have := hl.out; have := x0.out; simp [formedT]; omega) _
  have y0 : (nth l 0 == 2) = true := by simp [x0]
  have x0 := Lib.hid x0
  go_enter Tryd.func50, Tryd.ntmps50
  go_wp2_with fail
  go_ret
  exact form_of (by have := hl.out; simp [formedT, x0.out]; omega) _

set_option maxHeartbeats 800000 in
set_option maxRecDepth 100000 in
theorem formed_no (k : Int) (A : Option Addr) (n c : Nat) (l : List Int) (w : World) (hk : ¬(3 ≤ k ∧ k ≤ 10)) : Calls Tryd.prog 50 #[.int .i64 k, .slice A n c] w (FormPost (formedT k l) w) := by
  have k3 : (k == 3) = false := by simp; omega
  have k4 : (k == 4) = false := by simp; omega
  have k5 : (k == 5) = false := by simp; omega
  have k6 : (k == 6) = false := by simp; omega
  have k7 : (k == 7) = false := by simp; omega
  have k8 : (k == 8) = false := by simp; omega
  have k9 : (k == 9) = false := by simp; omega
  have k10 : (k == 10) = false := by simp; omega
  have hf : Hid (formedT k l = false) := by
    show _ = _
    unfold formedT
    rw [if_neg (by omega), if_neg (by omega), if_neg (by omega), if_neg (by omega), if_neg (by omega), if_neg (by omega), if_neg (by omega)]
  clear hk
  go_enter Tryd.func50, Tryd.ntmps50
  go_wp2_with fail
  go_ret
  exact form_of hf.out.symm _

theorem formed_any {B : Nat} (k : Int) (A : Option Addr) (n c : Nat) (l : List Int) (w : World) (hr : Rds B w .i64 A n c l) : Calls Tryd.prog 50 #[.int .i64 k, .slice A n c] w (FormPost (formedT k l) w) := by
  by_cases hk : 3 ≤ k ∧ k ≤ 10
  rotate_left
  · exact formed_no k A n c l w hk
  have : k = 3 ∨ k = 4 ∨ k = 5 ∨ k = 6 ∨ k = 7 ∨ k = 8 ∨ k = 9 ∨ k = 10 := by omega
  rcases this with rfl | rfl | rfl | rfl | rfl | rfl | rfl | rfl
  · exact formed_3 A n c l w hr
  · exact formed_4 A n c l w hr
  · exact formed_5 A n c l w hr
  · exact formed_6 A n c l w hr
  · exact formed_7 A n c l w hr
  · exact formed_8 A n c l w hr
  · exact formed_9 A n c l w hr
  · exact formed_10 A n c l w hr
end Go.Proofs.YtmaedahleenlgaaDoor

/- What Sort does with two terms. No condition. -/
set_option linter.unusedVariables false
set_option linter.unusedSimpArgs false
namespace Go.Proofs.YtmaedahleenlgaaDoor
open Go Go.RowKit Go.WideMaps

set_option maxHeartbeats 400000 in
theorem nan_any (x : Int) (w : World) : Calls Tryd.prog 85 #[.int .i64 x] w fun e w' => e = .returned (.bool false) ∧ w = w' := by
  have h : (x != x) = false := by simp
  go_enter Tryd.func85, Tryd.ntmps85
  go_wp2_with fail
  go_ret
  exact ⟨rfl, rfl⟩
set_option maxHeartbeats 400000 in
theorem less_any (x y : Int) (w : World) : Calls Tryd.prog 74 #[.int .i64 x, .int .i64 y] w fun e w' => e = .returned (.bool (decide (x < y))) ∧ w' = w := by
  go_enter Tryd.func74, Tryd.ntmps74
  go_wp2_with (go_at_call 85; refine (nan_any _ _).mono ?_; rintro e w1 ⟨rfl, rfl⟩)
  all_goals (go_ret; exact ⟨rfl, rfl⟩)

def SortPost (B g cap : Nat) (a b : Int) (w : World) (e : Ending) (w' : World) : Prop := e = .returned (.tuple #[]) ∧ OwnI w' B .i64 (.slice (some ⟨g, 0, none⟩) 2 cap) (sort2 a b) ∧ Below B w w'
theorem sort_keep {B g cap : Nat} {a b : Int} {w w' : World} (h : ¬ b < a) (ho : OwnI w' B .i64 (.slice (some ⟨g, 0, none⟩) 2 cap) [a, b]) (hb : Below B w w') : SortPost B g cap a b w (.returned (.tuple #[])) w' := by
  refine ⟨rfl, ?_, hb⟩
  unfold sort2
  rw [if_neg h]
  exact ho
theorem sort_swap {B g cap : Nat} {a b : Int} {w w' : World} (h : b < a) (ho : OwnI w' B .i64 (.slice (some ⟨g, 0, none⟩) 2 cap) [b, a]) (hb : Below B w w') : SortPost B g cap a b w (.returned (.tuple #[])) w' := by
  refine ⟨rfl, ?_, hb⟩
  unfold sort2
  rw [if_pos h]
  exact ho

theorem own_swap {B g cap : Nat} {a b : Int} {w : World} (ho : OwnI w B .i64 (.slice (some ⟨g, 0, none⟩) 2 cap) [a, b]) : OwnI ((w.setCell ⟨g, 1, none⟩ (.int .i64 a)).setCell ⟨g, 0, none⟩ (.int .i64 b)) B .i64 (.slice (some ⟨g, 0, none⟩) 2 cap) [b, a] := by
  obtain ⟨g', cap', e, _, _, _, _, _, hset⟩ := ho.form (by simp)
  cases e
  have h1 := hset 1 a (by simp)
  obtain ⟨g', cap', e, _, _, _, _, _, hset⟩ := h1.form (by simp)
  cases e
  exact hset 0 b (by simp)
set_option maxHeartbeats 1600000 in
set_option maxRecDepth 100000 in
theorem insertion_two {B : Nat} (g cap : Nat) (a b : Int) (w : World) (ho : OwnI w B .i64 (.slice (some ⟨g, 0, none⟩) 2 cap) [a, b]) :
    Calls Tryd.prog 68 #[.slice (some ⟨g, 0, none⟩) 2 cap, .int .i64 0, .int .i64 2] w (SortPost B g cap a b w) := by
  obtain ⟨g', cap', e, hB, hg, hcap, hc, hf, hset⟩ := ho.form (by simp)
  cases e
  have c0 : w.cell? ⟨g, 0, none⟩ = some (.int .i64 a) := hc 0 (by simp)
  have c1 : w.cell? ⟨g, 1, none⟩ = some (.int .i64 b) := hc 1 (by simp)
  have f0 := hf 0
  have f1 := hf 1
  have HO := Lib.hid ho
  have HS := Lib.hid hset
  clear ho hc hf hset
  by_cases hlt : b < a
  · go_enter Tryd.func68, Tryd.ntmps68
    go_wp2_with fail
    refine wp_loop_rounds 2 ?_
    rw [rounds_succ]
    go_wp2_with fail
    refine wp_loop_rounds 2 ?_
    rw [rounds_succ]
    go_wp2_with fail
    go_quiet ((go_at_call 74; exact Calls.quiet_of_same (less_any _ _ _)))
    go_wp2_with fail
    go_region
    go_wp2_with fail
    rw [rounds_succ]
    go_wp2_with fail
    go_quiet (fail)
    go_wp2_with fail
    rw [rounds_succ]
    go_wp2_with fail
    go_end0
    exact sort_swap hlt ((own_swap (HO.out.below (below_drewN (Below.refl _ _) _))).below (below_drewN (Below.refl _ _) _)) (below_drewN (((below_drewN (Below.refl _ _) _).setCell hB _).setCell hB _) _)
  · go_enter Tryd.func68, Tryd.ntmps68
    go_wp2_with fail
    refine wp_loop_rounds 2 ?_
    rw [rounds_succ]
    go_wp2_with fail
    refine wp_loop_rounds 2 ?_
    rw [rounds_succ]
    go_wp2_with fail
    go_quiet ((go_at_call 74; exact Calls.quiet_of_same (less_any _ _ _)))
    go_wp2_with fail
    rw [rounds_succ]
    go_wp2_with fail
    go_end0
    exact sort_keep (by omega) (HO.out.below (below_drewN (Below.refl _ _) _)) (below_drewN (Below.refl _ _) _)

set_option maxHeartbeats 1600000 in
set_option maxRecDepth 100000 in
theorem pdq_two {B : Nat} (g cap : Nat) (a b lim : Int) (w : World) (ho : OwnI w B .i64 (.slice (some ⟨g, 0, none⟩) 2 cap) [a, b]) :
    Calls Tryd.prog 58 #[.slice (some ⟨g, 0, none⟩) 2 cap, .int .i64 0, .int .i64 2, .int .i64 lim] w (SortPost B g cap a b w) := by
  have HO := Lib.hid ho
  clear ho
  go_enter Tryd.func58, Tryd.ntmps58
  go_wp2_with fail
  refine wp_loop_rounds 1 ?_
  rw [rounds_succ]
  go_wp2_with fail
  refine (insertion_two g cap a b w HO.out).mono ?_
  rintro e w1 ⟨rfl, h1, h2⟩
  have H1 := Lib.hid h1
  have H2 := Lib.hid h2
  clear h1 h2
  go_wp2_with fail
  go_returns
  exact ⟨rfl, H1.out, H2.out⟩
set_option maxHeartbeats 1600000 in
set_option maxRecDepth 100000 in
theorem len_two (w : World) : Calls Tryd.prog 59 #[.int .u64 2] w fun e w' => (∃ r, e = .returned (.int .i64 r)) ∧ w = w' := by
  go_enter Tryd.func59, Tryd.ntmps59
  go_wp2
  go_ret
  exact ⟨⟨_, rfl⟩, rfl⟩
set_option maxHeartbeats 1600000 in
set_option maxRecDepth 100000 in
theorem sort_two {B : Nat} (g cap : Nat) (a b : Int) (w : World) (ho : OwnI w B .i64 (.slice (some ⟨g, 0, none⟩) 2 cap) [a, b]) :
    Calls Tryd.prog 51 #[.slice (some ⟨g, 0, none⟩) 2 cap] w (SortPost B g cap a b w) := by
  have HO := Lib.hid ho
  clear ho
  go_enter Tryd.func51, Tryd.ntmps51
  go_wp2_with fail
  refine (len_two w).mono ?_
  rintro e w1 ⟨⟨r, rfl⟩, rfl⟩
  go_wp2_with fail
  refine (pdq_two g cap a b _ w HO.out).mono ?_
  rintro e w1 ⟨rfl, h1, h2⟩
  have H1 := Lib.hid h1
  have H2 := Lib.hid h2
  clear h1 h2
  go_wp2_with fail
  go_end0
  exact ⟨rfl, H1.out, H2.out⟩
end Go.Proofs.YtmaedahleenlgaaDoor
