/- What formed does. No condition. -/
import Derived.Test.YtomopjpfdmpgpaaTerm3
set_option linter.unusedVariables false
set_option linter.unusedSimpArgs false
namespace Go.Proofs.Ytomopjpfdmpgpaa
open Go Go.RowKit Go.WideMaps

def FormPost (r : Bool) (w : World) (e : Ending) (w' : World) : Prop := e = .returned (.bool r) ∧ w = w'
theorem form_of {r r' : Bool} (h : r = r') (w : World) : FormPost r' w (.returned (.bool r)) w := ⟨by rw [h], rfl⟩

set_option maxHeartbeats 800000 in
set_option maxRecDepth 100000 in
theorem formed_3 {B : Nat} (A : Option Addr) (n c : Nat) (l : List Int) (w : World) (hr : Rds B w .i64 A n c l) : Calls Try.prog 49 #[.int .i64 3, .slice A n c] w (FormPost (formedT 3 l) w) := by
  have hl := Lib.hid hr.len
  clear hr
  by_cases h : n ≤ 16
  · have h' : decide ((n : Int) ≤ 16) = true := by simp; omega
    go_enter Try.func49, Try.ntmps49
    go_wp2_with fail
    go_ret
    exact form_of (by have := hl.out; simp [formedT]; omega) _
  · have h' : decide ((n : Int) ≤ 16) = false := by simp; omega
    go_enter Try.func49, Try.ntmps49
    go_wp2_with fail
    go_ret
    exact form_of (by have := hl.out; simp [formedT]; omega) _

set_option maxHeartbeats 800000 in
set_option maxRecDepth 100000 in
theorem formed_4 {B : Nat} (A : Option Addr) (n c : Nat) (l : List Int) (w : World) (hr : Rds B w .i64 A n c l) : Calls Try.prog 49 #[.int .i64 4, .slice A n c] w (FormPost (formedT 4 l) w) := by
  have hl := Lib.hid hr.len
  clear hr
  by_cases h : n = 1
  · have h' : ((n : Int) == 1) = true := by simp; omega
    have h2 := Lib.hid h; clear h
    go_enter Try.func49, Try.ntmps49
    go_wp2_with fail
    go_ret
    exact form_of (by have := hl.out; have := h2.out; simp [formedT]; omega) _
  · have h' : ((n : Int) == 1) = false := by simp; omega
    go_enter Try.func49, Try.ntmps49
    go_wp2_with fail
    go_ret
    exact form_of (by have := hl.out; simp [formedT]; omega) _

set_option maxHeartbeats 800000 in
set_option maxRecDepth 100000 in
theorem formed_5 {B : Nat} (A : Option Addr) (n c : Nat) (l : List Int) (w : World) (hr : Rds B w .i64 A n c l) : Calls Try.prog 49 #[.int .i64 5, .slice A n c] w (FormPost (formedT 5 l) w) := by
  have hl := Lib.hid hr.len
  clear hr
  by_cases h : n = 2
  · have h' : ((n : Int) == 2) = true := by simp; omega
    have h2 := Lib.hid h; clear h
    go_enter Try.func49, Try.ntmps49
    go_wp2_with fail
    go_ret
    exact form_of (by have := hl.out; have := h2.out; simp [formedT]; omega) _
  · have h' : ((n : Int) == 2) = false := by simp; omega
    go_enter Try.func49, Try.ntmps49
    go_wp2_with fail
    go_ret
    exact form_of (by have := hl.out; simp [formedT]; omega) _

set_option maxHeartbeats 800000 in
set_option maxRecDepth 100000 in
theorem formed_6 {B : Nat} (A : Option Addr) (n c : Nat) (l : List Int) (w : World) (hr : Rds B w .i64 A n c l) : Calls Try.prog 49 #[.int .i64 6, .slice A n c] w (FormPost (formedT 6 l) w) := by
  have hl := Lib.hid hr.len
  by_cases h : n = 3
  rotate_left
  · have h' : ((n : Int) == 3) = false := by simp; omega
    clear hr
    go_enter Try.func49, Try.ntmps49
    go_wp2_with fail
    go_ret
    exact form_of (by have := hl.out; simp [formedT]; omega) _
  subst h
  obtain ⟨b, o, rfl, hc⟩ := hr.cell.at_ (by have := hl.out; omega)
  have c1 := hc 1 (by have := hl.out; omega)
  clear hc hr
  by_cases x1 : nth l 1 = 1
  rotate_left
  · have y1 : (nth l 1 == 1) = false := by simp [x1]
    have x1 := Lib.hid x1
    go_enter Try.func49, Try.ntmps49
    go_wp2_with fail
    go_ret
    exact form_of (by have := hl.out; have := x1.out; simp [formedT]; omega) _
  have y1 : (nth l 1 == 1) = true := by simp [x1]
  have x1 := Lib.hid x1
  go_enter Try.func49, Try.ntmps49
  go_wp2_with fail
  go_ret
  exact form_of (by have := hl.out; simp [formedT, x1.out]; omega) _

set_option maxHeartbeats 800000 in
set_option maxRecDepth 100000 in
theorem formed_10 {B : Nat} (A : Option Addr) (n c : Nat) (l : List Int) (w : World) (hr : Rds B w .i64 A n c l) : Calls Try.prog 49 #[.int .i64 10, .slice A n c] w (FormPost (formedT 10 l) w) := by
  have hl := Lib.hid hr.len
  by_cases h : n = 3
  rotate_left
  · have h' : ((n : Int) == 3) = false := by simp; omega
    clear hr
    go_enter Try.func49, Try.ntmps49
    go_wp2_with fail
    go_ret
    exact form_of (by have := hl.out; simp [formedT]; omega) _
  subst h
  obtain ⟨b, o, rfl, hc⟩ := hr.cell.at_ (by have := hl.out; omega)
  have c1 := hc 1 (by have := hl.out; omega)
  clear hc hr
  by_cases x1 : nth l 1 = 1
  rotate_left
  · have y1 : (nth l 1 == 1) = false := by simp [x1]
    have x1 := Lib.hid x1
    go_enter Try.func49, Try.ntmps49
    go_wp2_with fail
    go_ret
    exact form_of (by have := hl.out; have := x1.out; simp [formedT]; omega) _
  have y1 : (nth l 1 == 1) = true := by simp [x1]
  have x1 := Lib.hid x1
  go_enter Try.func49, Try.ntmps49
  go_wp2_with fail
  go_ret
  exact form_of (by have := hl.out; simp [formedT, x1.out]; omega) _

set_option maxHeartbeats 800000 in
set_option maxRecDepth 100000 in
theorem formed_7 {B : Nat} (A : Option Addr) (n c : Nat) (l : List Int) (w : World) (hr : Rds B w .i64 A n c l) : Calls Try.prog 49 #[.int .i64 7, .slice A n c] w (FormPost (formedT 7 l) w) := by
  have hl := Lib.hid hr.len
  by_cases h : n = 1
  rotate_left
  · have h' : ((n : Int) == 1) = false := by simp; omega
    clear hr
    go_enter Try.func49, Try.ntmps49
    go_wp2_with fail
    go_ret
    exact form_of (by have := hl.out; simp [formedT]; omega) _
  subst h
  obtain ⟨b, o, rfl, hc⟩ := hr.cell.at_ (by have := hl.out; omega)
  have c0 := hc 0 (by have := hl.out; omega)
  clear hc hr
  simp only [Nat.add_zero] at *
  by_cases x0 : nth l 0 = 2
  rotate_left
  · have y0 : (nth l 0 == 2) = false := by simp [x0]
    have x0 := Lib.hid x0
    go_enter Try.func49, Try.ntmps49
    go_wp2_with fail
    go_ret
    exact form_of (by have := hl.out; have := x0.out; simp [formedT]; omega) _
  have y0 : (nth l 0 == 2) = true := by simp [x0]
  have x0 := Lib.hid x0
  go_enter Try.func49, Try.ntmps49
  go_wp2_with fail
  go_ret
  exact form_of (by have := hl.out; simp [formedT, x0.out]; omega) _

set_option maxHeartbeats 800000 in
set_option maxRecDepth 100000 in
theorem formed_8 {B : Nat} (A : Option Addr) (n c : Nat) (l : List Int) (w : World) (hr : Rds B w .i64 A n c l) : Calls Try.prog 49 #[.int .i64 8, .slice A n c] w (FormPost (formedT 8 l) w) := by
  have hl := Lib.hid hr.len
  by_cases h : n = 2
  rotate_left
  · have h' : ((n : Int) == 2) = false := by simp; omega
    clear hr
    go_enter Try.func49, Try.ntmps49
    go_wp2_with fail
    go_ret
    exact form_of (by have := hl.out; simp [formedT]; omega) _
  subst h
  obtain ⟨b, o, rfl, hc⟩ := hr.cell.at_ (by have := hl.out; omega)
  have c0 := hc 0 (by have := hl.out; omega)
  have c1 := hc 1 (by have := hl.out; omega)
  clear hc hr
  simp only [Nat.add_zero] at *
  by_cases x0 : nth l 0 = 2
  rotate_left
  · have y0 : (nth l 0 == 2) = false := by simp [x0]
    have x0 := Lib.hid x0
    go_enter Try.func49, Try.ntmps49
    go_wp2_with fail
    go_ret
    exact form_of (by have := hl.out; have := x0.out; simp [formedT]; omega) _
  have y0 : (nth l 0 == 2) = true := by simp [x0]
  have x0 := Lib.hid x0
  by_cases x1 : nth l 1 = 7
  rotate_left
  · have y1 : (nth l 1 == 7) = false := by simp [x1]
    have x1 := Lib.hid x1
    go_enter Try.func49, Try.ntmps49
    go_wp2_with fail
    go_ret
    exact form_of (by have := hl.out; have := x1.out; simp [formedT]; omega) _
  have y1 : (nth l 1 == 7) = true := by simp [x1]
  have x1 := Lib.hid x1
  go_enter Try.func49, Try.ntmps49
  go_wp2_with fail
  go_ret
  exact form_of (by have := hl.out; simp [formedT, x0.out, x1.out]; omega) _

set_option maxHeartbeats 800000 in
set_option maxRecDepth 100000 in
theorem formed_9 {B : Nat} (A : Option Addr) (n c : Nat) (l : List Int) (w : World) (hr : Rds B w .i64 A n c l) : Calls Try.prog 49 #[.int .i64 9, .slice A n c] w (FormPost (formedT 9 l) w) := by
  have hl := Lib.hid hr.len
  by_cases h : n = 2
  rotate_left
  · have h' : ((n : Int) == 2) = false := by simp; omega
    clear hr
    go_enter Try.func49, Try.ntmps49
    go_wp2_with fail
    go_ret
    exact form_of (by have := hl.out; simp [formedT]; omega) _
  subst h
  obtain ⟨b, o, rfl, hc⟩ := hr.cell.at_ (by have := hl.out; omega)
  have c0 := hc 0 (by have := hl.out; omega)
  clear hc hr
  simp only [Nat.add_zero] at *
  by_cases x0 : nth l 0 = 2
  rotate_left
  · have y0 : (nth l 0 == 2) = false := by simp [x0]
    have x0 := Lib.hid x0
    go_enter Try.func49, Try.ntmps49
    go_wp2_with fail
    go_ret
    exact form_of (by have := hl.out; have := x0.out; simp [formedT]; omega) _
  have y0 : (nth l 0 == 2) = true := by simp [x0]
  have x0 := Lib.hid x0
  go_enter Try.func49, Try.ntmps49
  go_wp2_with fail
  go_ret
  exact form_of (by have := hl.out; simp [formedT, x0.out]; omega) _

set_option maxHeartbeats 800000 in
set_option maxRecDepth 100000 in
theorem formed_no (k : Int) (A : Option Addr) (n c : Nat) (l : List Int) (w : World) (hk : ¬(3 ≤ k ∧ k ≤ 10)) : Calls Try.prog 49 #[.int .i64 k, .slice A n c] w (FormPost (formedT k l) w) := by
  have k3 : (k == 3) = false := by simp; omega
  have k4 : (k == 4) = false := by simp; omega
  have k5 : (k == 5) = false := by simp; omega
  have k6 : (k == 6) = false := by simp; omega
  have k7 : (k == 7) = false := by simp; omega
  have k8 : (k == 8) = false := by simp; omega
  have k9 : (k == 9) = false := by simp; omega
  have k10 : (k == 10) = false := by simp; omega
  have hf : Hid (formedT k l = false) := by
    show _ = _
    unfold formedT
    rw [if_neg (by omega), if_neg (by omega), if_neg (by omega), if_neg (by omega), if_neg (by omega), if_neg (by omega), if_neg (by omega)]
  clear hk
  go_enter Try.func49, Try.ntmps49
  go_wp2_with fail
  go_ret
  exact form_of hf.out.symm _

theorem formed_any {B : Nat} (k : Int) (A : Option Addr) (n c : Nat) (l : List Int) (w : World) (hr : Rds B w .i64 A n c l) : Calls Try.prog 49 #[.int .i64 k, .slice A n c] w (FormPost (formedT k l) w) := by
  by_cases hk : 3 ≤ k ∧ k ≤ 10
  rotate_left
  · exact formed_no k A n c l w hk
  have : k = 3 ∨ k = 4 ∨ k = 5 ∨ k = 6 ∨ k = 7 ∨ k = 8 ∨ k = 9 ∨ k = 10 := by omega
  rcases this with rfl | rfl | rfl | rfl | rfl | rfl | rfl | rfl
  · exact formed_3 A n c l w hr
  · exact formed_4 A n c l w hr
  · exact formed_5 A n c l w hr
  · exact formed_6 A n c l w hr
  · exact formed_7 A n c l w hr
  · exact formed_8 A n c l w hr
  · exact formed_9 A n c l w hr
  · exact formed_10 A n c l w hr
end Go.Proofs.Ytomopjpfdmpgpaa
