/- Own texts, one behind the other. Each bears its own remark. -/
import Derived.Test.YtbfgoojpbhlboaaDoorBase
import Derived.Test.YtbfgoojpbhlboaaDoorPureIdeal
/- What the functions of layer 4 without a table return: Number, Numbered, Wrap, Unwrap, and the references'. No condition. -/
set_option linter.unusedVariables false
set_option linter.unusedSimpArgs false
namespace Go.Proofs.YtbfgoojpbhlboaaDoor
open Go Go.RowKit

set_option maxHeartbeats 400000 in
theorem number_no (h : Int) (w : World) (h0 : ¬(1 ≤ h ∧ h ≤ 65536)) : Calls Tryd.prog 91 #[.int .i64 h] w fun e w' => e = .returned (.slice none 0 0) ∧ w = w' := by
  by_cases h1 : h < 1
  · go_enter Tryd.func91, Tryd.ntmps91
    go_wp2
    go_ret
    exact ⟨rfl, rfl⟩
  · have h2 : 65536 < h := by omega
    go_enter Tryd.func91, Tryd.ntmps91
    go_wp2
    go_ret
    exact ⟨rfl, rfl⟩

def NumPost (h : Int) (w : World) (e : Ending) (w' : World) : Prop := ∃ v, e = .returned v ∧ v = .slice (some ⟨w.heap.size, 0, none⟩) 4 4 ∧ w' = w.alloc (.cells ((numB h).map (Value.int .u8)).toArray 131)

set_option maxHeartbeats 800000 in
theorem number_yes (h : Int) (w : World) (h0 : 1 ≤ h) (h1 : h ≤ 65536) : Calls Tryd.prog 91 #[.int .i64 h] w (NumPost h w) := by
  have H := Lib.hid (numB_yes h0 h1)
  have H2 := Lib.hid (show h / 16777216 = 0 by omega)
  go_enter Tryd.func91, Tryd.ntmps91
  go_wp2
  refine wp_loop_rounds 5 ?_
  rw [rounds_succ]
  go_wp2
  rw [rounds_succ]
  go_wp2
  rw [rounds_succ]
  go_wp2
  rw [rounds_succ]
  go_wp2
  rw [rounds_succ]
  go_wp2
  go_ret
  exact ⟨_, rfl, rfl, by rw [H.out, H2.out]; rfl⟩

theorem inumber_any (h : Int) (w : World) : Calls Tryd.prog 91 #[.int .i64 h] w fun e w' => ∃ v, e = .returned v ∧ OwnI w' w.heap.size .u8 v (numB h) ∧ Below w.heap.size w w' := by
  by_cases hh : 1 ≤ h ∧ h ≤ 65536
  · refine (number_yes h w hh.1 hh.2).mono ?_
    rintro e w' ⟨v, rfl, rfl, rfl⟩
    have := OwnI.fresh (w := w) (B := w.heap.size) (k := .u8) (xs := numB h) (t := 131) (Nat.le_refl _) (by decide) (by rw [numB_yes hh.1 hh.2]; simp)
    rw [numB_yes hh.1 hh.2] at this ⊢
    exact ⟨_, rfl, this, below_new _⟩
  · refine (number_no h w hh).mono ?_
    rintro e w' ⟨rfl, rfl⟩
    rw [numB_no hh]
    exact ⟨_, rfl, OwnI.nil _ _ _, Below.refl _ _⟩

set_option maxHeartbeats 400000 in
theorem numbered_len (A : Option Addr) (n c : Nat) (w : World) (hn : n ≠ 4) : Calls Tryd.prog 120 #[.slice A n c] w fun e w' => e = .returned (.tuple #[.int .i64 0, .bool false]) ∧ w = w' := by
  go_enter Tryd.func120, Tryd.ntmps120
  go_wp2
  go_ret2
  exact ⟨rfl, rfl⟩


theorem size_u8 : (Tryd.prog.info? 5).map (·.size) = some 1 := by kernel_rfl
def NumdPost (xs : List Int) (w : World) (e : Ending) (w' : World) : Prop := e = .returned (.tuple #[.int .i64 (numOf xs), .bool (numOf xs != 0)]) ∧ Below w.heap.size w w'
theorem numd_of {r : Int} {xs : List Int} {b : Bool} (h : r = numOf xs) (hb : b = (r != 0)) {w w' : World} (hw : Below w.heap.size w w') : NumdPost xs w (.returned (.tuple #[.int .i64 r, .bool b])) w' := by
  subst h; subst hb; exact ⟨rfl, hw⟩
theorem numB_len (h : Int) : (numB h).length = if 1 ≤ h ∧ h ≤ 65536 then 4 else 0 := by unfold numB; split <;> rfl
set_option maxHeartbeats 1600000 in
theorem numbered_four (b o c : Nat) (x0 x1 x2 x3 : Int) (w : World) (h0 : 0 ≤ x0) (k0 : x0 ≤ 255) (h1 : 0 ≤ x1) (k1 : x1 ≤ 255) (h2 : 0 ≤ x2) (k2 : x2 ≤ 255) (h3 : 0 ≤ x3) (k3 : x3 ≤ 255)
    (hb : b < w.heap.size)
    (hc : Hid (∀ j u, [Value.int .u8 x0, .int .u8 x1, .int .u8 x2, .int .u8 x3][j]? = some u → w.cell? ((⟨b, o, none⟩ : Addr).add j) = some u)) :
    Calls Tryd.prog 120 #[.slice (some ⟨b, o, none⟩) 4 c] w (NumdPost [x0, x1, x2, x3] w) := by
  have i0 : ∀ w, (Instr.index 131 (.agg #[.int .u8 x0, .int .u8 x1, .int .u8 x2, .int .u8 x3]) (.int .i64 0)).run Tryd.prog w = .ok (.int .u8 x0) w := fun _ => by kernel_rfl
  have i1 : ∀ w, (Instr.index 131 (.agg #[.int .u8 x0, .int .u8 x1, .int .u8 x2, .int .u8 x3]) (.int .i64 1)).run Tryd.prog w = .ok (.int .u8 x1) w := fun _ => by kernel_rfl
  have i2 : ∀ w, (Instr.index 131 (.agg #[.int .u8 x0, .int .u8 x1, .int .u8 x2, .int .u8 x3]) (.int .i64 2)).run Tryd.prog w = .ok (.int .u8 x2) w := fun _ => by kernel_rfl
  have i3 : ∀ w, (Instr.index 131 (.agg #[.int .u8 x0, .int .u8 x1, .int .u8 x2, .int .u8 x3]) (.int .i64 3)).run Tryd.prog w = .ok (.int .u8 x3) w := fun _ => by kernel_rfl
  have j0 : bits BinOp.or IntKind.i64 0 x0 = x0 := by rw [i64_or 0 x0 8 (by omega) (by omega) (by omega) h0 (by omega) (by omega)]; omega
  have j1 : bits BinOp.or IntKind.i64 (x0 * 256) x1 = x0 * 256 + x1 := i64_or _ _ 8 (by omega) (by omega) (by omega) h1 (by omega) (by omega)
  have j2 : bits BinOp.or IntKind.i64 ((x0 * 256 + x1) * 256) x2 = (x0 * 256 + x1) * 256 + x2 := i64_or _ _ 8 (by omega) (by omega) (by omega) h2 (by omega) (by omega)
  have j3 : bits BinOp.or IntKind.i64 (((x0 * 256 + x1) * 256 + x2) * 256) x3 = ((x0 * 256 + x1) * 256 + x2) * 256 + x3 := i64_or _ _ 8 (by omega) (by omega) (by omega) h3 (by omega) (by omega)
  go_enter Tryd.func120, Tryd.ntmps120
  go_wp2_with ((with_reducible show wpList _ _ _ (Oper.mk _ (Op.call ⟨Callee.builtin Builtin.copy, _, _⟩) _ _ _ _ :: _) _ _); (refine wp_copy_new rfl _ _ _ _ rfl 5 Tryd.underlying22 size_u8 w.heap.size rfl 0 4 4 ⟨b, o, none⟩ 4 c rfl rfl _ 131 [Value.int .u8 x0, .int .u8 x1, .int .u8 x2, .int .u8 x3] rfl ?_ ?_ ?_ #[Value.int .u8 x0, .int .u8 x1, .int .u8 x2, .int .u8 x3] rfl ?_); (intro j u hu; rw [World.cell?_alloc_lt _ _ _ (by rw [add_block]; exact hb)]; exact hc.out j u hu); simp; (intro v hv; simp at hv; rcases hv with rfl | rfl | rfl | rfl <;> rfl))
  refine wp_loop_rounds 5 ?_
  rw [rounds_succ]
  go_wp2
  rw [rounds_succ]
  go_wp2
  rw [rounds_succ]
  go_wp2
  rw [rounds_succ]
  go_wp2
  rw [rounds_succ]
  go_wp2_with fail
  refine (inumber_any _ _).mono ?_
  rintro e w1 ⟨v, rfl, hv, hb1⟩
  obtain ⟨A', c', rfl⟩ := hv.slice
  go_wp2
  · have hz : ((numB (((x0 * 256 + x1) * 256 + x2) * 256 + x3)).length : Int) = 0 := by simpa using (by assumption : (((numB (((x0 * 256 + x1) * 256 + x2) * 256 + x3)).length : Int) == 0) = true)
    rw [numB_len] at hz
    have hn : ¬ (1 ≤ ((x0 * 256 + x1) * 256 + x2) * 256 + x3 ∧ ((x0 * 256 + x1) * 256 + x2) * 256 + x3 ≤ 65536) := by
      intro h; rw [if_pos h] at hz; omega
    go_ret2
    exact numd_of (by simp [numOf, be4, nth]; omega) (by simp) (below_next (below_new _) (by simp) hb1)
  · have hz : ¬ ((numB (((x0 * 256 + x1) * 256 + x2) * 256 + x3)).length : Int) = 0 := by simpa using (by assumption : (((numB (((x0 * 256 + x1) * 256 + x2) * 256 + x3)).length : Int) == 0) = false)
    rw [numB_len] at hz
    have hn : (1 ≤ ((x0 * 256 + x1) * 256 + x2) * 256 + x3 ∧ ((x0 * 256 + x1) * 256 + x2) * 256 + x3 ≤ 65536) := by
      refine Classical.byContradiction fun h => hz ?_; rw [if_neg h]; rfl
    go_ret2
    have hr : ((x0 * 256 + x1) * 256 + x2) * 256 + x3 = numOf [x0, x1, x2, x3] := by simp [numOf, be4, nth]; omega
    exact numd_of hr (by simp; omega) (below_next (below_new _) (by simp) hb1)

theorem list_four {xs : List Int} (h : xs.length = 4) : xs = [nth xs 0, nth xs 1, nth xs 2, nth xs 3] := by
  match xs, h with
  | [a, b, c, d], _ => rfl

theorem numbered_any {B : Nat} (A : Option Addr) (n c : Nat) (xs : List Int) (w : World) (h : Rds B w .u8 A n c xs) (hb : Byt xs) : Calls Tryd.prog 120 #[.slice A n c] w (NumdPost xs w) := by
  by_cases hn : n = 4
  · have hl := h.len
    subst hn
    obtain ⟨b, o, rfl, hc⟩ := h.cell.at_ (by omega)
    have e := list_four hl
    have hlt : b < w.heap.size := block_lt_of_cell (hc 0 (by omega))
    have := numbered_four b o c (nth xs 0) (nth xs 1) (nth xs 2) (nth xs 3) w (hb.nth 0).1 (hb.nth 0).2 (hb.nth 1).1 (hb.nth 1).2 (hb.nth 2).1 (hb.nth 2).2 (hb.nth 3).1 (hb.nth 3).2 hlt (by
      have := news_of hc
      rw [e] at this
      exact this)
    rw [← e] at this
    exact this
  · refine (numbered_len A n c w hn).mono ?_
    rintro e w' ⟨rfl, rfl⟩
    exact numd_of (numOf_len (by have := h.len; omega)).symm (by simp) (Below.refl _ _)


def IdxPost (xs : List Int) (w : World) (e : Ending) (w' : World) : Prop := ∃ r : Int, e = .returned (.int .i64 r) ∧ -1 ≤ r ∧ (r = -1 ↔ ∀ x ∈ xs, x = 0) ∧ w = w'
theorem all_zero {xs : List Int} {n : Nat} (hn : xs.length = n) (h : ∀ j, j < n → nth xs j = 0) : ∀ x ∈ xs, x = 0 := by
  intro x hx
  obtain ⟨j, hj⟩ := List.mem_iff_getElem?.1 hx
  have hl := (List.getElem?_eq_some_iff.1 hj).1
  rw [nth_lt hl] at hj
  have := h j (by omega)
  simp_all

def ContPost (xs : List Int) (w : World) (e : Ending) (w' : World) : Prop := e = .returned (.bool (decide (¬ ∀ x ∈ xs, x = 0))) ∧ w = w'
end Go.Proofs.YtbfgoojpbhlboaaDoor

/- What Unwrap, Wrap and the references' functions of layer 4 return. No condition. -/
set_option linter.unusedVariables false
set_option linter.unusedSimpArgs false
namespace Go.Proofs.YtbfgoojpbhlboaaDoor
open Go Go.RowKit

def UnwPost (xs : List Int) (w : World) (e : Ending) (w' : World) : Prop := e = .returned (.tuple #[.int .i64 (unwrap xs).1, .int .i64 (unwrap xs).2.1, .bool (unwrap xs).2.2]) ∧ Below w.heap.size w w'
theorem unw_no {xs : List Int} {w w' : World} (h : ¬(16 ≤ xs.length ∧ xs.length ≤ 1216 ∧ numOf (xs.take 4) ≠ 0 ∧ (∀ x ∈ xs.drop 4, x = 0))) (hw : Below w.heap.size w w') : UnwPost xs w (.returned (.tuple #[.int .i64 0, .int .i64 0, .bool false])) w' := by
  unfold UnwPost unwrap
  rw [if_neg h]
  exact ⟨rfl, hw⟩

def SamePost04 (xs ys : List Int) (w : World) (e : Ending) (w' : World) : Prop := e = .returned (.bool (decide (xs = ys))) ∧ Below w.heap.size w w'

end Go.Proofs.YtbfgoojpbhlboaaDoor

/- What the references' functions of layer 4 return, and Wrap. No condition. -/
set_option linter.unusedVariables false
set_option linter.unusedSimpArgs false
namespace Go.Proofs.YtbfgoojpbhlboaaDoor
open Go Go.RowKit

def RNumdPost (xs : List Int) (w : World) (e : Ending) (w' : World) : Prop := e = .returned (.int .i64 (numOf xs)) ∧ Below w.heap.size w w'
theorem rnumd_of {r : Int} {xs : List Int} (h : r = numOf xs) {w w' : World} (hw : Below w.heap.size w w') : RNumdPost xs w (.returned (.int .i64 r)) w' := by
  subst h; exact ⟨rfl, hw⟩

def RUnwPost (xs : List Int) (w : World) (e : Ending) (w' : World) : Prop := e = .returned (.tuple #[.int .i64 (unwrap xs).1, .int .i64 (unwrap xs).2.1]) ∧ Below w.heap.size w w'
theorem runw_no {xs : List Int} {w w' : World} (h : ¬(16 ≤ xs.length ∧ xs.length ≤ 1216 ∧ numOf (xs.take 4) ≠ 0 ∧ (∀ x ∈ xs.drop 4, x = 0))) (hw : Below w.heap.size w w') : RUnwPost xs w (.returned (.tuple #[.int .i64 0, .int .i64 0])) w' := by
  unfold RUnwPost unwrap
  rw [if_neg h]
  exact ⟨rfl, hw⟩

set_option maxHeartbeats 800000 in
theorem rnumber_any (h : Int) (w : World) : Calls Tryd.prog 66 #[.int .i64 h] w fun e w' => ∃ v, e = .returned v ∧ OwnI w' w.heap.size .u8 v (numB h) ∧ Below w.heap.size w w' := by
  by_cases h1 : h < 1
  · have H := Lib.hid (numB_no (h := h) (by omega))
    go_enter Tryd.func66, Tryd.ntmps66
    go_wp2
    go_ret
    exact ⟨_, rfl, by rw [H.out]; exact OwnI.nil _ _ _, Below.refl _ _⟩
  by_cases h2 : 65536 < h
  · have H := Lib.hid (numB_no (h := h) (by omega))
    go_enter Tryd.func66, Tryd.ntmps66
    go_wp2
    go_ret
    exact ⟨_, rfl, by rw [H.out]; exact OwnI.nil _ _ _, Below.refl _ _⟩
  · have H := Lib.hid (numB_yes (h := h) (by omega) (by omega))
    have e1 : h / 65536 % 256 = h / 65536 := by omega
    have e2 : h / 256 % 256 % 256 = h / 256 % 256 := by omega
    have e3 : h % 256 % 256 = h % 256 := by omega
    go_enter Tryd.func66, Tryd.ntmps66
    go_wp2
    go_ret
    refine ⟨_, rfl, ?_, below_new _⟩
    rw [H.out]
    exact OwnI.fresh (w := w) (B := w.heap.size) (k := .u8) (xs := [0, h / 65536, h / 256 % 256, h % 256]) (t := 5) (Nat.le_refl _) (by decide) (by simp)
end Go.Proofs.YtbfgoojpbhlboaaDoor
