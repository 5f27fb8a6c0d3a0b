/- What the functions of layer 4 without a table return: Number, Numbered, Wrap, Unwrap, and the references'. No condition. -/
import Derived.Test.YtbcicfgffjgpdaaBase
import Derived.Test.YtbcicfgffjgpdaaPureIdeal
set_option linter.unusedVariables false
set_option linter.unusedSimpArgs false
namespace Go.Proofs.Ytbcicfgffjgpdaa
open Go Go.RowKit

set_option maxHeartbeats 400000 in
theorem number_no (h : Int) (w : World) (h0 : ¬(1 ≤ h ∧ h ≤ 65536)) : Calls Try.prog 57 #[.int .i64 h] w fun e w' => e = .returned (.slice none 0 0) ∧ w = w' := by
  by_cases h1 : h < 1
  · go_enter Try.func57, Try.ntmps57
    go_wp2
    go_ret
    exact ⟨rfl, rfl⟩
  · have h2 : 65536 < h := by omega
    go_enter Try.func57, Try.ntmps57
    go_wp2
    go_ret
    exact ⟨rfl, rfl⟩

def NumPost (h : Int) (w : World) (e : Ending) (w' : World) : Prop := ∃ v, e = .returned v ∧ v = .slice (some ⟨w.heap.size, 0, none⟩) 4 4 ∧ w' = w.alloc (.cells ((numB h).map (Value.int .u8)).toArray 112)

set_option maxHeartbeats 800000 in
theorem number_yes (h : Int) (w : World) (h0 : 1 ≤ h) (h1 : h ≤ 65536) : Calls Try.prog 57 #[.int .i64 h] w (NumPost h w) := by
  have H := Lib.hid (numB_yes h0 h1)
  have H2 := Lib.hid (show h / 16777216 = 0 by omega)
  go_enter Try.func57, Try.ntmps57
  go_wp2
  refine wp_loop_rounds 5 ?_
  rw [rounds_succ]
  go_wp2
  rw [rounds_succ]
  go_wp2
  rw [rounds_succ]
  go_wp2
  rw [rounds_succ]
  go_wp2
  rw [rounds_succ]
  go_wp2
  go_ret
  exact ⟨_, rfl, rfl, by rw [H.out, H2.out]; rfl⟩

theorem number_any (h : Int) (w : World) : Calls Try.prog 57 #[.int .i64 h] w fun e w' => ∃ v, e = .returned v ∧ OwnI w' w.heap.size .u8 v (numB h) ∧ Below w.heap.size w w' := by
  by_cases hh : 1 ≤ h ∧ h ≤ 65536
  · refine (number_yes h w hh.1 hh.2).mono ?_
    rintro e w' ⟨v, rfl, rfl, rfl⟩
    have := OwnI.fresh (w := w) (B := w.heap.size) (k := .u8) (xs := numB h) (t := 112) (Nat.le_refl _) (by decide) (by rw [numB_yes hh.1 hh.2]; simp)
    rw [numB_yes hh.1 hh.2] at this ⊢
    exact ⟨_, rfl, this, below_new _⟩
  · refine (number_no h w hh).mono ?_
    rintro e w' ⟨rfl, rfl⟩
    rw [numB_no hh]
    exact ⟨_, rfl, OwnI.nil _ _ _, Below.refl _ _⟩



theorem size_u8 : (Try.prog.info? 5).map (·.size) = some 1 := by kernel_rfl
def NumdPost (xs : List Int) (w : World) (e : Ending) (w' : World) : Prop := e = .returned (.tuple #[.int .i64 (numOf xs), .bool (numOf xs != 0)]) ∧ Below w.heap.size w w'
theorem numd_of {r : Int} {xs : List Int} {b : Bool} (h : r = numOf xs) (hb : b = (r != 0)) {w w' : World} (hw : Below w.heap.size w w') : NumdPost xs w (.returned (.tuple #[.int .i64 r, .bool b])) w' := by
  subst h; subst hb; exact ⟨rfl, hw⟩
theorem numB_len (h : Int) : (numB h).length = if 1 ≤ h ∧ h ≤ 65536 then 4 else 0 := by unfold numB; split <;> rfl

theorem list_four {xs : List Int} (h : xs.length = 4) : xs = [nth xs 0, nth xs 1, nth xs 2, nth xs 3] := by
  match xs, h with
  | [a, b, c, d], _ => rfl



def IdxPost (xs : List Int) (w : World) (e : Ending) (w' : World) : Prop := ∃ r : Int, e = .returned (.int .i64 r) ∧ -1 ≤ r ∧ (r = -1 ↔ ∀ x ∈ xs, x = 0) ∧ w = w'
theorem all_zero {xs : List Int} {n : Nat} (hn : xs.length = n) (h : ∀ j, j < n → nth xs j = 0) : ∀ x ∈ xs, x = 0 := by
  intro x hx
  obtain ⟨j, hj⟩ := List.mem_iff_getElem?.1 hx
  have hl := (List.getElem?_eq_some_iff.1 hj).1
  rw [nth_lt hl] at hj
  have := h j (by omega)
  simp_all

def ContPost (xs : List Int) (w : World) (e : Ending) (w' : World) : Prop := e = .returned (.bool (decide (¬ ∀ x ∈ xs, x = 0))) ∧ w = w'
end Go.Proofs.Ytbcicfgffjgpdaa
