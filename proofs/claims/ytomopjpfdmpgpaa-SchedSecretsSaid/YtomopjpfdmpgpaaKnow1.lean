/- know.New, grow, is, Learn (layer 3). No condition. -/
import Derived.Test.YtomopjpfdmpgpaaMind
import Derived.Test.YtomopjpfdmpgpaaTerm3
set_option linter.unusedVariables false
set_option linter.unusedSimpArgs false
namespace Go.Proofs.Ytomopjpfdmpgpaa
open Go Go.RowKit

/-- A table's address: one that holds T, or none. -/
def TabAt (B : Nat) (w : World) (tp : Option Addr) (T : List Nd) : Prop := (tp = none ∧ T = []) ∨ ∃ tb, tp = some ⟨tb, 0, none⟩ ∧ IsTab B w tb T
theorem TabAt.below {B : Nat} {w w' : World} {tp : Option Addr} {T : List Nd} (h : TabAt B w tp T) (hb : Below w.heap.size w w') : TabAt B w' tp T := by
  rcases h with h | ⟨tb, e, ht⟩
  · exact .inl h
  · exact .inr ⟨tb, e, ht.below hb⟩
theorem TabAt.mnd {B : Nat} {w w' : World} {tp : Option Addr} {T : List Nd} (h : TabAt B w tp T) (hf : Frm mndO B w w') : TabAt B w' tp T := by
  rcases h with h | ⟨tb, e, ht⟩
  · exact .inl h
  · exact .inr ⟨tb, e, ht.frm hf (Nat.le_refl _) mndO_tab mndO_sp⟩
theorem TabAt.wf {B : Nat} {w : World} {tp : Option Addr} {T : List Nd} (h : TabAt B w tp T) : WfT T := by
  rcases h with ⟨_, rfl⟩ | ⟨tb, e, ht⟩
  · exact wfT_nil
  · exact ht.1
set_option maxHeartbeats 800000 in
theorem ksize_any {B : Nat} {tp : Option Addr} {T : List Nd} (w : World) (h : TabAt B w tp T) : Calls Try.prog 85 #[.pointer tp] w fun e w' => e = .returned (.int .i64 T.length) ∧ w' = w := by
  rcases h with ⟨rfl, rfl⟩ | ⟨tb, rfl, ht⟩
  · go_enter Try.func85, Try.ntmps85
    go_wp2_with fail
    go_ret
    exact ⟨rfl, rfl⟩
  · refine (size_any w ht).mono ?_
    rintro e w' h
    first | exact h | exact ⟨h.1, h.2.symm⟩
set_option maxHeartbeats 800000 in
theorem knew_any (B : Nat) (tp : Option Addr) (w : World) (hB : B ≤ w.heap.size) : Calls Try.prog 54 #[.pointer tp] w fun e w' => e = .returned (.pointer (some ⟨w.heap.size, 0, none⟩)) ∧ MindAt B w' w.heap.size tp (.slice none 0 0) (.slice none 0 0) [] [] 0 false ∧ Below w.heap.size w w' := by
  go_enter Try.func54, Try.ntmps54
  go_wp2_with fail
  go_ret
  exact ⟨rfl, ⟨heap_alloc_new w _, OwnB.nil _ _, OwnB.nil _ _, fun g e => by simp [Value.ownBlock] at e, hB⟩, below_new _⟩
/-- Is something so of a term? -/
def isB (l : List Bool) (h : Int) : Bool := decide (0 < h) && bget l h
set_option maxHeartbeats 800000 in
theorem kis_any {B : Nat} (v : Value) (l : List Bool) (h : Int) (w : World) (hv : OwnB w B v l) (hh : h ≤ 9223372036854775807) : Calls Try.prog 71 #[v, .int .i64 h] w fun e w' => e = .returned (.bool (isB l h)) ∧ w' = w := by
  obtain ⟨A, c, rfl⟩ := hv.slice
  obtain ⟨r, hr⟩ : ∃ r, r = isB l h := ⟨_, rfl⟩
  rw [← hr]
  have HR := Lib.hid hr
  have HV := Lib.hid hv
  clear hr hv
  go_enter Try.func71, Try.ntmps71
  by_cases h0 : 0 < h
  rotate_left
  · have HN : Hid (r = false) := by show _ = _; rw [HR.out]; unfold isB; rw [decide_eq_false h0]; rfl
    go_wp2_with fail
    go_ret
    exact ⟨by rw [HN.out]; rfl, rfl⟩
  obtain ⟨k, rfl⟩ : ∃ k : Nat, h = k := ⟨h.toNat, by omega⟩
  by_cases h1 : k < l.length
  rotate_left
  · have HN : Hid (r = false) := by
      show _ = _
      rw [HR.out]
      unfold isB bget
      rw [List.getD_eq_getElem?_getD, Int.toNat_natCast, List.getElem?_eq_none (by omega)]
      simp
    have h1' : ¬ (k : Int) < (l.length : Int) := by omega
    go_wp2_with fail
    go_ret
    exact ⟨by rw [HN.out]; rfl, rfl⟩
  · obtain ⟨g, cap, e1, -, -, hc, hm, hcell, -, -⟩ := HV.out.form (by omega)
    simp only [Value.slice.injEq] at e1
    obtain ⟨rfl, -, rfl⟩ := e1
    have g1 := hcell k h1
    have HN : Hid (r = l.getD k false) := by
      show _ = _
      rw [HR.out]
      unfold isB bget
      rw [decide_eq_true h0, Int.toNat_natCast]
      rfl
    obtain ⟨b, hb⟩ : ∃ b, b = l.getD k false := ⟨_, rfl⟩
    rw [← hb] at g1
    have HB := Lib.hid hb
    have h1' : (k : Int) < (l.length : Int) := by omega
    clear hcell hb
    go_wp2_with fail
    go_ret
    exact ⟨by rw [HN.out, ← HB.out]; rfl, rfl⟩
end Go.Proofs.Ytomopjpfdmpgpaa
