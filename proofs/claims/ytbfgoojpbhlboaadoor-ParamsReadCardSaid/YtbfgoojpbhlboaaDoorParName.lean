/- The closure of Write (layer 7): a name is written behind what is there. No condition but the table of bit places. -/
import Derived.Test.YtbfgoojpbhlboaaDoorParSmall
import Derived.Test.YtbfgoojpbhlboaaDoorLater
set_option linter.unusedVariables false
set_option linter.unusedSimpArgs false
namespace Go.Proofs.YtbfgoojpbhlboaaDoor
open Go Go.RowKit

/-- A variable of bytes of the call's own. -/
def OutAt (w : World) (g B : Nat) (xs : List Int) : Prop := ∃ v, w.heap[g]? = some (.cells #[v] 22 (0, 0)) ∧ OwnI w B .u8 v xs
theorem out_set {w w' : World} {g B : Nat} {v v' : Value} {xs : List Int} (h : w.heap[g]? = some (.cells #[v] 22 (0, 0))) (ho : OwnI w B .u8 v' xs) (hB : g < B) : OutAt (w.setCell ⟨g, 0, none⟩ v') g B xs :=
  ⟨v', by rw [setCell_eq_setRow w g 0 _ _ _ v' h]; exact setRow_heap w g _ _ _ _ h, ho.setBelow hB _⟩

set_option maxHeartbeats 1600000 in
set_option maxRecDepth 100000 in
theorem wname_any {B B' : Nat} (N : Int) (there : Bool) (A2 : Option Addr) (n2 c2 : Nat) (ys : List Int) (g : Nat) (xs : List Int) (w : World) (hv : OutAt w g B xs) (hB : g < B) (hBw : B ≤ w.heap.size) (hr : Rds B' w .u8 A2 n2 c2 ys) (hx : xs.length ≤ 90000) (hn2 : n2 ≤ 90000) (ht : Tz w) :
    Calls Tryd.prog 34 #[.int .i64 N, .bool there, .slice A2 n2 c2, .pointer (some ⟨g, 0, none⟩)] w fun e w' => e = .returned (.tuple #[]) ∧ OutAt w' g B (xs ++ nameB N there ys) ∧ Below g w w' ∧ w.heap.size ≤ w'.heap.size := by
  cases there with
  | false =>
    have HV := Lib.hid hv
    clear hv hr ht
    go_enter Tryd.func34, Tryd.ntmps34
    go_wp2_with fail
    go_end0
    refine ⟨rfl, ?_, Below.refl _ _, Nat.le_refl _⟩
    have : xs ++ nameB N false ys = xs := by simp [nameB]
    rw [this]
    exact HV.out
  | true =>
    obtain ⟨v, hg, ho⟩ := hv
    obtain ⟨A, c, rfl⟩ := ho.slice
    have key := field_any A xs.length c xs N A2 n2 c2 ys w (ho.rds (B' := 0)) hr hx hn2 ht
    have g0 := cell_of_row w g 0 _ _ _ hg
    have f0 : w.frozen? ⟨g, 0, none⟩ = false := by simp [World.frozen?, hg]
    have HG := Lib.hid hg
    have g0' : w.cell? ⟨g, 0, none⟩ = some (.slice A xs.length c) := by rw [g0]; rfl
    have lg := lt_of_get hg
    clear ho hr ht hg g0
    go_enter Tryd.func34, Tryd.ntmps34
    go_wp2_with fail
    refine key.mono ?_
    clear key
    rintro e w1 ⟨v1, rfl, hv1, hb1⟩
    obtain ⟨zs, hzs⟩ : ∃ zs, zs = xs ++ fieldB N ys := ⟨_, rfl⟩
    rw [← hzs] at hv1
    have HZ := Lib.hid hzs
    obtain ⟨A1, c1, rfl⟩ := hv1.slice
    have y0 := later_cell hb1 g0' lg
    have y1 := frozen_later hb1 (a := ⟨g, 0, none⟩) lg f0
    have HG1 : Hid (w1.heap[g]? = some (.cells #[.slice A xs.length c] 22 (0, 0))) := (hb1.block _ lg).trans HG.out
    have HV := Lib.hid hv1
    have HB := Lib.hid hb1
    clear hv1 hb1 g0' f0 hzs
    go_wp2_with fail
    go_end0
    refine ⟨rfl, ?_, (HB.out.mono (Nat.le_of_lt lg)).setCell (Nat.le_refl _) _, ?_⟩
    · have e : xs ++ nameB N true ys = zs := by rw [HZ.out]; simp [nameB]
      rw [e]
      exact out_set (w' := w1) HG1.out (HV.out.mono hBw) hB
    · have := HB.out.size
      simpa [World.setCell] using this
end Go.Proofs.YtbfgoojpbhlboaaDoor
