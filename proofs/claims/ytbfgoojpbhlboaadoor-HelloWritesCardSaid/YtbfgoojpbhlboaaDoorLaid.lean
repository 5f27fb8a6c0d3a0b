/- The table of bit places: what the row's condition gives a walk; a world that meets it. No condition. -/
import Derived.Test.YtbfgoojpbhlboaaDoorRow2
import Derived.Test.YtbfgoojpbhlboaaDoorVarint2
import Derived.LaidLaws
import Derived.LaidHandle
import Derived.Stop.Joined
import Derived.OpenShut
set_option linter.unusedVariables false
set_option linter.unusedSimpArgs false
namespace Go.Proofs.YtbfgoojpbhlboaaDoor
open Go Go.RowKit Go.ChangeShapes Go.WideShapes Go.ChangeAt

def laidL : List (String × DataW Unit) := [("math/bits.deBruijn32tab", Rows.laid_math_bits_deBruijn32tab), ("math/bits.deBruijn64tab", Rows.laid_math_bits_deBruijn64tab)]
theorem g_b64 : Tryd.prog.globalNamed "math/bits.deBruijn64tab" = some 1 := by kernel_rfl
theorem g_b64t : (Tryd.prog.globals[1]?).map (·.type) = some 136 := by kernel_rfl
theorem cells_u8_l : Tryd.prog.cellsOf 5 = 1 := by kernel_rfl
theorem int_of_trod {H : Type} {enc : TypeId × Value → H} {P : Program} {w : World} {base : Nat} {sp : Nat → Bool} {held : Bool} {fuel : Nat} {t : TypeId} {k : IntKind} {c : Value} {y : DataW H × List MemPlace}
    (ht : P.underlying t = some (.int k)) (h : DataW.trod enc P w base sp held fuel t [c] = some y) : ∃ n, c = .int k n ∧ y = (.lit (.int k n), []) := by
  cases fuel with
  | zero => simp [DataW.trod] at h
  | succ fuel =>
    cases c <;> simp [DataW.trod, ht] at h
    rename_i k' n
    obtain ⟨⟨rfl, _⟩, rfl⟩ := h
    exact ⟨n, rfl, rfl⟩
theorem laid_cell {W : World} (h : laidMetH Tryd.prog laidL W) (i : Nat) (hi : i < 64) (v : Int) (hv : ∀ xs : List (DataW Unit), (Rows.laid_math_bits_deBruijn64tab : DataW Unit) = .agg xs → xs[i]? = some (.lit (.int .u8 v))) : W.cell? ⟨1, i, none⟩ = some (.int .u8 v) := by
  have h' : laidMet Tryd.prog laidL W := h
  obtain ⟨ps, ⟨g0, t0, cs0, fuel0, p0, q0, _, _, _, _, ⟨g, t, cs, fuel, p, q, hg, ht, hvar, hd, _⟩, _⟩, _⟩ := h'
  obtain rfl := Option.some.inj (g_b64.symm.trans hg)
  obtain rfl := Option.some.inj (g_b64t.symm.trans ht)
  rw [World.var?_cell g_b64 hvar i]
  obtain ⟨xs, m, rfl, hx, hlen, hxl, hcell⟩ := DataW.trod_array Tryd.underlying136 hd
  simp only [Prod.mk.injEq] at hx
  have hxi := hv _ hx.1
  rw [List.getElem?_map] at hxi
  obtain ⟨y, hy, hy1⟩ := Option.map_eq_some_iff.1 hxi
  have hc := hcell i hi
  rw [cells_u8_l, hy, Nat.mul_one] at hc
  have hil : i < cs.toList.length := by
    rw [List.getElem?_eq_some_iff] at hy
    have : (cs.toList.drop i).take 1 ≠ [] := by
      intro e
      rw [e] at hc
      cases m with
      | zero => simp [DataW.trod] at hc
      | succ m => simp [DataW.trod, Tryd.underlying5] at hc
    rcases Nat.lt_or_ge i cs.toList.length with k | k
    · exact k
    · exact absurd (by rw [List.drop_eq_nil_of_le k]; rfl) this
  have e1 : (cs.toList.drop i).take 1 = [cs.toList[i]] := by rw [List.drop_eq_getElem_cons hil]; rfl
  rw [e1] at hc
  obtain ⟨n, hn, hyy⟩ := int_of_trod Tryd.underlying5 hc
  rw [hyy] at hy1
  simp only [DataW.lit.injEq, Lit.int.injEq, true_and] at hy1
  subst hy1
  rw [← Array.getElem?_toList, List.getElem?_eq_getElem hil, hn]
theorem tz_of_laid {W : World} (h : laidMetH Tryd.prog laidL W) : Tz W :=
  ⟨laid_cell h 0 (by decide) 0 (fun xs e => by unfold Rows.laid_math_bits_deBruijn64tab at e; cases e; rfl), laid_cell h 1 (by decide) 1 (fun xs e => by unfold Rows.laid_math_bits_deBruijn64tab at e; cases e; rfl),
   laid_cell h 3 (by decide) 2 (fun xs e => by unfold Rows.laid_math_bits_deBruijn64tab at e; cases e; rfl), laid_cell h 7 (by decide) 3 (fun xs e => by unfold Rows.laid_math_bits_deBruijn64tab at e; cases e; rfl)⟩
/-- The data of a table, as cells. -/
def tabCells : DataW Unit → Array Value
  | .agg xs => (xs.map fun | .lit (.int k n) => Value.int k n | _ => undef).toArray
  | _ => #[]
/-- A world that meets the condition. -/
noncomputable def laidWorld (os : Os) : World :=
  let w0 := World.holding Tryd.prog os ⟨#[], #[], []⟩
  { w0 with heap := (w0.heap.modify 0 fun
      | .cells _ t frozen => .cells (tabCells Rows.laid_math_bits_deBruijn32tab) t frozen
      | o => o).modify 1 fun
      | .cells _ t frozen => .cells (tabCells Rows.laid_math_bits_deBruijn64tab) t frozen
      | o => o }
theorem laidWorld_met (os : Os) (args : Array Value) : laidMetH Tryd.prog laidL ((laidWorld os).forCall (fun _ _ => 0) ⟨#[], args, []⟩).memory :=
  laidMetH_of_parts (laidMet_of_run' 8 (by kernel_rfl) (by kernel_rfl)) (by kernel_rfl)
end Go.Proofs.YtbfgoojpbhlboaaDoor
