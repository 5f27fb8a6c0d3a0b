/- Own texts, one behind the other. Each bears its own remark. -/
import Derived.Test.YtbfgoojpbhlboaaDoorLib
import Derived.Test.YtbfgoojpbhlboaaDoorPureIdeal
import Derived.Test.YtbfgoojpbhlboaaDoorRows
import Derived.WalkKit
import Derived.ProofKit
import Derived.OpenShut
import Derived.ShutString
import Derived.ChangeOld
import Derived.Below
import Derived.Test.YtbfgoojpbhlboaaDoorBase
import Derived.Deep.Slices
import Derived.Deep.Fields
/- How arguments that read as data stand in memory. No condition. -/
set_option linter.unusedVariables false
set_option linter.unusedSimpArgs false
namespace Go.Proofs.YtbfgoojpbhlboaaDoor
open Go Go.RowKit Go.ChangeShapes Go.WideShapes Go.ChangeAt
open Go.ChangeMaps (open_string shut_string)

theorem row_own : ownKnob Tryd.prog.godebug = none := by kernel_rfl
theorem row_laidOut : laidOutB Tryd.prog = true := by kernel_rfl

theorem wf_u8 {x : Int} (h : (Lit.int .u8 x).wf = true) : 0 ≤ x ∧ x ≤ 255 := by
  exact bounds_u8 h

/-- A []byte argument. -/
theorem open_bytes {H : Type} {enc : TypeId × Value → H} {w : World} {base : Nat} {a : Option Addr} {len cap : Nat} {d : DataW H} {p : List MemPlace}
    (h : DataW.Trod enc Tryd.prog w base (fun _ => true) true 22 (.slice a len cap) d p) : ∃ xs, Rds w.heap.size w .u8 a len cap xs ∧ Byt xs := by
  obtain ⟨fuel, hf⟩ := h
  rcases open_ints Tryd.underlying22 Tryd.underlying5 (by kernel_rfl) hf with ⟨hcs, _⟩ | ⟨x, l, c, zs, hcs, _, hl, hm, hz, _, hcell, hwz⟩
  · simp [Value.cells] at hcs
    obtain ⟨rfl, rfl, rfl⟩ := hcs
    exact ⟨[], Rds.nil _ _ _, fun x hx => by simp at hx⟩
  · simp [Value.cells] at hcs
    obtain ⟨rfl, rfl, rfl⟩ := hcs
    have hz' : zs.length = cap := by simpa using hz
    have hn : ∀ j, j < len → nth (zs.take len) j = zs.getD j 0 := fun j hj => by rw [nth_take hj]; rfl
    refine ⟨zs.take len, ⟨by simp; omega, hl, by simpa only [maxLen] using hm, fun j hj => ?_, fun p a e => ?_⟩, fun y hy => wf_u8 (hwz y (List.mem_of_mem_take hy))⟩
    · have hj' : j < len := by simp at hj; omega
      refine ⟨_, rfl, ?_⟩
      rw [hn j hj']
      exact hcell j (by omega)
    · cases e
      have h0 := hcell 0 (by omega)
      have := World.block_lt_of_cell? _ _ h0
      rw [add_block] at this
      exact ⟨this, .inl this⟩
end Go.Proofs.YtbfgoojpbhlboaaDoor

/- How structs of one-cell fields that read as data stand in memory: field by field. No condition. -/
set_option linter.unusedVariables false
set_option linter.unusedSimpArgs false
namespace Go.Proofs.YtbfgoojpbhlboaaDoor
open Go Go.RowKit Go.ChangeShapes Go.WideShapes Go.ChangeAt

theorem field_trod {H : Type} {enc : TypeId × Value → H} {P : Program} {w : World} {base : Nat} {spare : Nat → Bool} {held : Bool} {e : TypeId} {fs : Array Field} {fuel : Nat} {cs : List Value} {x : DataW H × List MemPlace}
    (he : P.underlying e = some (.struct fs)) (hone : Deep.oneCellFields P fs = true) (h : DataW.trod enc P w base spare held fuel e cs = some x) (hl : cs.length = fs.size) (j : Nat) (f : Field) (hj : fs[j]? = some f) :
    ∃ v y n, cs[j]? = some v ∧ DataW.trod enc P w base spare held n f.type [v] = some y := by
  obtain ⟨ys, n, _, _, _, hyl, hf⟩ := DataW.trod_struct he h
  obtain ⟨ho, hk⟩ := Deep.hone_of hone j f hj
  have hjl : j < fs.size := (Array.getElem?_eq_some_iff.1 hj).1
  have h1 := hf j f hj
  rw [ho, hk] at h1
  have hl' : j < cs.length := by omega
  have h2 : (cs.drop j).take 1 = [cs[j]] := by rw [List.drop_eq_getElem_cons hl']; rfl
  rw [h2, List.getElem?_eq_getElem (show j < ys.length by omega)] at h1
  exact ⟨cs[j], _, n, List.getElem?_eq_getElem hl', h1⟩
theorem cell_i64 {H : Type} {enc : TypeId × Value → H} {P : Program} {w : World} {base : Nat} {spare : Nat → Bool} {held : Bool} {t : TypeId} {fuel : Nat} {v : Value} {x : DataW H × List MemPlace} (ht : P.underlying t = some (.int .i64))
    (h : DataW.trod enc P w base spare held fuel t [v] = some x) : ∃ n, v = .int .i64 n ∧ -9223372036854775808 ≤ n ∧ n ≤ 9223372036854775807 := by
  obtain ⟨n, hv, _, hw⟩ := DataW.trod_int ht h
  have b := bounds_i64 hw
  exact ⟨n, by simpa using hv, by omega, by omega⟩
theorem cell_bool {H : Type} {enc : TypeId × Value → H} {P : Program} {w : World} {base : Nat} {spare : Nat → Bool} {held : Bool} {t : TypeId} {fuel : Nat} {v : Value} {x : DataW H × List MemPlace} (ht : P.underlying t = some .bool)
    (h : DataW.trod enc P w base spare held fuel t [v] = some x) : ∃ b, v = .bool b := by
  obtain ⟨b, hv, _⟩ := DataW.trod_bool ht h
  exact ⟨b, by simpa using hv⟩
theorem cell_string {H : Type} {enc : TypeId × Value → H} {P : Program} {w : World} {base : Nat} {spare : Nat → Bool} {held : Bool} {t : TypeId} {fuel : Nat} {v : Value} {x : DataW H × List MemPlace} (ht : P.underlying t = some .string)
    (h : DataW.trod enc P w base spare held fuel t [v] = some x) : ∃ s : ByteArray, v = .string s ∧ s.size ≤ maxLen := by
  obtain ⟨s, hv, _, hs⟩ := DataW.trod_string ht h
  exact ⟨s, by simpa using hv, hs⟩
/-- A cell that holds a slice of whole numbers. -/
theorem cell_rds {H : Type} {enc : TypeId × Value → H} {P : Program} {w : World} {base : Nat} {held : Bool} {t e : TypeId} {k : IntKind} {fuel : Nat} {v : Value} {x : DataW H × List MemPlace} (ht : P.underlying t = some (.slice e)) (he : P.underlying e = some (.int k)) (hc : P.cellsOf e = 1)
    (h : DataW.trod enc P w base (fun _ => true) held fuel t [v] = some x) : ∃ A c xs, v = .slice A xs.length c ∧ Rds w.heap.size w k A xs.length c xs ∧ ∀ y ∈ xs, (Lit.int k y).wf = true := by
  rcases open_ints ht he hc h with ⟨hcs, _⟩ | ⟨a, l, c, zs, hcs, _, hl, hm, hz, _, hcell, hwz⟩
  · obtain rfl : v = .slice none 0 0 := by simpa using hcs
    exact ⟨none, 0, [], rfl, Rds.nil _ _ _, fun y hy => by simp at hy⟩
  · obtain rfl : v = .slice (some a) l c := by simpa using hcs
    have hz' : zs.length = c := by simpa using hz
    have hlen : (zs.take l).length = l := by simp; omega
    have hn : ∀ j, j < l → nth (zs.take l) j = zs.getD j 0 := fun j hj => by rw [nth_take hj]; rfl
    refine ⟨some a, c, zs.take l, by rw [hlen], ⟨rfl, by omega, by simpa only [maxLen] using hm, fun j hj => ?_, fun p b e => ?_⟩, fun y hy => hwz y (List.mem_of_mem_take hy)⟩
    · have hj' : j < l := by simp at hj; omega
      refine ⟨_, rfl, ?_⟩
      rw [hn j hj']
      exact hcell j (by omega)
    · cases e
      have h0 := hcell 0 (by omega)
      have := World.block_lt_of_cell? _ _ h0
      rw [add_block] at this
      exact ⟨this, .inl this⟩
theorem wf_i64 {x : Int} (h : (Lit.int .i64 x).wf = true) : -9223372036854775808 ≤ x ∧ x ≤ 9223372036854775807 := by
  have := bounds_i64 h
  omega
theorem wf_byte {x : Int} (h : (Lit.int .u8 x).wf = true) : 0 ≤ x ∧ x ≤ 255 := bounds_u8 h
/-- A struct by value, field by field. -/
theorem agg_fields {H : Type} {enc : TypeId × Value → H} {P : Program} {w : World} {r : Reach} {b0 base : Nat} {spare : Nat → Bool} {held : Bool} {t : TypeId} {fs : Array Field} {v : Value} {d : DataW H} {p : List MemPlace} (he : P.underlying t = some (.struct fs)) (hone : Deep.oneCellFields P fs = true) (hC : P.cellsOf t = fs.size)
    (hv : Value.okWide P w r b0 t v) (h : DataW.Trod enc P w base spare held t v d p) :
    ∃ cs : Array Value, v = .agg cs ∧ cs.size = fs.size ∧ ∀ (j : Nat) (f : Field), fs[j]? = some f → ∃ u y n, cs[j]? = some u ∧ DataW.trod enc P w base spare held n f.type [u] = some y := by
  obtain ⟨cs, rfl, hsz⟩ := okWide_struct he hv
  obtain ⟨fuel, hf⟩ := h
  refine ⟨cs, rfl, by omega, fun j f hj => ?_⟩
  have hl : (Value.agg cs).cells.toList.length = fs.size := by simp [Value.cells]; omega
  obtain ⟨u, y, n, e, ht⟩ := field_trod he hone hf hl j f hj
  exact ⟨u, y, n, by simpa [Value.cells] using e, ht⟩
theorem arr3 {cs : Array Value} {a b c : Value} (h : cs.size = 3) (h0 : cs[0]? = some a) (h1 : cs[1]? = some b) (h2 : cs[2]? = some c) : cs = #[a, b, c] := by
  obtain ⟨l⟩ := cs
  match l, h with
  | [x, y, z], _ => simp at h0 h1 h2; rw [h0, h1, h2]
theorem arr5 {cs : Array Value} {a b c d e : Value} (h : cs.size = 5) (h0 : cs[0]? = some a) (h1 : cs[1]? = some b) (h2 : cs[2]? = some c) (h3 : cs[3]? = some d) (h4 : cs[4]? = some e) : cs = #[a, b, c, d, e] := by
  obtain ⟨l⟩ := cs
  match l, h with
  | [x, y, z, u, v], _ => simp at h0 h1 h2 h3 h4; rw [h0, h1, h2, h3, h4]
end Go.Proofs.YtbfgoojpbhlboaaDoor
