/- Whole numbers that fit; rows of terms and constants of bytes as arguments. No condition. -/
import Derived.Test.YtomopjpfdmpgpaaAwake2
import Derived.Test.YtomopjpfdmpgpaaTabIdeal
import Derived.Lib.SlBytesConst
set_option linter.unusedVariables false
set_option linter.unusedSimpArgs false
namespace Go.Proofs.Ytomopjpfdmpgpaa
open Go Go.RowKit Go.WideMaps

def Fit (x : Int) : Prop := -9223372036854775808 ≤ x ∧ x ≤ 9223372036854775807
theorem fit_of {x : Int} (h : 0 ≤ x ∧ x ≤ 65536) : Fit x := ⟨by omega, by omega⟩
theorem TabPost.of {B tb : Nat} {w w1 w' : World} {r : List Nd × Int} {e : Ending} (hf : Frm tabO B w w1) (p : TabPost B tb w1 r e w') : ∃ T h, r = (T, h) ∧ e = .returned (.int .i64 h) ∧ IsTab B w' tb T ∧ Frm tabO B w w' := ⟨r.1, r.2, rfl, p.1, p.2.1, hf.trans p.2.2⟩
theorem make_fit {B tb g t : Nat} {T : List Nd} (kind : Int) (xs : List Int) (w : World) (ht : IsTab B w tb T) (hg : w.heap.size = g) (hx : ∀ x ∈ xs, Fit x) (hn : xs.length ≤ 1000000) (cs : Array Value) (hc : cs = (xs.map (Value.int .i64)).toArray) (hs : spT t = false) (n : Nat) (hl : xs.length = n) :
    Calls Try.prog 21 #[.pointer (some ⟨tb, 0, none⟩), .int .i64 kind, .slice (some ⟨g, 0, none⟩) n n] (w.alloc (.cells cs t)) (TabPost B tb w (makeT T kind xs)) := make_lit kind xs w ht hg hx hn cs hc hs n hl

/-- A row of bytes just made, its cells marked or not. -/
theorem rds_marked {w : World} {B g t : Nat} {xs : List Int} (fr : Nat × Nat) (hg : w.heap.size = g) (ht : spT t = false) (cs : Array Value) (hc : cs = (xs.map (Value.int .u8)).toArray) (n : Nat) (hl : xs.length = n) (hm : n ≤ 1000000) :
    Rds B (w.alloc (.cells cs t fr)) .u8 (some ⟨g, 0, none⟩) n n xs := by
  subst hg hc hl
  have hn : (w.alloc (.cells (xs.map (Value.int .u8)).toArray t fr)).heap[w.heap.size]? = some (.cells (xs.map (Value.int .u8)).toArray t fr) := heap_alloc_new w _
  refine ⟨rfl, Nat.le_refl _, by omega, fun j hj => ⟨_, rfl, ?_⟩, fun _ a e => ?_⟩
  · rw [addr_add, Nat.zero_add, cell_of_row _ _ j _ _ _ hn]
    simp [List.getElem?_map, nth_lt hj]
  · cases e
    exact ⟨by simp, .inr ⟨_, _, _, hn, ht⟩⟩
theorem run_const_bytes (w : World) (C : Array Value) (n c : Nat) : (convert 22 22 (.slice (some ⟨w.heap.size, 0, none⟩) n c)).run Try.prog (w.alloc (.cells C 5)) = .ok (.slice (some ⟨w.heap.size, 0, none⟩) n c) (w.alloc (.cells C 5 (C.size, C.size + 1))) :=
  Lib.run_convert_bytes_const w 22 5 C n c Try.underlying22 Try.underlying5
end Go.Proofs.Ytomopjpfdmpgpaa
