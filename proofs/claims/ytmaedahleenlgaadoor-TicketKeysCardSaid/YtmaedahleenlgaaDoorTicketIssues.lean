/- The walk of TicketIssues. No condition but the table of bit places. -/
import Derived.Test.YtmaedahleenlgaaDoorLaw17
import Derived.Test.YtmaedahleenlgaaDoorRow17
set_option linter.unusedVariables false
set_option linter.unusedSimpArgs false
namespace Go.Proofs.YtmaedahleenlgaaDoor
open Go Go.RowKit Go.WideMaps

/-- A local ticket of the reference. -/
def Tk3At (w : World) (g : Nat) (v t l : Int) : Prop := w.heap[g]? = some (.cells #[.int .i64 v, .int .i64 t, .int .i64 l] 58 (0, 0))
theorem Tk3At.later {w w' : World} {B g : Nat} {v t l : Int} (h : Tk3At w g v t l) (hb : Below B w w') (hB : g < B) : Tk3At w' g v t l := (hb.block _ hB).trans h
theorem Tk3At.frm {w w' : World} {B g : Nat} {v t l : Int} (h : Tk3At w g v t l) (hf : Frm tabO B w w') : Tk3At w' g v t l := hf.block _ _ h (.inr rfl)
theorem Tk3At.lt {w : World} {g : Nat} {v t l : Int} (h : Tk3At w g v t l) : g < w.heap.size := lt_of_get h
theorem Tk3At.x0 {w : World} {g : Nat} {v t l : Int} (h : Tk3At w g v t l) : w.cell? ⟨g, 0, none⟩ = some (.int .i64 v) := by rw [cell_of_row w g 0 _ _ _ h]; rfl
theorem Tk3At.x1 {w : World} {g : Nat} {v t l : Int} (h : Tk3At w g v t l) : w.cell? ⟨g, 1, none⟩ = some (.int .i64 t) := by rw [cell_of_row w g 1 _ _ _ h]; rfl
theorem Tk3At.x2 {w : World} {g : Nat} {v t l : Int} (h : Tk3At w g v t l) : w.cell? ⟨g, 2, none⟩ = some (.int .i64 l) := by rw [cell_of_row w g 2 _ _ _ h]; rfl
/-- A local row of two terms. -/
def RowAt (W : World) (l g c : Nat) (p q : Int) : Prop :=
  W.heap[l]? = some (.cells #[.int .i64 3, .string ByteArray.empty, .slice (some ⟨g, 0, none⟩) 2 c] 40 (0, 0)) ∧ OwnI W 0 .i64 (.slice (some ⟨g, 0, none⟩) 2 c) [p, q]
theorem RowAt.below {W W' : World} {l g c : Nat} {p q : Int} (h : RowAt W l g c p q) (hb : Below W.heap.size W W') : RowAt W' l g c p q := ⟨(hb.block _ (lt_of_get h.1)).trans h.1, h.2.below hb⟩
theorem RowAt.frm {W W' : World} {B l g c : Nat} {p q : Int} (h : RowAt W l g c p q) (hf : Frm tabO B W W') : RowAt W' l g c p q := ⟨hf.block _ _ h.1 (.inr rfl), h.2.frm hf.tab_sp⟩
theorem RowAt.kind {W : World} {l g c : Nat} {p q : Int} (h : RowAt W l g c p q) : W.cell? ⟨l, 0, none⟩ = some (.int .i64 3) := by rw [cell_of_row W l 0 _ _ _ h.1]; rfl
theorem RowAt.parts {W : World} {l g c : Nat} {p q : Int} (h : RowAt W l g c p q) : W.cell? ⟨l, 2, none⟩ = some (.slice (some ⟨g, 0, none⟩) 2 c) := by rw [cell_of_row W l 2 _ _ _ h.1]; rfl
theorem RowAt.cells {W : World} {l g c : Nat} {p q : Int} (h : RowAt W l g c p q) : W.cell? ⟨g, 0, none⟩ = some (.int .i64 p) ∧ W.cell? ⟨g, 1, none⟩ = some (.int .i64 q) := by
  obtain ⟨g', e, -, h0, h1⟩ := two_parts h.2
  cases e
  exact ⟨h0, h1⟩
theorem RowAt.four {W : World} {l g c : Nat} {p q : Int} (h : RowAt W l g c p q) : W.cell? ⟨l, 0, none⟩ = some (.int .i64 3) ∧ W.cell? ⟨l, 2, none⟩ = some (.slice (some ⟨g, 0, none⟩) 2 c) ∧ W.cell? ⟨g, 0, none⟩ = some (.int .i64 p) ∧ W.cell? ⟨g, 1, none⟩ = some (.int .i64 q) := ⟨h.kind, h.parts, h.cells.1, h.cells.2⟩
/-- A text that is there. -/
theorem text_there {T : List Nd} (hw : WfT T) {x : Int} {b : ByteArray} (h : getT T x = some (nT b)) (hb : b.size ≤ 2048) : textT T b = (T, x) := by
  have hr := getT_range h
  have hi : T[(x - 1).toNat]? = some (nT b) := by
    unfold getT at h
    rwa [if_pos hr.1] at h
  have hl : lookT T (nT b) = some (x - 1).toNat := lookT_of hw hi (by show (1 : Int) ≠ 2; decide)
  unfold textT
  rw [if_pos hb]
  unfold addT
  rw [show (⟨1, b, []⟩ : Nd) = nT b from rfl, if_neg (by show ¬ (1 : Int) = 2; decide), hl]
  show (T, ((x - 1).toNat : Int) + 1) = _
  congr 1
  omega

end Go.Proofs.YtmaedahleenlgaaDoor
