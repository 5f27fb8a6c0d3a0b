/- What slices.Grow and slices.Concat do with rows of bytes. No condition. -/
import Derived.Test.YtmaedahleenlgaaBase
import Derived.Test.YtmaedahleenlgaaPureIdeal
set_option linter.unusedVariables false
set_option linter.unusedSimpArgs false
namespace Go.Proofs.Ytmaedahleenlgaa
open Go Go.RowKit

theorem below_pair {w : World} (o o' : Obj) : Below w.heap.size w ((w.alloc o).alloc o') := ((Below.refl _ _).alloc (Nat.le_refl _) o).alloc (by simp) o'
/-- A call that hands back a row of bytes of its own. -/
def BytesPost (xs : List Int) (w : World) (e : Ending) (w' : World) : Prop := ∃ v, e = .returned v ∧ OwnI w' w.heap.size .u8 v xs ∧ Below w.heap.size w w'
theorem BytesPost.nil {w w' : World} (hb : Below w.heap.size w w') : BytesPost [] w (.returned (.slice none 0 0)) w' := ⟨_, rfl, OwnI.nil _ _ _, hb⟩
theorem OwnI.none_of {w : World} {B : Nat} {k : IntKind} {A : Option Addr} {n c : Nat} {xs : List Int} (h : OwnI w B k (.slice A n c) xs) : OwnI w B k (.slice A 0 c) [] := by
  rcases h with ⟨rfl, e⟩ | ⟨g, cap, cur, t, e, hb, hg, ht, h1, h2, h3, hc⟩
  · cases e; exact OwnI.nil _ _ _
  · cases e; exact .inr ⟨g, c, cur, t, rfl, hb, hg, ht, Nat.zero_le _, h2, h3, by simp⟩

/-- A row of rows of bytes. -/
def RdL (B : Nat) (w : World) (b o : Nat) (L : List (List Int)) : Prop := b < w.heap.size ∧ ∀ i xs, L[i]? = some xs → ∃ A c, w.cell? ⟨b, o + i, none⟩ = some (.slice A xs.length c) ∧ Rds B w .u8 A xs.length c xs
theorem RdL.below {B : Nat} {w w' : World} {b o : Nat} {L : List (List Int)} (h : RdL B w b o L) (hb : Below w.heap.size w w') : RdL B w' b o L :=
  ⟨Nat.lt_of_lt_of_le h.1 hb.size, fun i xs e => by
    obtain ⟨A, c, h1, h2⟩ := h.2 i xs e
    exact ⟨A, c, (hb.cell (by simpa using h.1)).trans h1, h2.below hb⟩⟩
theorem flat_succ {L : List (List Int)} {k : Nat} {xs : List Int} (h : L[k]? = some xs) : (L.take (k + 1)).flatten = (L.take k).flatten ++ xs := by
  rw [List.take_add_one, h]
  simp
theorem flat_le (L : List (List Int)) (k : Nat) : (L.take k).flatten.length ≤ L.flatten.length := by
  have : (L.take k ++ L.drop k).flatten.length = L.flatten.length := by rw [List.take_append_drop]
  simp only [List.flatten_append, List.length_append] at this
  omega
theorem RdL.lit {B g t : Nat} {w0 : World} (hg : w0.heap.size = g) (L : List (Option Addr × Nat × List Int)) (cs : Array Value) (hcs : cs = (L.map fun q => Value.slice q.1 q.2.2.length q.2.1).toArray) (h : ∀ q ∈ L, Rds B w0 .u8 q.1 q.2.2.length q.2.1 q.2.2) :
    RdL B (w0.alloc (.cells cs t)) g 0 (L.map (·.2.2)) := by
  subst hg hcs
  refine ⟨by simp, fun i xs e => ?_⟩
  rw [List.getElem?_map] at e
  obtain ⟨q, hq, rfl⟩ := Option.map_eq_some_iff.1 e
  refine ⟨q.1, q.2.1, ?_, (h q (List.mem_of_getElem? hq)).below (below_new _)⟩
  rw [cell_of_row _ _ (0 + i) _ _ _ (heap_alloc_new w0 _), Nat.zero_add]
  simp [hq]
theorem rds_byte {B g : Nat} {w0 : World} (hg : w0.heap.size = g) (x : Int) : Rds B (w0.alloc (.cells #[.int .u8 x] 5)) .u8 (some ⟨g, 0, none⟩) 1 1 [x] := by
  subst hg
  exact (OwnI.fresh (w := w0) (B := 0) (k := .u8) (xs := [x]) (t := 5) (Nat.zero_le _) (by decide) (by simp)).rds
end Go.Proofs.Ytmaedahleenlgaa
