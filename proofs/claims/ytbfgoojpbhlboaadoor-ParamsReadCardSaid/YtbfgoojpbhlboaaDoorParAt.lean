/- Params in memory. No condition. -/
import Derived.Test.YtbfgoojpbhlboaaDoorParName
set_option linter.unusedVariables false
set_option linter.unusedSimpArgs false
namespace Go.Proofs.YtbfgoojpbhlboaaDoor
open Go Go.RowKit

/-- Params as they lie: their slices' places. -/
structure ParS where
  gA : Option Addr
  gc : Nat
  oA : Option Addr
  oc : Nat
  rA : Option Addr
  rc : Nat
  vA : Option Addr
  vc : Nat
def parCs (p : Par) (s : ParS) : Array Value := #[.int .i64 p.idle, .int .i64 p.data, .bool p.hg, .bool p.ho, .bool p.hr, .slice s.gA p.goal.length s.gc, .slice s.oA p.own.length s.oc, .slice s.rA p.retry.length s.rc, .int .i64 p.chosen, .slice s.vA p.vs.length s.vc]
structure ParAt (B : Nat) (w : World) (p : Par) (s : ParS) : Prop where
  goal : Rds B w .u8 s.gA p.goal.length s.gc p.goal
  own : Rds B w .u8 s.oA p.own.length s.oc p.own
  retry : Rds B w .u8 s.rA p.retry.length s.rc p.retry
  vs : Rds B w .i64 s.vA p.vs.length s.vc p.vs
theorem ParAt.below {B : Nat} {w w' : World} {p : Par} {s : ParS} (h : ParAt B w p s) (hb : Below w.heap.size w w') : ParAt B w' p s := ⟨h.goal.below hb, h.own.below hb, h.retry.below hb, h.vs.below hb⟩
/-- The local variable of params. -/
def ParB (w : World) (b : Nat) (p : Par) (s : ParS) : Prop := w.heap[b]? = some (.cells (parCs p s) 27 (0, 0))
theorem ParB.cell {w : World} {b : Nat} {p : Par} {s : ParS} (h : ParB w b p s) (i : Nat) : w.cell? ⟨b, i, none⟩ = (parCs p s)[i]? := by rw [cell_of_row w b i _ _ _ h]
theorem ParB.later {w w' : World} {B b : Nat} {p : Par} {s : ParS} (h : ParB w b p s) (hb : Below B w w') (hB : b < B) : ParB w' b p s := (hb.block _ hB).trans h
theorem ParB.names {w : World} {b : Nat} {p : Par} {s : ParS} (h : ParB w b p s) : (w.cell? ⟨b, 2, none⟩ = some (.bool p.hg) ∧ w.cell? ⟨b, 5, none⟩ = some (.slice s.gA p.goal.length s.gc)) ∧ (w.cell? ⟨b, 3, none⟩ = some (.bool p.ho) ∧ w.cell? ⟨b, 6, none⟩ = some (.slice s.oA p.own.length s.oc)) ∧ (w.cell? ⟨b, 4, none⟩ = some (.bool p.hr) ∧ w.cell? ⟨b, 7, none⟩ = some (.slice s.rA p.retry.length s.rc)) :=
  ⟨⟨h.cell 2, h.cell 5⟩, ⟨h.cell 3, h.cell 6⟩, ⟨h.cell 4, h.cell 7⟩⟩
theorem OutAt.cell {w : World} {g B : Nat} {xs : List Int} (h : OutAt w g B xs) : ∃ A c, w.cell? ⟨g, 0, none⟩ = some (.slice A xs.length c) ∧ OwnI w B .u8 (.slice A xs.length c) xs ∧ w.heap[g]? = some (.cells #[.slice A xs.length c] 22 (0, 0)) ∧ w.frozen? ⟨g, 0, none⟩ = false := by
  obtain ⟨v, hg, ho⟩ := h
  obtain ⟨A, c, rfl⟩ := ho.slice
  exact ⟨A, c, by rw [cell_of_row w g 0 _ _ _ hg]; rfl, ho, hg, by simp [World.frozen?, hg]⟩
def RightPost (p : Par) (w : World) (e : Ending) (w' : World) : Prop := e = .returned (.bool (decide (rightP p))) ∧ Below w.heap.size w w'

end Go.Proofs.YtbfgoojpbhlboaaDoor
