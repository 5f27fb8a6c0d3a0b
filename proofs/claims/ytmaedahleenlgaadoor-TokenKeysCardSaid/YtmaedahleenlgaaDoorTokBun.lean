/- What the walks of layer 16's laws keep. No condition. -/
import Derived.Test.YtmaedahleenlgaaDoorLaw16c
set_option linter.unusedVariables false
set_option linter.unusedSimpArgs false
namespace Go.Proofs.YtmaedahleenlgaaDoor
open Go Go.RowKit Go.WideMaps

/-- A local token of the reference. -/
def RtAt (V : World) (g : Nat) (x : Tok) (A : Option Addr) (c : Nat) : Prop := V.heap[g]? = some (.cells #[.bool x.later, .int .i64 x.addr, .int .i64 x.time, .slice A x.name.length c] 24 (0, 0))
theorem RtAt.cells {V : World} {g : Nat} {x : Tok} {A : Option Addr} {c : Nat} (h : RtAt V g x A c) : V.cell? ⟨g, 0, none⟩ = some (.bool x.later) ∧ V.cell? ⟨g, 1, none⟩ = some (.int .i64 x.addr) ∧ V.cell? ⟨g, 2, none⟩ = some (.int .i64 x.time) ∧ V.cell? ⟨g, 3, none⟩ = some (.slice A x.name.length c) := by
  refine ⟨?_, ?_, ?_, ?_⟩
  · rw [cell_of_row V _ 0 _ _ _ h]; rfl
  · rw [cell_of_row V _ 1 _ _ _ h]; rfl
  · rw [cell_of_row V _ 2 _ _ _ h]; rfl
  · rw [cell_of_row V _ 3 _ _ _ h]; rfl
/-- All that the walk keeps: the table; an argument of the reference's kind; whatever else stands in given blocks. -/
structure BunM (w : World) (B0 tb : Nat) (g : Nat) (x : Tok) (A : Option Addr) (c : Nat) (X : World → Prop) (T : List Nd) (V : World) : Prop where
  tab : IsTab B0 V tb T
  rt : RtAt V g x A c
  nm : Rds w.heap.size V .u8 A x.name.length c x.name
  bl : Below w.heap.size w V
  ex : X V
theorem BunM.below {w : World} {B0 tb g : Nat} {x : Tok} {A : Option Addr} {c : Nat} {X : World → Prop} {T : List Nd} {V V' : World} (h : BunM w B0 tb g x A c X T V) (hX : ∀ V V', X V → Below V.heap.size V V' → X V') (hb : Below V.heap.size V V') : BunM w B0 tb g x A c X T V' :=
  ⟨h.tab.below hb, (hb.block _ (lt_of_get h.rt)).trans h.rt, h.nm.below hb, below_next h.bl h.bl.size hb, hX _ _ h.ex hb⟩
theorem BunM.frm {w : World} {B0 tb g : Nat} {x : Tok} {A : Option Addr} {c : Nat} {X : World → Prop} {T T' : List Nd} {V V' : World} (h : BunM w B0 tb g x A c X T V) (hX : ∀ V V', X V → Frm tabO B0 V V' → X V') (ht : IsTab B0 V' tb T') (hf : Frm tabO B0 V V') (hB : w.heap.size ≤ B0) : BunM w B0 tb g x A c X T' V' :=
  ⟨ht, hf.block _ _ h.rt (.inr rfl), h.nm.frm (hf.weak hB).tab_sp, h.bl.trans ((hf.weak hB).below h.bl.size), hX _ _ h.ex hf⟩
/-- A local row of three numbers. -/
def AskAt (V : World) (g : Nat) (a b c : Int) : Prop := V.heap[g]? = some (.cells #[.int .i64 a, .int .i64 b, .int .i64 c] 26 (0, 0))
theorem AskAt.cells {V : World} {g : Nat} {a b c : Int} (h : AskAt V g a b c) : V.cell? ⟨g, 0, none⟩ = some (.int .i64 a) ∧ V.cell? ⟨g, 1, none⟩ = some (.int .i64 b) ∧ V.cell? ⟨g, 2, none⟩ = some (.int .i64 c) := by
  refine ⟨?_, ?_, ?_⟩
  · rw [cell_of_row V _ 0 _ _ _ h]; rfl
  · rw [cell_of_row V _ 1 _ _ _ h]; rfl
  · rw [cell_of_row V _ 2 _ _ _ h]; rfl
theorem AskAt.b {g : Nat} {a b c : Int} : ∀ V V', AskAt V g a b c → Below V.heap.size V V' → AskAt V' g a b c := fun V V' h hb => (hb.block _ (lt_of_get h)).trans h
theorem AskAt.f {B0 g : Nat} {a b c : Int} : ∀ V V', AskAt V g a b c → Frm tabO B0 V V' → AskAt V' g a b c := fun V V' h hf => hf.block _ _ h (.inr rfl)
theorem RtAt.b {g : Nat} {x : Tok} {A : Option Addr} {c : Nat} : ∀ V V', RtAt V g x A c → Below V.heap.size V V' → RtAt V' g x A c := fun V V' h hb => (hb.block _ (lt_of_get h)).trans h
theorem RtAt.f {B0 g : Nat} {x : Tok} {A : Option Addr} {c : Nat} : ∀ V V', RtAt V g x A c → Frm tabO B0 V V' → RtAt V' g x A c := fun V V' h hf => hf.block _ _ h (.inr rfl)
theorem RtAt.lt {V : World} {g : Nat} {x : Tok} {A : Option Addr} {c : Nat} (h : RtAt V g x A c) : g < V.heap.size := lt_of_get h
end Go.Proofs.YtmaedahleenlgaaDoor
