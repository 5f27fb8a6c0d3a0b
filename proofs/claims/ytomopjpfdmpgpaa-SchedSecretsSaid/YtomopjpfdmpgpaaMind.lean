/- A mind in memory (layer 3): its rows of bools; what its calls may turn. No condition. -/
import Derived.Test.YtomopjpfdmpgpaaTerm3
import Derived.Test.YtomopjpfdmpgpaaPureKnow2
import Derived.Laws.OwnMore
import Derived.Laws.AppendOwn
set_option linter.unusedVariables false
set_option linter.unusedSimpArgs false
namespace Go.Proofs.Ytomopjpfdmpgpaa
open Go Go.RowKit

theorem info_bool : (Try.prog.info? 4).map (fun i => (i.zero, i.size, i.bytes)) = some (some (.bool false), 1, 1) := by kernel_rfl

/-- v is a row of bools of the call's own. -/
def OwnB (w : World) (B : Nat) (v : Value) (bs : List Bool) : Prop := w.ownsRow B 4 1 v bs.length (bs.map Value.bool)
theorem OwnB.nil (w : World) (B : Nat) : OwnB w B (.slice none 0 0) [] := World.ownsRow_nil _ _ _ _
theorem OwnB.lt {w : World} {B : Nat} {v : Value} {bs : List Bool} (h : OwnB w B v bs) : ∀ k, v.ownBlock = some k → B ≤ k ∧ k < w.heap.size := World.ownsRow.lt h
theorem OwnB.same {w w' : World} {B : Nat} {v : Value} {bs : List Bool} (h : OwnB w B v bs) (hk : ∀ g, v.ownBlock = some g → w'.heap[g]? = w.heap[g]?) : OwnB w' B v bs := by
  refine ⟨h.1, ?_⟩
  rcases h.2 with hn | ⟨g, cap, cur, rfl, hb, hgg, rest⟩
  · exact .inl hn
  · exact .inr ⟨g, cap, cur, rfl, hb, (hk g rfl).trans hgg, rest⟩
theorem OwnB.below {w w' : World} {B : Nat} {v : Value} {bs : List Bool} (h : OwnB w B v bs) (hb : Below w.heap.size w w') : OwnB w' B v bs := h.same fun g e => hb.block _ (h.lt g e).2
theorem OwnB.mono {w : World} {B B' : Nat} {v : Value} {bs : List Bool} (h : OwnB w B v bs) (hB : B' ≤ B) : OwnB w B' v bs := by
  refine ⟨h.1, ?_⟩
  rcases h.2 with hn | ⟨g, cap, cur, e, hb, rest⟩
  · exact .inl hn
  · exact .inr ⟨g, cap, cur, e, by omega, rest⟩
theorem OwnB.slice {w : World} {B : Nat} {v : Value} {bs : List Bool} (h : OwnB w B v bs) : ∃ A c, v = .slice A bs.length c := by
  rcases h.2 with ⟨rfl, hn⟩ | ⟨g, cap, cur, rfl, _⟩
  · exact ⟨none, 0, by rw [hn]⟩
  · exact ⟨_, _, rfl⟩
theorem OwnB.type {w : World} {B : Nat} {v : Value} {bs : List Bool} (h : OwnB w B v bs) : ∀ g, v.ownBlock = some g → ∃ cur, w.heap[g]? = some (.cells cur 4 (0, 0)) := by
  intro g e
  rcases h.2 with ⟨rfl, _⟩ | ⟨g', cap, cur, rfl, _, hg, _⟩
  · simp [Value.ownBlock] at e
  · simp [Value.ownBlock] at e
    subst e
    exact ⟨cur, hg⟩
theorem getD_map_bool (bs : List Bool) (j : Nat) (hj : j < bs.length) : (bs.map Value.bool)[j]? = some (.bool (bs.getD j false)) := by
  rw [List.getElem?_map, List.getD_eq_getElem?_getD, List.getElem?_eq_getElem hj]; rfl
/-- The row's cells. -/
theorem OwnB.form {w : World} {B : Nat} {v : Value} {bs : List Bool} (h : OwnB w B v bs) (h0 : 0 < bs.length) : ∃ g cap, v = .slice (some ⟨g, 0, none⟩) bs.length cap ∧ B ≤ g ∧ g < w.heap.size ∧ bs.length ≤ cap ∧ cap ≤ 9223372036854775807 ∧
    (∀ j, j < bs.length → w.cell? ⟨g, j, none⟩ = some (.bool (bs.getD j false))) ∧ (∀ j, w.frozen? ⟨g, j, none⟩ = false) ∧
    (∀ j b, j < bs.length → OwnB (w.setCell ⟨g, j, none⟩ (.bool b)) B v (bs.set j b)) := by
  have h' := h
  rcases h.2 with ⟨rfl, hn⟩ | ⟨g, cap, cur, rfl, hb, hg, hc, hm, _⟩
  · omega
  · have h'' : w.ownsRow B 4 1 (.slice (some ⟨g, 0, none⟩) bs.length cap) bs.length (bs.map Value.bool) := h'
    refine ⟨g, cap, rfl, hb, lt_of_get hg, hc, by simpa only [maxLen] using hm, fun j hj => ?_, fun j => h''.frozenAt j, fun j b hj => ?_⟩
    · rw [h''.cellAt j (by omega)]
      exact getD_map_bool bs j hj
    · have := (h''.stored j (.bool b)).1
      unfold OwnB
      rw [List.length_set, List.map_set]
      exact this

/-- The blocks that a mind's calls turn. -/
def mndO : Obj → Bool
  | .cells _ t _ => t == 119 || t == 4
  | _ => false
theorem mndO_sp : ∀ o, mndO o = true → spO o = true := by
  intro o h
  unfold mndO at h
  unfold spO
  split at h
  · rename_i c t f
    simp only [Bool.or_eq_true, beq_iff_eq] at h
    rcases h with rfl | rfl <;> rfl
  · cases h
theorem mndO_tab : ∀ o, tabT o = true → mndO o = false := by
  intro o h
  unfold tabT at h
  unfold mndO
  split at h
  · rename_i c t f
    simp only [Bool.or_eq_true, beq_iff_eq] at h
    rcases h with rfl | rfl <;> rfl
  · rfl
  · cases h
/-- From w to w' no block turned but those that S names. -/
structure MFrm (S : Nat → Prop) (w w' : World) : Prop where
  os : w'.os = w.os
  tape : w'.tape = w.tape
  output : w'.output = w.output
  size : w.heap.size ≤ w'.heap.size
  block : ∀ k, k < w.heap.size → ¬ S k → w'.heap[k]? = w.heap[k]?
theorem MFrm.refl (S : Nat → Prop) (w : World) : MFrm S w w := ⟨rfl, rfl, rfl, Nat.le_refl _, fun _ _ _ => rfl⟩
theorem MFrm.of_below {S : Nat → Prop} {w w' : World} (h : Below w.heap.size w w') : MFrm S w w' := ⟨h.os, h.tape, h.output, h.size, fun k hk _ => h.block k hk⟩
theorem MFrm.trans {S S' : Nat → Prop} {a b c : World} (h : MFrm S a b) (k : MFrm S' b c) (hs : ∀ i, S' i → S i ∨ a.heap.size ≤ i) : MFrm S a c :=
  ⟨k.os.trans h.os, k.tape.trans h.tape, k.output.trans h.output, Nat.le_trans h.size k.size, fun i hi hn => (k.block i (Nat.lt_of_lt_of_le hi h.size) fun q => (hs i q).elim hn (by omega)).trans (h.block i hi hn)⟩
theorem MFrm.below {S : Nat → Prop} {w w' : World} {B : Nat} (h : MFrm S w w') (hB : B ≤ w.heap.size) (hs : ∀ i, S i → B ≤ i) : Below B w w' := ⟨h.os, h.tape, h.output, h.size, fun k hk => h.block k (by omega) fun q => by have := hs k q; omega⟩
theorem MFrm.set {S : Nat → Prop} (w : World) (p : Addr) (v : Value) (hp : S p.block) : MFrm S w (w.setCell p v) :=
  ⟨rfl, rfl, rfl, by simp [World.setCell], fun k _ hn => Below.heap_setCell w p v k (fun e => hn (by rw [e]; exact hp))⟩
theorem MFrm.mono {S S' : Nat → Prop} {w w' : World} (h : MFrm S w w') (hs : ∀ i, S i → S' i ∨ w.heap.size ≤ i) : MFrm S' w w' :=
  ⟨h.os, h.tape, h.output, h.size, fun k hk hn => h.block k hk fun q => (hs k q).elim hn (by omega)⟩
theorem MFrm.of_grown {S : Nat → Prop} {w w' : World} {row : Option Nat} (h : w.grownBy w' row) (hs : ∀ i, row = some i → S i) : MFrm S w w' := ⟨h.os, h.tape, h.output, h.size, fun k hk hn => h.block k hk fun e => hn (hs k e.symm)⟩
theorem MFrm.drew {S : Nat → Prop} {w w' : World} (h : MFrm S w w') : MFrm S w w'.drew := ⟨h.os, h.tape, h.output, h.size, h.block⟩

/-- A mind's block and its two rows. -/
def mS (mb : Nat) (v1 v2 : Value) : Nat → Prop := fun k => k = mb ∨ v1.ownBlock = some k ∨ v2.ownBlock = some k
structure MindAt (B : Nat) (w : World) (mb : Nat) (tp : Option Addr) (v1 v2 : Value) (F C : List Bool) (size : Nat) (fresh : Bool) : Prop where
  blk : w.heap[mb]? = some (.cells #[.pointer tp, v1, v2, .int .i64 size, .bool fresh] 119 (0, 0))
  f : OwnB w B v1 F
  c : OwnB w B v2 C
  apart : ∀ g, v1.ownBlock = some g → v2.ownBlock ≠ some g
  base : B ≤ mb
theorem MindAt.lt {B : Nat} {w : World} {mb : Nat} {tp : Option Addr} {v1 v2 : Value} {F C : List Bool} {size : Nat} {fresh : Bool} (h : MindAt B w mb tp v1 v2 F C size fresh) : mb < w.heap.size := lt_of_get h.blk
theorem MindAt.ne {B : Nat} {w : World} {mb : Nat} {tp : Option Addr} {v1 v2 : Value} {F C : List Bool} {size : Nat} {fresh : Bool} (h : MindAt B w mb tp v1 v2 F C size fresh) : (∀ g, v1.ownBlock = some g → g ≠ mb) ∧ (∀ g, v2.ownBlock = some g → g ≠ mb) := by
  have key : ∀ {v : Value} {bs : List Bool}, OwnB w B v bs → ∀ g, v.ownBlock = some g → g ≠ mb := fun {v bs} o g e q => by
    obtain ⟨cur, hg⟩ := o.type g e
    have hb := h.blk
    rw [← q, hg] at hb
    simp only [Option.some.injEq, Obj.cells.injEq] at hb
    exact absurd hb.2.1 (by decide)
  exact ⟨key h.f, key h.c⟩
theorem MindAt.keep {B : Nat} {w w' : World} {mb : Nat} {tp : Option Addr} {v1 v2 : Value} {F C : List Bool} {size : Nat} {fresh : Bool} (h : MindAt B w mb tp v1 v2 F C size fresh) (hk : ∀ k, mS mb v1 v2 k → w'.heap[k]? = w.heap[k]?) : MindAt B w' mb tp v1 v2 F C size fresh :=
  ⟨(hk mb (.inl rfl)).trans h.blk, h.f.same fun g e => hk g (.inr (.inl e)), h.c.same fun g e => hk g (.inr (.inr e)), h.apart, h.base⟩
theorem MindAt.sub {B : Nat} {w : World} {mb : Nat} {tp : Option Addr} {v1 v2 : Value} {F C : List Bool} {size : Nat} {fresh : Bool} (h : MindAt B w mb tp v1 v2 F C size fresh) : ∀ k, mS mb v1 v2 k → B ≤ k ∧ k < w.heap.size := by
  rintro k (rfl | e | e)
  · exact ⟨h.base, h.lt⟩
  · exact h.f.lt k e
  · exact h.c.lt k e
theorem MindAt.below {B : Nat} {w w' : World} {mb : Nat} {tp : Option Addr} {v1 v2 : Value} {F C : List Bool} {size : Nat} {fresh : Bool} (h : MindAt B w mb tp v1 v2 F C size fresh) (hb : Below w.heap.size w w') : MindAt B w' mb tp v1 v2 F C size fresh := h.keep fun k hk => hb.block k (h.sub k hk).2
/-- What turns tables alone, or a loop's own records, leaves a mind. -/
theorem MindAt.frm {Cq : Obj → Bool} {B B' : Nat} {w w' : World} {mb : Nat} {tp : Option Addr} {v1 v2 : Value} {F C : List Bool} {size : Nat} {fresh : Bool} (h : MindAt B w mb tp v1 v2 F C size fresh) (hf : Frm Cq B' w w') (hc : ∀ o, mndO o = true → Cq o = false) : MindAt B w' mb tp v1 v2 F C size fresh := h.keep fun k hk => by
  rcases hk with rfl | e | e
  · rw [h.blk]; exact hf.block _ _ h.blk (.inr (hc _ rfl))
  · obtain ⟨cur, hg⟩ := h.f.type k e
    rw [hg]; exact hf.block _ _ hg (.inr (hc _ rfl))
  · obtain ⟨cur, hg⟩ := h.c.type k e
    rw [hg]; exact hf.block _ _ hg (.inr (hc _ rfl))
theorem tabO_mnd : ∀ o, mndO o = true → tabO o = false := fun o h => by
  cases k : tabO o with
  | false => rfl
  | true => have := mndO_tab o (tabO_T o k); rw [h] at this; cases this
theorem MindAt.mfrm {B : Nat} {w w' : World} {mb : Nat} {tp : Option Addr} {v1 v2 : Value} {F C : List Bool} {size : Nat} {fresh : Bool} (h : MindAt B w mb tp v1 v2 F C size fresh) (hf : MFrm (mS mb v1 v2) w w') : Frm mndO B w w' :=
  ⟨hf.os, hf.tape, hf.output, hf.size, fun k o hk hc => by
    refine (hf.block k (lt_of_get hk) fun q => ?_).trans hk
    have hB := (h.sub k q).1
    rcases hc with hc | hc
    · omega
    · have : mndO o = true := by
        rcases q with rfl | e | e
        · have := h.blk; rw [hk] at this; cases this; rfl
        · obtain ⟨cur, hg⟩ := h.f.type k e; rw [hk] at hg; cases hg; rfl
        · obtain ⟨cur, hg⟩ := h.c.type k e; rw [hk] at hg; cases hg; rfl
      rw [this] at hc; cases hc⟩
theorem MindAt.cells {B : Nat} {w : World} {mb : Nat} {tp : Option Addr} {v1 v2 : Value} {F C : List Bool} {size : Nat} {fresh : Bool} (h : MindAt B w mb tp v1 v2 F C size fresh) :
    w.cell? ⟨mb, 0, none⟩ = some (.pointer tp) ∧ w.cell? ⟨mb, 1, none⟩ = some v1 ∧ w.cell? ⟨mb, 2, none⟩ = some v2 ∧ w.cell? ⟨mb, 3, none⟩ = some (.int .i64 size) ∧ w.cell? ⟨mb, 4, none⟩ = some (.bool fresh) := by
  refine ⟨?_, ?_, ?_, ?_, ?_⟩
  · rw [cell_of_row w _ 0 _ _ _ h.blk]; rfl
  · rw [cell_of_row w _ 1 _ _ _ h.blk]; rfl
  · rw [cell_of_row w _ 2 _ _ _ h.blk]; rfl
  · rw [cell_of_row w _ 3 _ _ _ h.blk]; rfl
  · rw [cell_of_row w _ 4 _ _ _ h.blk]; rfl
theorem MindAt.free {B : Nat} {w : World} {mb : Nat} {tp : Option Addr} {v1 v2 : Value} {F C : List Bool} {size : Nat} {fresh : Bool} (h : MindAt B w mb tp v1 v2 F C size fresh) (i : Nat) : w.frozen? ⟨mb, i, none⟩ = false := by simp [World.frozen?, h.blk]
theorem mblk_set {w : World} {g i : Nat} {cs : Array Value} {t : TypeId} {fr : Nat × Nat} (h : w.heap[g]? = some (.cells cs t fr)) (v : Value) : (w.setCell ⟨g, i, none⟩ v).heap[g]? = some (.cells (cs.setIfInBounds i v) t fr) := by
  rw [setCell_eq_setRow w g i cs t fr v h]
  exact setRow_heap w g _ _ t _ h
theorem mblk_other (w : World) {g i k : Nat} (v : Value) (h : k ≠ g) : (w.setCell ⟨g, i, none⟩ v).heap[k]? = w.heap[k]? := Below.heap_setCell w ⟨g, i, none⟩ v k h
theorem MindAt.setFresh {B : Nat} {w : World} {mb : Nat} {tp : Option Addr} {v1 v2 : Value} {F C : List Bool} {size : Nat} {fresh : Bool} (h : MindAt B w mb tp v1 v2 F C size fresh) (b : Bool) : MindAt B (w.setCell ⟨mb, 4, none⟩ (.bool b)) mb tp v1 v2 F C size b :=
  ⟨mblk_set h.blk _, h.f.same fun g e => mblk_other _ _ (h.ne.1 g e), h.c.same fun g e => mblk_other _ _ (h.ne.2 g e), h.apart, h.base⟩
theorem MindAt.setSize {B : Nat} {w : World} {mb : Nat} {tp : Option Addr} {v1 v2 : Value} {F C : List Bool} {size : Nat} {fresh : Bool} (h : MindAt B w mb tp v1 v2 F C size fresh) (n : Nat) : MindAt B (w.setCell ⟨mb, 3, none⟩ (.int .i64 n)) mb tp v1 v2 F C n fresh :=
  ⟨mblk_set h.blk _, h.f.same fun g e => mblk_other _ _ (h.ne.1 g e), h.c.same fun g e => mblk_other _ _ (h.ne.2 g e), h.apart, h.base⟩
/-- A new first row. -/
theorem MindAt.setF {B : Nat} {w : World} {mb : Nat} {tp : Option Addr} {v1 v2 v1' : Value} {F F' C : List Bool} {size : Nat} {fresh : Bool} (h : MindAt B w mb tp v1 v2 F C size fresh) (h' : OwnB w B v1' F') (ha : ∀ g, v1'.ownBlock = some g → v2.ownBlock ≠ some g ∧ g ≠ mb) : MindAt B (w.setCell ⟨mb, 1, none⟩ v1') mb tp v1' v2 F' C size fresh :=
  ⟨mblk_set h.blk _, h'.same fun g e => mblk_other _ _ (ha g e).2, h.c.same fun g e => mblk_other _ _ (h.ne.2 g e), fun g e => (ha g e).1, h.base⟩
theorem MindAt.setC {B : Nat} {w : World} {mb : Nat} {tp : Option Addr} {v1 v2 v2' : Value} {F C C' : List Bool} {size : Nat} {fresh : Bool} (h : MindAt B w mb tp v1 v2 F C size fresh) (h' : OwnB w B v2' C') (ha : ∀ g, v2'.ownBlock = some g → v1.ownBlock ≠ some g ∧ g ≠ mb) : MindAt B (w.setCell ⟨mb, 2, none⟩ v2') mb tp v1 v2' F C' size fresh :=
  ⟨mblk_set h.blk _, h.f.same fun g e => mblk_other _ _ (h.ne.1 g e), h'.same fun g e => mblk_other _ _ (ha g e).2, fun g e k => (ha g k).1 e, h.base⟩
/-- What a call of a mind's leaves: a mind again, its rows where they were or new ones. -/
def MindTo (B : Nat) (w : World) (mb : Nat) (tp : Option Addr) (v1 v2 : Value) (F' C' : List Bool) (size : Nat) (fresh : Bool) (w' : World) : Prop :=
  ∃ v1' v2', MindAt B w' mb tp v1' v2' F' C' size fresh ∧ MFrm (mS mb v1 v2) w w' ∧ (∀ g, v1'.ownBlock = some g → v1.ownBlock = some g ∨ w.heap.size ≤ g) ∧ (∀ g, v2'.ownBlock = some g → v2.ownBlock = some g ∨ w.heap.size ≤ g)
theorem MindTo.sub {B : Nat} {w w' : World} {mb : Nat} {v1 v2 v1' v2' : Value} (h1 : ∀ g, v1'.ownBlock = some g → v1.ownBlock = some g ∨ w.heap.size ≤ g) (h2 : ∀ g, v2'.ownBlock = some g → v2.ownBlock = some g ∨ w.heap.size ≤ g) : ∀ i, mS mb v1' v2' i → mS mb v1 v2 i ∨ w.heap.size ≤ i := by
  rintro i (e | e | e)
  · exact .inl (.inl e)
  · exact (h1 i e).imp (fun q => .inr (.inl q)) id
  · exact (h2 i e).imp (fun q => .inr (.inr q)) id
theorem MindTo.trans {B : Nat} {w w1 w2 : World} {mb : Nat} {tp : Option Addr} {v1 v2 u1 u2 : Value} {F' C' : List Bool} {size : Nat} {fresh : Bool} (hf : MFrm (mS mb v1 v2) w w1) (h1 : ∀ g, u1.ownBlock = some g → v1.ownBlock = some g ∨ w.heap.size ≤ g) (h2 : ∀ g, u2.ownBlock = some g → v2.ownBlock = some g ∨ w.heap.size ≤ g)
    (k : MindTo B w1 mb tp u1 u2 F' C' size fresh w2) : MindTo B w mb tp v1 v2 F' C' size fresh w2 := by
  obtain ⟨x1, x2, ha, hm, q1, q2⟩ := k
  refine ⟨x1, x2, ha, hf.trans hm (MindTo.sub (B := B) (w' := w1) h1 h2), fun g e => ?_, fun g e => ?_⟩
  · rcases q1 g e with q | q
    · exact h1 g q
    · exact .inr (Nat.le_trans hf.size q)
  · rcases q2 g e with q | q
    · exact h2 g q
    · exact .inr (Nat.le_trans hf.size q)
end Go.Proofs.Ytomopjpfdmpgpaa
