/- Rows of whole numbers in memory: read, owned, appended to; what a call may turn (typed frames). No condition. -/
import Derived.WalkKit
import Derived.Laws.BytesArg
import Derived.Laws.BitsLemmas
import Derived.Lib.Hide
import Derived.StillTailTactics
import Derived.Lib.AppendZerosOnto
import Derived.Laws.CopyOwn
import Derived.Deep.WholeRow
import Derived.Deep.QuietTactic
import Derived.BigQuiet
import Derived.Lib.ConvBytes
set_option linter.unusedVariables false
set_option linter.unusedSimpArgs false
namespace Go.Proofs.YtbfgoojpbhlboaaDoor
open Go Go.RowKit

/-- The number at place j; 0 beyond the end. -/
def nth (xs : List Int) (j : Nat) : Int := xs.getD j 0
theorem nth_lt {xs : List Int} {j : Nat} (h : j < xs.length) : xs[j]? = some (nth xs j) := by
  simp [nth, List.getElem?_eq_getElem h]
theorem nth_append_left {xs ys : List Int} {j : Nat} (h : j < xs.length) : nth (xs ++ ys) j = nth xs j := by
  simp [nth, List.getElem?_append_left h]
theorem nth_append_right {xs ys : List Int} {j : Nat} (h : xs.length ≤ j) : nth (xs ++ ys) j = nth ys (j - xs.length) := by
  simp [nth, List.getElem?_append_right h]
theorem ext_nth {xs ys : List Int} (hl : xs.length = ys.length) (h : ∀ j, j < xs.length → nth xs j = nth ys j) : xs = ys := by
  apply List.ext_getElem? 
  intro j
  by_cases hj : j < xs.length
  · rw [nth_lt hj, nth_lt (hl ▸ hj), h j hj]
  · rw [List.getElem?_eq_none (by omega), List.getElem?_eq_none (by omega)]
theorem nth_drop (xs : List Int) (i j : Nat) : nth (xs.drop i) j = nth xs (i + j) := by simp [nth, List.getElem?_drop]
theorem nth_take {xs : List Int} {i j : Nat} (h : j < i) : nth (xs.take i) j = nth xs j := by simp [nth, List.getElem?_take, h]
theorem take_nth_succ {xs : List Int} {k : Nat} (h : k < xs.length) : xs.take (k + 1) = xs.take k ++ [nth xs k] := by
  rw [List.take_add_one, nth_lt h]; rfl
theorem nth_mem {xs : List Int} {j : Nat} (h : j < xs.length) : nth xs j ∈ xs := by
  have := nth_lt h
  exact List.mem_of_getElem? this

/-- Types of blocks that are turned behind a pointer: tables, minds and their kin. -/
def spT (t : Nat) : Bool := List.elem t [
  27,
  37,
  25,
  48,
  94,
  44,
  0]

/-- A row of whole numbers of kind k that is read at A. -/
def RdI (w : World) (k : IntKind) (A : Option Addr) (xs : List Int) : Prop :=
  ∀ j, j < xs.length → ∃ ad, A = some ad ∧ w.cell? (ad.add j) = some (.int k (nth xs j))

/-- The block of A is from before B, or no special one. -/
def Sf (B : Nat) (w : World) (A : Option Addr) : Prop := ∀ a, A = some a → a.block < w.heap.size ∧ (a.block < B ∨ ∃ cs t fr, w.heap[a.block]? = some (.cells cs t fr) ∧ spT t = false)

/-- The slice value A, n, c reads as xs. -/
structure Rds (B : Nat) (w : World) (k : IntKind) (A : Option Addr) (n c : Nat) (xs : List Int) : Prop where
  len : xs.length = n
  cap : n ≤ c
  max : c ≤ 9223372036854775807
  cell : RdI w k A xs
  safe : 0 < n → Sf B w A

def RdV (B : Nat) (w : World) (k : IntKind) (v : Value) (xs : List Int) : Prop := ∃ A c, v = .slice A xs.length c ∧ Rds B w k A xs.length c xs

theorem RdI.at_ {w : World} {k : IntKind} {A : Option Addr} {xs : List Int} (h : RdI w k A xs) (h0 : 0 < xs.length) :
    ∃ b o, A = some ⟨b, o, none⟩ ∧ ∀ j, j < xs.length → w.cell? ⟨b, o + j, none⟩ = some (.int k (nth xs j)) := by
  obtain ⟨ad, rfl, h1⟩ := h 0 h0
  have hs : ad.spot = none := by
    unfold World.cell? at h1
    cases hsp : ad.spot with
    | none => rfl
    | some _ => simp [Addr.add, hsp] at h1; split at h1 <;> simp_all
  obtain ⟨b, o, s⟩ := ad
  simp at hs
  subst hs
  refine ⟨b, o, rfl, fun j hj => ?_⟩
  obtain ⟨ad2, he, hc⟩ := h j hj
  cases he
  rw [← hc]
  congr 1
  unfold Addr.add
  split <;> simp_all
theorem RdI.nil (w : World) (k : IntKind) (A : Option Addr) : RdI w k A [] := fun j hj => by simp at hj
theorem RdI.drewN {w : World} {k : IntKind} {A : Option Addr} {xs : List Int} (h : RdI w k A xs) (q : Nat) : RdI (w.drewN q) k A xs := fun j hj => by
  obtain ⟨ad, e, hc⟩ := h j hj
  exact ⟨ad, e, by simpa using hc⟩
theorem addr_add (g o j : Nat) : (⟨g, o, none⟩ : Addr).add j = ⟨g, o + j, none⟩ := by unfold Addr.add; split <;> simp_all

theorem below_drewN {B : Nat} {w W : World} (h : Below B w W) (n : Nat) : Below B w (W.drewN n) := ⟨h.os, h.tape, h.output, h.size, h.block⟩
theorem below_next {B : Nat} {w w1 w2 : World} (h : Below B w w1) (hB : B ≤ w1.heap.size) (k : Below w1.heap.size w1 w2) : Below B w w2 :=
  h.trans ⟨k.os, k.tape, k.output, k.size, fun i hi => k.block i (Nat.lt_of_lt_of_le hi hB)⟩
theorem below_step {w w1 w2 : World} (h : Below w.heap.size w w1) (k : Below w1.heap.size w1 w2) : Below w.heap.size w w2 := below_next h h.size k
theorem grown_of_below {w w1 : World} (h : Below w.heap.size w w1) (row : Option Nat) : w.grownBy w1 row := ⟨h.os, h.tape, h.output, h.size, fun i hi _ => h.block i hi⟩

theorem alloc_old {w : World} {o : Obj} {k : Nat} (h : k < w.heap.size) : (w.alloc o).heap[k]? = w.heap[k]? := Below.heap_alloc w o k h
/-! ### Typed frames -/
/-- From w to w' only blocks from B on turned, and of those that were there only such as C names. -/
structure Frm (C : Obj → Bool) (B : Nat) (w w' : World) : Prop where
  os : w'.os = w.os
  tape : w'.tape = w.tape
  output : w'.output = w.output
  size : w.heap.size ≤ w'.heap.size
  block : ∀ k o, w.heap[k]? = some o → (k < B ∨ C o = false) → w'.heap[k]? = some o
theorem Frm.refl (C : Obj → Bool) (B : Nat) (w : World) : Frm C B w w := ⟨rfl, rfl, rfl, Nat.le_refl _, fun _ _ h _ => h⟩
theorem Frm.trans {C : Obj → Bool} {B : Nat} {a b c : World} (h : Frm C B a b) (k : Frm C B b c) : Frm C B a c :=
  ⟨k.os.trans h.os, k.tape.trans h.tape, k.output.trans h.output, Nat.le_trans h.size k.size, fun i o hi hc => k.block i o (h.block i o hi hc) hc⟩
theorem lt_of_get {w : World} {k : Nat} {o : Obj} (h : w.heap[k]? = some o) : k < w.heap.size := (Array.getElem?_eq_some_iff.1 h).1
theorem Frm.of_below {C : Obj → Bool} {B : Nat} {w w' : World} (h : Below w.heap.size w w') : Frm C B w w' :=
  ⟨h.os, h.tape, h.output, h.size, fun k o hk _ => (h.block k (lt_of_get hk)).trans hk⟩
theorem Frm.below {C : Obj → Bool} {B : Nat} {w w' : World} (h : Frm C B w w') (hB : B ≤ w.heap.size) : Below B w w' :=
  ⟨h.os, h.tape, h.output, h.size, fun k hk => by
    have hk' : k < w.heap.size := by omega
    have e : w.heap[k]? = some w.heap[k] := Array.getElem?_eq_getElem hk'
    rw [e]; exact h.block k _ e (.inl hk)⟩
theorem Frm.weak {C : Obj → Bool} {B B' : Nat} {w w' : World} (h : Frm C B w w') (hB : B' ≤ B) : Frm C B' w w' :=
  ⟨h.os, h.tape, h.output, h.size, fun k o hk hc => h.block k o hk (hc.imp (fun x => by omega) id)⟩
theorem Frm.drewN {C : Obj → Bool} {B : Nat} {w w' : World} (h : Frm C B w w') (n : Nat) : Frm C B w (w'.drewN n) := ⟨h.os, h.tape, h.output, h.size, h.block⟩

/-- Only special blocks turn. -/
def spO : Obj → Bool
  | .cells _ t _ => spT t
  | _ => true

theorem Sf.of_lt {B : Nat} {w : World} {A : Option Addr} (h : ∀ a, A = some a → a.block < B ∧ a.block < w.heap.size) : Sf B w A := fun a e => ⟨(h a e).2, .inl (h a e).1⟩
theorem Sf.none (B : Nat) (w : World) : Sf B w none := fun a e => by cases e
theorem Sf.frm {B : Nat} {w w' : World} {A : Option Addr} (h : Sf B w A) (hf : Frm spO B w w') : Sf B w' A := fun a e => by
  obtain ⟨h1, h2⟩ := h a e
  refine ⟨Nat.lt_of_lt_of_le h1 hf.size, ?_⟩
  rcases h2 with h2 | ⟨cs, t, fr, hb, ht⟩
  · exact .inl h2
  · exact .inr ⟨cs, t, fr, hf.block _ _ hb (.inr (by simpa [spO] using ht)), ht⟩
theorem same_block {B : Nat} {w w' : World} {a : Addr} (hs : a.block < w.heap.size ∧ (a.block < B ∨ ∃ cs t fr, w.heap[a.block]? = some (.cells cs t fr) ∧ spT t = false)) (hf : Frm spO B w w') : w'.heap[a.block]? = w.heap[a.block]? := by
  have e : w.heap[a.block]? = some w.heap[a.block] := Array.getElem?_eq_getElem hs.1
  rcases hs.2 with h2 | ⟨cs, t, fr, hb, ht⟩
  · rw [e]; exact hf.block _ _ e (.inl h2)
  · rw [hb]; exact hf.block _ _ hb (.inr (by simpa [spO] using ht))
theorem add_block (a : Addr) (j : Nat) : (a.add j).block = a.block := by unfold Addr.add; split <;> rfl
theorem RdI.frm {B : Nat} {w w' : World} {k : IntKind} {A : Option Addr} {xs : List Int} (h : RdI w k A xs) (hs : 0 < xs.length → Sf B w A) (hf : Frm spO B w w') : RdI w' k A xs := fun j hj => by
  obtain ⟨ad, e, hc⟩ := h j hj
  refine ⟨ad, e, ?_⟩
  rw [← hc]
  exact World.cell?_of_block (by rw [add_block]; exact same_block (hs (by omega) ad e) hf)
theorem Rds.frm {B : Nat} {w w' : World} {k : IntKind} {A : Option Addr} {n c : Nat} {xs : List Int} (h : Rds B w k A n c xs) (hf : Frm spO B w w') : Rds B w' k A n c xs :=
  ⟨h.len, h.cap, h.max, h.cell.frm (fun p => h.safe (by have := h.len; omega)) hf, fun p => (h.safe p).frm hf⟩
theorem RdV.frm {B : Nat} {w w' : World} {k : IntKind} {v : Value} {xs : List Int} (h : RdV B w k v xs) (hf : Frm spO B w w') : RdV B w' k v xs := by
  obtain ⟨A, c, e, hr⟩ := h
  exact ⟨A, c, e, hr.frm hf⟩
theorem Rds.below {B : Nat} {w w' : World} {k : IntKind} {A : Option Addr} {n c : Nat} {xs : List Int} (h : Rds B w k A n c xs) (hf : Below w.heap.size w w') : Rds B w' k A n c xs := h.frm (.of_below hf)
theorem RdV.below {B : Nat} {w w' : World} {k : IntKind} {v : Value} {xs : List Int} (h : RdV B w k v xs) (hf : Below w.heap.size w w') : RdV B w' k v xs := h.frm (.of_below hf)
theorem Rds.nil (B : Nat) (w : World) (k : IntKind) : Rds B w k none 0 0 [] := ⟨rfl, Nat.le_refl _, by omega, RdI.nil _ _ _, fun _ => Sf.none _ _⟩
theorem RdV.nil (B : Nat) (w : World) (k : IntKind) : RdV B w k (.slice none 0 0) [] := ⟨none, 0, rfl, Rds.nil _ _ _⟩
theorem Rds.drewN {B : Nat} {w : World} {k : IntKind} {A : Option Addr} {n c : Nat} {xs : List Int} (h : Rds B w k A n c xs) (q : Nat) : Rds B (w.drewN q) k A n c xs := h.frm ((Frm.refl _ _ _).drewN q)
theorem Rds.mono {B B' : Nat} {w : World} {k : IntKind} {A : Option Addr} {n c : Nat} {xs : List Int} (h : Rds B w k A n c xs) (hB : B ≤ B') : Rds B' w k A n c xs :=
  ⟨h.len, h.cap, h.max, h.cell, fun p a e => ⟨(h.safe p a e).1, (h.safe p a e).2.imp (fun x => by omega) id⟩⟩

theorem Rds.take {B : Nat} {w : World} {k : IntKind} {A : Option Addr} {n c : Nat} {xs : List Int} (h : Rds B w k A n c xs) {m : Nat} (hm : m ≤ n) : Rds B w k A m c (xs.take m) :=
  ⟨by have := h.len; simp; omega, by have := h.cap; omega, h.max, fun j hj => by
    have hj' : j < m := by simp at hj; omega
    rw [nth_take hj']
    exact h.cell j (by have := h.len; omega), fun p => h.safe (by omega)⟩
theorem Rds.drop {B : Nat} {w : World} {k : IntKind} {b o : Nat} {n c : Nat} {xs : List Int} (h : Rds B w k (some ⟨b, o, none⟩) n c xs) {m : Nat} (hm : m ≤ n) (A : Option Addr) (hA : ¬ c = m → A = some ⟨b, o + m, none⟩) (hA' : c = m → A = some ⟨b, o, none⟩) : Rds B w k A (n - m) (c - m) (xs.drop m) := by
  refine ⟨by have := h.len; simp; omega, by have := h.cap; omega, by have := h.max; omega, fun j hj => ?_, fun p a e => ?_⟩
  · have hl := h.len
    have hc := h.cap
    have hj' : m + j < n := by simp at hj; omega
    rw [hA (by omega), nth_drop]
    obtain ⟨ad, e, hcell⟩ := h.cell (m + j) (by omega)
    cases e
    refine ⟨_, rfl, ?_⟩
    rw [addr_add] at hcell ⊢
    rw [Nat.add_assoc]
    exact hcell
  · by_cases hh : c = m
    · rw [hA' hh] at e; cases e; exact h.safe (by omega) _ rfl
    · rw [hA hh] at e; cases e; exact h.safe (by omega) ⟨b, o, none⟩ rfl

/-! ### Rows of the call's own -/
/-- v is a row of whole numbers that starts at the head of a block from B on, or has no room. -/
def OwnI (w : World) (B : Nat) (k : IntKind) (v : Value) (xs : List Int) : Prop :=
  (xs = [] ∧ v = .slice none 0 0) ∨
  ∃ g cap cur t, v = .slice (some ⟨g, 0, none⟩) xs.length cap ∧ B ≤ g ∧ w.heap[g]? = some (.cells cur t (0, 0)) ∧ spT t = false ∧ xs.length ≤ cap ∧ cap ≤ cur.size ∧ cap ≤ 9223372036854775807 ∧
    cur.toList.take xs.length = xs.map (.int k)

theorem OwnI.nil (w : World) (B : Nat) (k : IntKind) : OwnI w B k (.slice none 0 0) [] := .inl ⟨rfl, rfl⟩
theorem OwnI.mono {w : World} {B B' : Nat} {k : IntKind} {v : Value} {xs : List Int} (h : OwnI w B k v xs) (hB : B' ≤ B) : OwnI w B' k v xs := by
  rcases h with h | ⟨g, cap, cur, t, e, hb, r⟩
  · exact .inl h
  · exact .inr ⟨g, cap, cur, t, e, by omega, r⟩
theorem OwnI.new {w' : World} {B : Nat} {k : IntKind} {xs : List Int} {cur : Array Value} {t cap n : Nat} {g : Nat} (hb : w'.heap[g]? = some (.cells cur t (0, 0))) (hg : B ≤ g) (ht : spT t = false)
    (hn : xs.length = n) (h1 : n ≤ cap) (h2 : cap ≤ cur.size) (h3 : cap ≤ 9223372036854775807) (hc : cur.toList.take n = xs.map (.int k)) : OwnI w' B k (.slice (some ⟨g, 0, none⟩) n cap) xs := by
  subst hn
  exact .inr ⟨g, cap, cur, t, rfl, hg, hb, ht, h1, h2, h3, hc⟩
theorem OwnI.rd {w : World} {B B' : Nat} {k : IntKind} {v : Value} {xs : List Int} (h : OwnI w B k v xs) : RdV B' w k v xs := by
  rcases h with ⟨rfl, rfl⟩ | ⟨g, cap, cur, t, rfl, hb, hg, ht, h1, h2, h3, hc⟩
  · exact RdV.nil _ _ _
  · refine ⟨some ⟨g, 0, none⟩, cap, rfl, rfl, h1, h3, fun j hj => ⟨_, rfl, ?_⟩, fun _ a e => ?_⟩
    · rw [addr_add, Nat.zero_add, cell_of_row w g j cur t (0, 0) hg]
      have : (cur.toList.take xs.length)[j]? = some (.int k (nth xs j)) := by rw [hc, List.getElem?_map, nth_lt hj]; rfl
      rw [List.getElem?_take] at this
      simpa [hj] using this
    · cases e
      exact ⟨lt_of_get hg, .inr ⟨cur, t, _, hg, ht⟩⟩
theorem OwnI.rds {w : World} {B B' : Nat} {k : IntKind} {A : Option Addr} {n c : Nat} {xs : List Int} (h : OwnI w B k (.slice A n c) xs) : Rds B' w k A n c xs := by
  obtain ⟨A', c', e, hr⟩ := h.rd (B' := B')
  injection e with e1 e2 e3
  subst e1; subst e2; subst e3
  exact hr
theorem OwnI.kept {w w' : World} {B : Nat} {k : IntKind} {v : Value} {xs : List Int} (h : OwnI w B k v xs) {row : Option Nat} (hg : w.grownBy w' row) (hne : v.ownBlock = none ∨ v.ownBlock ≠ row) : OwnI w' B k v xs := by
  rcases h with h | ⟨g, cap, cur, t, rfl, hb, hgg, r⟩
  · exact .inl h
  · refine .inr ⟨g, cap, cur, t, rfl, hb, ?_, r⟩
    rw [hg.block g (lt_of_get hgg) (by simpa [Value.ownBlock] using hne)]
    exact hgg
theorem OwnI.frm {w w' : World} {B : Nat} {k : IntKind} {v : Value} {xs : List Int} (h : OwnI w B k v xs) {B' : Nat} (hf : Frm spO B' w w') : OwnI w' B k v xs := by
  rcases h with h | ⟨g, cap, cur, t, rfl, hb, hgg, ht, r⟩
  · exact .inl h
  · exact .inr ⟨g, cap, cur, t, rfl, hb, hf.block _ _ hgg (.inr (by simpa [spO] using ht)), ht, r⟩
theorem OwnI.below {w w' : World} {B : Nat} {k : IntKind} {v : Value} {xs : List Int} (h : OwnI w B k v xs) (hf : Below w.heap.size w w') : OwnI w' B k v xs := h.frm (B' := 0) (.of_below hf)
theorem OwnI.lt {w : World} {B : Nat} {k : IntKind} {v : Value} {xs : List Int} (h : OwnI w B k v xs) : ∀ q, v.ownBlock = some q → B ≤ q ∧ q < w.heap.size := by
  intro q hq
  rcases h with ⟨_, rfl⟩ | ⟨g, cap, cur, t, rfl, hb, hgg, _⟩
  · simp [Value.ownBlock] at hq
  · simp [Value.ownBlock] at hq
    subst hq
    exact ⟨hb, lt_of_get hgg⟩
theorem OwnI.slice {w : World} {B : Nat} {k : IntKind} {v : Value} {xs : List Int} (h : OwnI w B k v xs) : ∃ A c, v = .slice A xs.length c := by
  rcases h with ⟨rfl, rfl⟩ | ⟨g, cap, cur, t, rfl, _⟩
  · exact ⟨none, 0, rfl⟩
  · exact ⟨_, _, rfl⟩
theorem OwnI.form {w : World} {B : Nat} {k : IntKind} {v : Value} {xs : List Int} (h : OwnI w B k v xs) (h0 : 0 < xs.length) : ∃ g cap, v = .slice (some ⟨g, 0, none⟩) xs.length cap ∧ B ≤ g ∧ g < w.heap.size ∧ xs.length ≤ cap ∧
    (∀ j, j < xs.length → w.cell? ⟨g, j, none⟩ = some (.int k (nth xs j))) ∧ (∀ j, w.frozen? ⟨g, j, none⟩ = false) ∧ (∀ j x, j < xs.length → OwnI (w.setCell ⟨g, j, none⟩ (.int k x)) B k v (xs.set j x)) := by
  rcases h with ⟨rfl, _⟩ | ⟨g, cap, cur, t, rfl, hb, hg, ht, h1, h2, h3, hc⟩
  · simp at h0
  · refine ⟨g, cap, rfl, hb, lt_of_get hg, h1, fun j hj => ?_, fun j => frozen_of_row w g j cur t hg, fun j x hj => ?_⟩
    · rw [cell_of_row w g j cur t (0, 0) hg]
      have : (cur.toList.take xs.length)[j]? = some (.int k (nth xs j)) := by rw [hc, List.getElem?_map, nth_lt hj]; rfl
      rw [List.getElem?_take] at this
      simpa [hj] using this
    · refine .inr ⟨g, cap, cur.setIfInBounds j (.int k x), t, by simp, hb, ?_, ht, by simpa using h1, by simpa using h2, h3, ?_⟩
      · exact heap_setCell_same w g j cur t _ hg
      · simp only [Array.toList_setIfInBounds, List.length_set]
        rw [List.take_set, hc, List.map_set]
/-- A block of numbers just made, and the slice over it. -/
theorem OwnI.fresh {w : World} {B : Nat} {k : IntKind} {xs : List Int} {t : Nat} (hB : B ≤ w.heap.size) (ht : spT t = false) (hm : xs.length ≤ 9223372036854775807) :
    OwnI (w.alloc (.cells (xs.map (Value.int k)).toArray t)) B k (.slice (some ⟨w.heap.size, 0, none⟩) xs.length xs.length) xs :=
  .inr ⟨w.heap.size, xs.length, _, t, rfl, hB, heap_alloc_new w _, ht, Nat.le_refl _, by simp, hm, by simp [List.take_of_length_le]⟩
theorem OwnI.setBelow {w : World} {B : Nat} {k : IntKind} {v : Value} {xs : List Int} (h : OwnI w B k v xs) {p : Addr} (hp : p.block < B) (u : Value) : OwnI (w.setCell p u) B k v xs := by
  rcases h with h | ⟨g, cap, cur, t, rfl, hb, hgg, r⟩
  · exact .inl h
  · refine .inr ⟨g, cap, cur, t, rfl, hb, ?_, r⟩
    rw [Below.heap_setCell w p u g (by omega)]
    exact hgg
/-- The row of no element. -/
theorem OwnI.empty {w : World} {B : Nat} {k : IntKind} {t : Nat} (hB : B ≤ w.heap.size) (ht : spT t = false) : OwnI (w.alloc (.cells #[] t)) B k (.slice (some ⟨w.heap.size, 0, none⟩) 0 0) [] :=
  OwnI.fresh (xs := []) hB ht (by decide)
theorem RdI.one (w : World) (k : IntKind) (x : Int) (t : Nat) : RdI (w.alloc (.cells #[.int k x] t)) k (some ⟨w.heap.size, 0, none⟩) [x] := fun j hj => by
  have : j = 0 := by simp at hj; exact hj
  subst this
  exact ⟨_, rfl, by rw [addr_add]; simp [nth]⟩
theorem RdI.one_at (w : World) (k : IntKind) (x : Int) (t : Nat) {g : Nat} (hg : w.heap.size = g) : RdI (w.alloc (.cells #[.int k x] t)) k (some ⟨g, 0, none⟩) [x] := by
  subst hg; exact RdI.one w k x t
theorem replicate_snoc (k : Nat) (x : Int) : List.replicate k x ++ [x] = List.replicate (k + 1) x := by rw [List.replicate_succ']
theorem below_new {w : World} (o : Obj) : Below w.heap.size w (w.alloc o) := (Below.refl _ _).alloc (Nat.le_refl _) o

theorem i64_or (x y : Int) (i : Nat) (hx₀ : 0 ≤ x) (hx : x % 2 ^ i = 0) (hx₁ : x < 9223372036854775808) (h₀ : 0 ≤ y) (h₁ : y < 2 ^ i) (h₂ : y < 9223372036854775808) : bits .or .i64 x y = x + y :=
  bits_join .i64 63 (by decide) (fun n h0 h1 => by rw [IntKind.wrap_i64]; omega) i x y hx₀ hx (by omega) h₀ h₁ (by omega)
/-! ### append -/
section
variable {P : Program}
theorem run_store_none (a : Addr) (w : World) : (storeCells a []).run P w = .ok () w := by simp [storeCells]

theorem run_app_nil_src {w : World} (t ty e : Nat) (i : TypeInfo) (ht : P.underlying t = some (.slice e)) (hi : P.info? e = some i) (A0 : Option Addr) (n cap : Nat) (hc : n ≤ cap) (A : Option Addr) (c : Nat) :
    (Builtin.append_ #[t, t] ty #[.slice A0 n cap, .slice A 0 c]).run P w = .ok (.slice A0 n cap) w := by
  cases A0 <;> cases A <;> simp [Builtin.append_, run_underlying ht, sizeOf, typeInfo, hi, Builtin.lenOf, hc, Builtin.firstCells, loadCells, loadCellsFrom, run_store_none]

theorem run_app_room {w : World} (t ty e : Nat) (i : TypeInfo) (ht : P.underlying t = some (.slice e)) (hi : P.info? e = some i) (hs : i.size = 1)
    (g n cap : Nat) (cur : Array Value) (T : Nat) (hg : w.heap[g]? = some (.cells cur T (0, 0))) (a : Addr) (m c : Nat) (news : List Value) (hl : news.length = m)
    (hnews : ∀ j u, news[j]? = some u → w.cell? (a.add j) = some u) (h1 : ∀ u ∈ news, u.oneCell' = true) (hroom : n + m ≤ cap) (hfit : n + m ≤ cur.size) :
    (Builtin.append_ #[t, t] ty #[.slice (some ⟨g, 0, none⟩) n cap, .slice (some a) m c]).run P w =
      .ok (.slice (some ⟨g, 0, none⟩) (n + m) cap) (w.setRow g (cur.toList.take n ++ news ++ cur.toList.drop (n + m)).toArray) := by
  have hf := run_firstCells_some (P := P) w i.size m a m c news (by rw [hs]; omega) hnews
  have hst := run_storeCells_at P g (n * i.size) T news 0 cur w hg (by rw [hs]; omega) h1
  rw [hs] at hf hst
  simp only [Nat.add_zero, Nat.mul_one, hl] at hst
  try simp only [Nat.mul_one] at hf
  simp [Builtin.append_, run_underlying ht, sizeOf, typeInfo, hi, hs, Builtin.lenOf, hroom, hf, Addr.add_lit, hst]

/-- append of a row that is read to a row of the call's own. -/
theorem run_app {w : World} (t ty e : Nat) (i : TypeInfo) (z : Value) (k : IntKind) (bytes : Nat) (ht : P.underlying t = some (.slice e)) (hi : P.info? e = some i) (hz : i.zero = some z) (hs : i.size = 1) (hby : i.bytes = bytes) (hzs : z.cells.size = 1) (he : spT e = false)
    {B : Nat} {v : Value} {xs ys : List Int} (hown : OwnI w B k v xs) {A : Option Addr} {m c : Nat} (hr : RdI w k A ys) (hm : ys.length = m) (hB : B ≤ w.heap.size) (hbytes : (xs.length + m) * bytes ≤ 140737488355328) (h63 : xs.length + m ≤ 9223372036854775807) :
    ∃ v' w', (Builtin.append_ #[t, t] ty #[v, .slice A m c]).run P w = .ok v' w' ∧ OwnI w' B k v' (xs ++ ys) ∧ w.grownBy w' v.ownBlock ∧ Below B w w' := by
  by_cases hy : ys = []
  · subst hy
    simp only [List.length_nil] at hm
    subst hm
    rcases hown with ⟨rfl, rfl⟩ | ⟨g, cap, cur, T, rfl, hb, hg, hT, h1, h2, h3, hc⟩
    · exact ⟨_, w, run_app_nil_src t ty e i ht hi none 0 0 (Nat.le_refl _) A c, .inl ⟨rfl, rfl⟩, .refl _ _, Below.refl _ _⟩
    · exact ⟨_, w, run_app_nil_src t ty e i ht hi _ _ cap h1 A c, by rw [List.append_nil]; exact .inr ⟨g, cap, cur, T, rfl, hb, hg, hT, h1, h2, h3, hc⟩, .refl _ _, Below.refl _ _⟩
  · have hpos : 0 < ys.length := List.length_pos_iff.2 hy
    obtain ⟨b, o, rfl, hcell⟩ := hr.at_ hpos
    have hnews : ∀ j u, (ys.map (Value.int k))[j]? = some u → w.cell? ((⟨b, o, none⟩ : Addr).add j) = some u := by
      intro j u hu
      have hj : j < ys.length := by simpa using (List.getElem?_eq_some_iff.1 hu).1
      rw [addr_add, hcell j hj]
      rw [List.getElem?_map, nth_lt hj] at hu
      exact hu
    have hl : (ys.map (Value.int k)).length = m * i.size := by rw [hs]; simp [hm]
    have grown : ∀ (old : Nat), old < xs.length + m → ∀ (row : Option Nat) (W : World), W = (w.drew.alloc (.cells ((xs.map (Value.int k)).toArray ++ (ys.map (Value.int k)).toArray ++ Builtin.zeroCells z.cells (grownCap w (xs.length + m) old e - (xs.length + m))) e)) →
        OwnI W B k (.slice (some ⟨w.heap.size, 0, none⟩) (xs.length + m) (grownCap w (xs.length + m) old e)) (xs ++ ys) ∧ w.grownBy W row ∧ Below B w W := by
      intro old ho row W hW
      have hge := grownCap_ge w (xs.length + m) old e
      have hcm : grownCap w (xs.length + m) old e ≤ 9223372036854775807 := by
        have := grownCap_le_maxLen w (xs.length + m) old e (by simp only [maxLen]; omega)
        simpa only [maxLen] using this
      subst hW
      refine ⟨OwnI.new (t := e) (heap_alloc_new w.drew _) hB he (by simp [hm]) hge ?_ hcm ?_, ⟨rfl, rfl, rfl, by simp, fun q hq _ => (Array.getElem?_push_lt hq).trans (Array.getElem?_eq_getElem hq).symm⟩, ((Below.refl _ _).drew).alloc hB _⟩
      · simp only [Array.size_append, List.size_toArray, List.length_map, size_zeroCells, hzs, hm]
        omega
      · simp only [Array.toList_append, List.append_assoc, List.map_append]
        rw [← List.append_assoc]
        rw [show xs.length + m = (xs.map (Value.int k) ++ ys.map (Value.int k)).length from by simp [hm]]
        exact List.take_left
    rcases hown with ⟨rfl, rfl⟩ | ⟨g, cap, cur, T, rfl, hb, hg, hT, h1, h2, h3, hc⟩
    · have hrun := run_append_nil (P := P) w t ty e i z ht hi hz ⟨b, o, none⟩ m c _ hl hnews (by omega) (by simp at h63; omega) (by rw [hby]; simp at hbytes; omega)
      have hgr := grown 0 (by simp; omega) (Value.ownBlock (.slice none 0 0)) _ rfl
      simp only [List.length_nil, Nat.zero_add, List.map_nil, List.nil_append, Array.empty_append] at hgr
      exact ⟨_, _, hrun, hgr.1, hgr.2.1, hgr.2.2⟩
    · by_cases hroom : xs.length + m ≤ cap
      · have hrun := run_app_room t ty e i ht hi hs g xs.length cap cur T hg ⟨b, o, none⟩ m c (ys.map (Value.int k)) (by simpa using hm) hnews (ints_oneCell k ys) hroom (by omega)
        refine ⟨_, _, hrun, OwnI.new (t := T) (setRow_heap w g cur _ T _ hg) hb hT (by simp [hm]) hroom ?_ h3 ?_, ⟨rfl, rfl, rfl, by simp, fun q _ hq => setRow_other w g q _ (fun e => hq (by simp [Value.ownBlock, e]))⟩, ⟨rfl, rfl, rfl, by simp, fun q hq => setRow_other w g q _ (by omega)⟩⟩
        · simp only [List.size_toArray, List.length_append, List.length_take, List.length_drop, Array.length_toList, List.length_map]
          omega
        · rw [hc]
          simp only [List.map_append]
          rw [show xs.length + m = (xs.map (Value.int k) ++ ys.map (Value.int k)).length from by simp [hm]]
          exact List.take_left
      · have holds : ∀ j u, (xs.map (Value.int k))[j]? = some u → w.cell? ((⟨g, 0, none⟩ : Addr).add j) = some u := by
          intro j u hu
          rw [← hc, List.getElem?_take] at hu
          split at hu
          · rw [addr_add, Nat.zero_add, cell_of_row w g j cur T (0, 0) hg]; simpa using hu
          · cases hu
        have hrun := run_append_grow (P := P) w t ty e i z ht hi hz ⟨g, 0, none⟩ xs.length cap (xs.map (Value.int k)) (by rw [hs]; simp) holds ⟨b, o, none⟩ m c _ hl hnews (by omega) (by omega) (growslice_fits (by omega) (by rw [hby]; exact hbytes))
        have hgr := grown cap (by omega) (Value.ownBlock (.slice (some ⟨g, 0, none⟩) xs.length cap)) _ rfl
        exact ⟨_, _, hrun, hgr.1, hgr.2.1, hgr.2.2⟩

theorem wp_app {w : World} {ops : Array Oper} {rest : List Oper} {o : Oper} {a : Act} {Q : Exit → Act → World → Prop} (hgd : o.guard = none) (s x : Operand) (t e : Nat) (i : TypeInfo) (z : Value) (k : IntKind) (bytes : Nat)
    (ho : o.op = .call { callee := .builtin .append, args := #[s, x], argTypes := #[t, t] })
    (ht : P.underlying t = some (.slice e)) (hi : P.info? e = some i) (hz : i.zero = some z) (hs : i.size = 1) (hby : i.bytes = bytes) (hzs : z.cells.size = 1) (he : spT e = false)
    {B : Nat} {v : Value} {xs ys : List Int} {A : Option Addr} {m c : Nat} (hv : a.eval s = v) (hx : a.eval x = .slice A m c) (hown : OwnI w B k v xs) (hr : RdI w k A ys) (hm : ys.length = m) (hB : B ≤ w.heap.size) (hbytes : (xs.length + m) * bytes ≤ 140737488355328) (h63 : xs.length + m ≤ 9223372036854775807)
    (h : ∀ v' w', OwnI w' B k v' (xs ++ ys) → w.grownBy w' v.ownBlock → Below B w w' → wpList P ops Q rest (a.put o.dst v') w') : wpList P ops Q (o :: rest) a w := by
  obtain ⟨v', w', hrun, h1, h2, h3⟩ := run_app (P := P) (w := w) t o.type e i z k bytes ht hi hz hs hby hzs he hown (c := c) hr hm hB hbytes h63
  refine wpList_plain hgd fun K hK => ?_
  unfold Oper.wp execOp
  simp only [ho, resolve, invoke, builtin, Sem.run_bind, Sem.run_pure, Result.andThen_ok, List.map_toArray, List.map_cons, List.map_nil, hv, hx, hrun]
  exact hK _ _ (h v' w' h1 h2 h3)

theorem zeroCells_one (z : Value) (h : z.cells = #[z]) (n : Nat) : (Builtin.zeroCells z.cells n).toList = List.replicate n z := by
  rw [h]
  apply List.ext_getElem?
  intro j
  simp only [Builtin.zeroCells]
  by_cases hj : j < n
  · simp [hj, Nat.mod_one]
  · simp [hj]
theorem run_app_zeros_room {w : World} (t tn ty e : Nat) (i : TypeInfo) (z : Value) (kq kn : IntKind) (ht : P.underlying t = some (.slice e)) (htn : P.underlying tn = some (.int kn)) (hi : P.info? e = some i) (hz : i.zero = some z) (hs : i.size = 1)
    (g n cap : Nat) (cur : Array Value) (T : Nat) (hg : w.heap[g]? = some (.cells cur T (0, 0))) (m : Nat) (h0 : 0 < m) (hzc : z.cells = #[z]) (h1 : z.oneCell' = true) (h63 : m ≤ 9223372036854775807) (h48 : m * i.bytes ≤ 281474976710656) (hroom : n + m ≤ cap) (hfit : n + m ≤ cur.size) :
    (Builtin.append_ #[t, tn] ty #[.slice (some ⟨g, 0, none⟩) n cap, .int kq m]).run P w =
      .ok (.slice (some ⟨g, 0, none⟩) (n + m) cap) (w.setRow g (cur.toList.take n ++ List.replicate m z ++ cur.toList.drop (n + m)).toArray) := by
  have hst := run_storeCells_at P g (n * i.size) T (List.replicate m z) 0 cur w hg (by rw [hs]; simp; omega) (by intro u hu; rw [List.eq_of_mem_replicate hu]; exact h1)
  rw [hs] at hst
  simp only [Nat.add_zero, Nat.mul_one, List.length_replicate] at hst
  have hw : IntKind.i64.wrap (m : Int) = m := by rw [IntKind.wrap_i64]; omega
  have hneg : ¬ ((m : Int) < 0) := by omega
  have h48i : ¬ (281474976710656 < (m : Int) * (i.bytes : Int)) := by
    rw [← Int.natCast_mul]
    omega
  have hm0 : m ≠ 0 := by omega
  have hl := zeroCells_one z hzc m
  simp [Builtin.append_, run_underlying ht, run_underlying htn, sizeOf, typeInfo, zeroValue, hi, hz, hs, asInt, asIntOf, hw, hneg, h48i, hm0, hroom, Addr.add_lit, hl, hst]
/-- append(s, make(T, m)...) for a row of the call's own. -/
theorem run_app_zeros {w : World} (t tn ty e : Nat) (i : TypeInfo) (k kq kn : IntKind) (bytes : Nat) (ht : P.underlying t = some (.slice e)) (htn : P.underlying tn = some (.int kn)) (hi : P.info? e = some i) (hz : i.zero = some (.int k 0)) (hs : i.size = 1) (hby : i.bytes = bytes) (he : spT e = false)
    {B : Nat} {v : Value} {xs : List Int} (hown : OwnI w B k v xs) {m : Nat} (h0 : 0 < m) (hB : B ≤ w.heap.size) (hbytes : (xs.length + m) * bytes ≤ 140737488355328) (h63 : xs.length + m ≤ 9223372036854775807) :
    ∃ v' w', (Builtin.append_ #[t, tn] ty #[v, .int kq m]).run P w = .ok v' w' ∧ OwnI w' B k v' (xs ++ List.replicate m 0) ∧ w.grownBy w' v.ownBlock ∧ Below B w w' := by
  have hzc : (Value.int k 0).cells = #[.int k 0] := rfl
  have hb1 : m * i.bytes ≤ 281474976710656 := by rw [hby]; have := Nat.mul_le_mul_right bytes (Nat.le_add_left m xs.length); omega
  have grown : ∀ (old : Nat), old < xs.length + m → ∀ (row : Option Nat) (W : World), W = (w.drew.alloc (.cells ((xs.map (Value.int k)).toArray ++ Builtin.zeroCells (Value.int k 0).cells m ++ Builtin.zeroCells (Value.int k 0).cells (grownCap w (xs.length + m) old e - (xs.length + m))) e)) →
      OwnI W B k (.slice (some ⟨w.heap.size, 0, none⟩) (xs.length + m) (grownCap w (xs.length + m) old e)) (xs ++ List.replicate m 0) ∧ w.grownBy W row ∧ Below B w W := by
    intro old ho row W hW
    have hge := grownCap_ge w (xs.length + m) old e
    have hcm : grownCap w (xs.length + m) old e ≤ 9223372036854775807 := by
      have := grownCap_le_maxLen w (xs.length + m) old e (by simp only [maxLen]; omega)
      simpa only [maxLen] using this
    subst hW
    refine ⟨OwnI.new (t := e) (heap_alloc_new w.drew _) hB he (by simp) hge ?_ hcm ?_, ⟨rfl, rfl, rfl, by simp, fun q hq _ => (Array.getElem?_push_lt hq).trans (Array.getElem?_eq_getElem hq).symm⟩, ((Below.refl _ _).drew).alloc hB _⟩
    · simp only [Array.size_append, List.size_toArray, List.length_map, size_zeroCells, hzc]
      simp
      omega
    · simp only [Array.toList_append, List.append_assoc, List.map_append, zeroCells_one _ hzc, List.map_replicate]
      rw [← List.append_assoc]
      rw [show xs.length + m = (xs.map (Value.int k) ++ List.replicate m (Value.int k 0)).length from by simp]
      exact List.take_left
  rcases hown with ⟨rfl, rfl⟩ | ⟨g, cap, cur, T, rfl, hb, hg, hT, h1, h2, h3, hc⟩
  · have hrun := Lib.run_append_nil_zeros (P := P) w t tn ty e i (.int k 0) kq kn ht htn hi hz m h0 (by omega) (by simp at h63; omega) hb1
    have hgr := grown 0 (by simp; omega) (Value.ownBlock (.slice none 0 0)) _ rfl
    simp only [List.length_nil, Nat.zero_add, List.map_nil, List.nil_append, Array.empty_append] at hgr
    exact ⟨_, _, hrun, hgr.1, hgr.2.1, hgr.2.2⟩
  · by_cases hroom : xs.length + m ≤ cap
    · have hrun := run_app_zeros_room t tn ty e i (.int k 0) kq kn ht htn hi hz hs g xs.length cap cur T hg m h0 hzc rfl (by omega) hb1 hroom (by omega)
      refine ⟨_, _, hrun, OwnI.new (t := T) (setRow_heap w g cur _ T _ hg) hb hT (by simp) hroom ?_ h3 ?_, ⟨rfl, rfl, rfl, by simp, fun q _ hq => setRow_other w g q _ (fun e => hq (by simp [Value.ownBlock, e]))⟩, ⟨rfl, rfl, rfl, by simp, fun q hq => setRow_other w g q _ (by omega)⟩⟩
      · simp only [List.size_toArray, List.length_append, List.length_take, List.length_drop, Array.length_toList, List.length_replicate]
        omega
      · rw [hc]
        simp only [List.map_append, List.map_replicate]
        rw [show xs.length + m = (xs.map (Value.int k) ++ List.replicate m (Value.int k 0)).length from by simp]
        exact List.take_left
    · have holds : ∀ j u, (xs.map (Value.int k))[j]? = some u → w.cell? ((⟨g, 0, none⟩ : Addr).add j) = some u := by
        intro j u hu
        rw [← hc, List.getElem?_take] at hu
        split at hu
        · rw [addr_add, Nat.zero_add, cell_of_row w g j cur T (0, 0) hg]; simpa using hu
        · cases hu
      have hf := run_firstCells_some (P := P) w.drew i.size xs.length ⟨g, 0, none⟩ xs.length cap (xs.map (Value.int k)) (by rw [hs]; simp) holds
      have hrun := Lib.run_append_grow_zeros (P := P) w t tn ty e i (.int k 0) kq kn ht htn hi hz (some ⟨g, 0, none⟩) xs.length cap (xs.map (Value.int k)) hf m h0 (by omega) (by omega) (by omega) hb1 (growslice_fits (by omega) (by rw [hby]; exact hbytes))
      have hgr := grown cap (by omega) (Value.ownBlock (.slice (some ⟨g, 0, none⟩) xs.length cap)) _ rfl
      exact ⟨_, _, hrun, hgr.1, hgr.2.1, hgr.2.2⟩
theorem wp_app_run {w : World} {ops : Array Oper} {rest : List Oper} {o : Oper} {a : Act} {Q : Exit → Act → World → Prop} (hgd : o.guard = none) (s x : Operand) (t tn : Nat)
    (ho : o.op = .call { callee := .builtin .append, args := #[s, x], argTypes := #[t, tn] }) {v vx : Value} (hv : a.eval s = v) (hx : a.eval x = vx)
    {v' : Value} {w' : World} (hrun : (Builtin.append_ #[t, tn] o.type #[v, vx]).run P w = .ok v' w') (h : wpList P ops Q rest (a.put o.dst v') w') : wpList P ops Q (o :: rest) a w := Lib.wpList_append_run w hgd s x t tn ho v vx hv hx v' w' hrun h
/-- A region that draws its order, all but its tail only read: the order of the text serves. -/
theorem wp_still_tail {id : Nat} {Q : Exit → Act → World → Prop} {a : Act} {w : World} {l : List Oper} (n : Nat) (hm : P.follows .mixedOrders = true) (hB : Region.lexTailB .any l.toArray n = true)
    (h : ∀ w1, w1 = w.drew → wpStill P l.toArray w1 (fun a' => wpList P l.toArray Q (l.drop n) a' w1) (l.take n) a) : (Code.region id l.toArray true).wp P Q a w :=
  wp_region_still_tail n hm hB (h _ rfl)
theorem wp_still_all {id : Nat} {Q : Exit → Act → World → Prop} {a : Act} {w : World} {l : List Oper} (hm : P.follows .mixedOrders = true) (hB : Region.lexB .any l.toArray = true)
    (h : ∀ w1, w1 = w.drew → wpStill P l.toArray w1 (fun a' => Q .normal a' w1) l a) : (Code.region id l.toArray true).wp P Q a w :=
  wp_region_still_lit hm hB (h _ rfl)
theorem wpStill_op {w : World} {ops : Array Oper} {rest : List Oper} {o : Oper} {a : Act} {Q : Act → Prop} (hgd : o.guard = none) {v : Value}
    (hrun : (execOp a.eval o).run P w = .ok (.value v) w) (h : wpStill P ops w Q rest (a.put o.dst v)) : wpStill P ops w Q (o :: rest) a :=
  wpStill_step fun K hK => by
    rw [if_pos (by simp [Region.wanted, hgd])]
    unfold Oper.still
    rw [hrun]
    exact ⟨rfl, hK _ h⟩
/-- A whole value is read out of a block. -/
theorem run_loadAt_row {w : World} (ty g : Nat) (cs : Array Value) (t : Nat) (fr : Nat × Nat) (d : TypeDesc) (hu : P.underlying ty = some d) (hd : (match d with | .struct _ | .array _ _ => true | _ => false) = true) (hs : (P.info? ty).map (·.size) = some cs.size) (hg : w.heap[g]? = some (.cells cs t fr)) :
    (Instr.loadAt ty (.pointer (some ⟨g, 0, none⟩))).run P w = .ok (.agg cs) w := by
  have hl := run_loadCells_list (P := P) w ⟨g, 0, none⟩ cs.toList (fun j v hj => by
    rw [addr_add, Nat.zero_add, cell_of_row w g j cs t fr hg]
    simpa using hj)
  obtain ⟨i, hi, hsz⟩ := Option.map_eq_some_iff.1 hs
  simp only [Array.length_toList] at hl
  cases d <;> simp at hd <;> simp [Instr.loadAt, Instr.sureAddr, loadVar, isAgg, run_underlying hu, sizeOf, typeInfo, hi, hsz, hl]
theorem wpStill_load_row {w : World} {ops : Array Oper} {rest : List Oper} {o : Oper} {a : Act} {Q : Act → Prop} (hgd : o.guard = none) (ty : Nat) (x : Operand) (ho : o.op = .load ty x) (g : Nat) (hx : a.eval x = .pointer (some ⟨g, 0, none⟩)) (cs : Array Value) (t : Nat) (fr : Nat × Nat) (d : TypeDesc)
    (hu : P.underlying ty = some d) (hd : (match d with | .struct _ | .array _ _ => true | _ => false) = true) (hs : (P.info? ty).map (·.size) = some cs.size) (hg : w.heap[g]? = some (.cells cs t fr))
    (h : wpStill P ops w Q rest (a.put o.dst (.agg cs))) : wpStill P ops w Q (o :: rest) a := by
  refine wpStill_op hgd ?_ h
  unfold execOp
  simp only [ho, hx, Sem.run_bind, run_loadAt_row (P := P) ty g cs t fr d hu hd hs hg, Result.andThen_ok, Sem.run_pure]
/-- An operation whose run is known. -/
theorem wp_op {w w' : World} {ops : Array Oper} {rest : List Oper} {o : Oper} {a : Act} {Q : Exit → Act → World → Prop} (hgd : o.guard = none) {v : Value}
    (hrun : (execOp a.eval o).run P w = .ok (.value v) w') (h : wpList P ops Q rest (a.put o.dst v) w') : wpList P ops Q (o :: rest) a w :=
  wpList_plain hgd fun K hK => by
    unfold Oper.wp
    rw [hrun]
    exact hK _ _ h
theorem wp_op_skip {w w' : World} {ops : Array Oper} {rest : List Oper} {o : Oper} {a : Act} {Q : Exit → Act → World → Prop} (hgd : o.guard = none)
    (hrun : (execOp a.eval o).run P w = .ok .skip w') (h : wpList P ops Q rest (a.put o.dst undef) w') : wpList P ops Q (o :: rest) a w :=
  wpList_plain hgd fun K hK => by
    unfold Oper.wp
    rw [hrun]
    exact hK _ _ h
theorem wp_convert {w w' : World} {ops : Array Oper} {rest : List Oper} {o : Oper} {a : Act} {Q : Exit → Act → World → Prop} (hgd : o.guard = none) (src dst : TypeId) (x : Operand) (ho : o.op = .convert src dst x) {u v : Value} (hx : a.eval x = u)
    (hrun : (convert src dst u).run P w = .ok v w') (h : wpList P ops Q rest (a.put o.dst v) w') : wpList P ops Q (o :: rest) a w := by
  refine wp_op hgd ?_ h
  unfold execOp
  simp only [ho, hx, Sem.run_bind, hrun, Result.andThen_ok, Sem.run_pure]
/-- A whole value is stored over a block. -/
theorem run_storeAt_row {w : World} (ty : Nat) (g : Nat) (cur cs : Array Value) (t : Nat) (hs : (P.info? ty).map (·.size) = some cs.size) (hg : w.heap[g]? = some (.cells cur t (0, 0))) (hc : cur.size = cs.size) (h1 : ∀ v ∈ cs.toList, v.oneCell' = true) :
    (Instr.storeAt ty (.pointer (some ⟨g, 0, none⟩)) (.agg cs)).run P w = .ok () (w.setRow g cs) := by
  have hst := run_storeCells_at P g 0 t cs.toList 0 cur w hg (by simp; omega) h1
  obtain ⟨i, hi, hsz⟩ := Option.map_eq_some_iff.1 hs
  simp only [Nat.add_zero, List.take_zero, List.nil_append, Nat.zero_add] at hst
  rw [List.drop_eq_nil_of_le (by simp; omega), List.append_nil] at hst
  simp [Instr.storeAt, Instr.sureAddr, storeVar, sizeOf, typeInfo, hi, hsz, Value.cells, hst]
theorem wp_store_new {w0 : World} {ops : Array Oper} {rest : List Oper} {o : Oper} {a : Act} {Q : Exit → Act → World → Prop} (hgd : o.guard = none) (hdst : o.dst = none) (ty : Nat) (x y : Operand) (ho : o.op = .store ty x y) (cur cs : Array Value) (t : Nat) (g : Nat) (hgs : w0.heap.size = g) (hx : a.eval x = .pointer (some ⟨g, 0, none⟩)) (hy : a.eval y = .agg cs)
    (hs : (P.info? ty).map (·.size) = some cs.size) (hc : cur.size = cs.size) (h1 : ∀ v ∈ cs.toList, v.oneCell' = true)
    (h : wpList P ops Q rest a (w0.alloc (.cells cs t))) : wpList P ops Q (o :: rest) a (w0.alloc (.cells cur t)) := by
  subst hgs
  have hrun := run_storeAt_row (P := P) ty w0.heap.size cur cs t hs (heap_alloc_new w0 _) hc h1
  rw [World.setRow_alloc_new] at hrun
  refine wp_op_skip hgd ?_ (by rw [hdst]; exact h)
  unfold execOp
  simp only [ho, hx, hy, Sem.run_bind, hrun, Result.andThen_ok, Sem.run_pure]
/-- copy into the block that was made last. -/
theorem wp_copy_new {w0 : World} {ops : Array Oper} {rest : List Oper} {o : Oper} {a : Act} {Q : Exit → Act → World → Prop} (hgd : o.guard = none) (d s : Operand) (dT sT : TypeId)
    (ho : o.op = .call { callee := .builtin .copy, args := #[d, s], argTypes := #[dT, sT] }) (elem : TypeId) (hu : P.underlying dT = some (.slice elem)) (hsz : (P.info? elem).map (·.size) = some 1)
    (g : Nat) (hgs : w0.heap.size = g) (off dLen dCap : Nat) (ad : Addr) (sLen sCap : Nat) (hd : a.eval d = .slice (some ⟨g, off, none⟩) dLen dCap) (hs : a.eval s = .slice (some ad) sLen sCap)
    (cur : Array Value) (t : TypeId) (cs : List Value) (hn : cs.length = Nat.min sLen dLen)
    (hsrc : ∀ j v, cs[j]? = some v → (w0.alloc (.cells cur t)).cell? (ad.add j) = some v) (hfit : off + cs.length ≤ cur.size) (h1 : ∀ v ∈ cs, v.oneCell' = true)
    (out : Array Value) (hout : out = (cur.toList.take off ++ (cs ++ cur.toList.drop (off + cs.length))).toArray)
    (h : wpList P ops Q rest (a.put o.dst (goInt cs.length)) (w0.alloc (.cells out t))) : wpList P ops Q (o :: rest) a (w0.alloc (.cells cur t)) := by
  subst hgs
  refine wpList_copy_own hgd d s dT sT ho elem hu hsz w0.heap.size off dLen dCap ad sLen sCap hd hs cur t (heap_alloc_new _ _) cs hn hsrc hfit h1 ?_
  rw [World.setRow_alloc_new, ← hout]
  exact h
/-- The cells of a row that is read, as the laws on append and copy want them. -/
theorem news_of0 {w : World} {k : IntKind} {b o : Nat} {ys : List Int} (hcell : ∀ j, j < ys.length → w.cell? ⟨b, o + j, none⟩ = some (.int k (nth ys j))) :
    ∀ j u, (ys.map (Value.int k))[j]? = some u → w.cell? ((⟨b, o, none⟩ : Addr).add j) = some u := by
  intro j u hu
  have hj : j < ys.length := by simpa using (List.getElem?_eq_some_iff.1 hu).1
  rw [addr_add, hcell j hj]
  rw [List.getElem?_map, nth_lt hj] at hu
  exact hu
/-- copy of a row that is read into a block. -/
theorem wp_copy_row {w : World} {ops : Array Oper} {rest : List Oper} {o : Oper} {a : Act} {Q : Exit → Act → World → Prop} (hgd : o.guard = none) (d s : Operand) (dT sT : TypeId)
    (ho : o.op = .call { callee := .builtin .copy, args := #[d, s], argTypes := #[dT, sT] }) (elem : TypeId) (hu : P.underlying dT = some (.slice elem)) (hsz : (P.info? elem).map (·.size) = some 1)
    (g off dLen dCap : Nat) (A : Option Addr) (m sCap : Nat) (hd : a.eval d = .slice (some ⟨g, off, none⟩) dLen dCap) (hs : a.eval s = .slice A m sCap)
    (cur : Array Value) (t : TypeId) (hg : w.heap[g]? = some (.cells cur t (0, 0))) (k : IntKind) (ys : List Int) (hr : RdI w k A ys) (hm : ys.length = m) (hle : m ≤ dLen) (hfit : off + m ≤ cur.size)
    (h : wpList P ops Q rest (a.put o.dst (goInt m)) (w.setRow g (cur.toList.take off ++ (ys.map (Value.int k) ++ cur.toList.drop (off + m))).toArray)) : wpList P ops Q (o :: rest) a w := by
  by_cases h0 : m = 0
  · subst h0
    have : ys = [] := List.eq_nil_of_length_eq_zero hm
    subst this
    refine wpList_copy_nothing hgd d s dT sT ho elem hu hsz _ _ dLen dCap 0 sCap hd hs (by simp) ?_
    simp only [List.map_nil, List.nil_append, Nat.add_zero, List.take_append_drop] at h
    rw [setRow_self w g cur t _ hg] at h
    exact h
  · obtain ⟨b, o', rfl, hc⟩ := hr.at_ (by omega)
    refine wpList_copy_own hgd d s dT sT ho elem hu hsz g off dLen dCap ⟨b, o', none⟩ m sCap hd hs cur t hg (ys.map (Value.int k)) (by simp only [List.length_map, hm]; exact (Nat.min_eq_left hle).symm) (news_of0 hc) (by simp [hm]; exact hfit) (ints_oneCell k ys) ?_
    simp only [List.length_map, hm]
    exact h
theorem news_of {w : World} {k : IntKind} {b o : Nat} {ys : List Int} (hcell : ∀ j, j < ys.length → w.cell? ⟨b, o + j, none⟩ = some (.int k (nth ys j))) :
    ∀ j u, (ys.map (Value.int k))[j]? = some u → w.cell? ((⟨b, o, none⟩ : Addr).add j) = some u := by
  intro j u hu
  have hj : j < ys.length := by simpa using (List.getElem?_eq_some_iff.1 hu).1
  rw [addr_add, hcell j hj]
  rw [List.getElem?_map, nth_lt hj] at hu
  exact hu
end
end Go.Proofs.YtbfgoojpbhlboaaDoor
